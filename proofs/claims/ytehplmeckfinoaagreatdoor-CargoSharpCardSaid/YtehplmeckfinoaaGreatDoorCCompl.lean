/- Ends are sharp: a package can have each weight between its ends; the plain law (no dump). -/
import Derived.Test.YtehplmeckfinoaaGreatDoorCTreesP
import Derived.Test.YtehplmeckfinoaaGreatDoorCModel
import Derived.Test.YtehplmeckfinoaaGreatDoorCComp
import Derived.Deep.OwnRows
import Derived.StillTailTactics
set_option linter.unusedSimpArgs false
set_option linter.unusedVariables false
namespace Go.Proofs.YtehplmeckfinoaaGreatDoor
mutual
def setO (p w : Int) : Tr → Tr
 | .node b f ks => .node b (if f.pack = p then { f with ownL := w, ownH := w } else f) (setOL p w ks)
def setOL (p w : Int) : List Tr → List Tr
 | [] => []
 | k :: r => setO p w k :: setOL p w r
end
inductive Rn : Tr → Prop
 | node {b : Nat} {f : Nf} {ks : List Tr} (h0 : 0 ≤ f.missing) (hn : ¬ (min (f.missing * 100000 + sumOwn ks) f.sumH < max (f.missing + sumLow ks) f.sumL ∨ f.ownH < max (f.missing + sumLow ks) f.sumL)) (hl : f.low = max f.ownL (max (f.missing + sumLow ks) f.sumL)) (ho : f.ownL ≤ f.ownH) (hk : ∀ k ∈ ks, Rn k) : Rn (.node b f ks)
theorem Rn.bd {t : Tr} (h : Rn t) : t.f.ownL ≤ t.f.low ∧ t.f.low ≤ t.f.ownH := by
 cases h with
 | node h0 hn hl ho hk => simp only [f_node]; omega
theorem Rn.sums : ∀ {ks : List Tr}, (∀ k ∈ ks, Rn k) → sumLow ks ≤ sumOwn ks
 | [], _ => by simp [sumLow, sumOwn]
 | k :: r, h => by
   have h1 := (h k (by simp)).bd
   have h2 := Rn.sums (ks := r) (fun x hx => h x (List.mem_cons_of_mem _ hx))
   simp only [sumLow_cons, sumOwn_cons]
   omega
mutual
theorem rise_rn : ∀ (t t' : Tr), (∀ k ∈ t :: t.pre, 0 ≤ k.f.missing ∧ k.f.ownL ≤ k.f.ownH) → riseT t = some t' → Rn t' ∧ t'.f.pack = t.f.pack
 | .node b f ks, t', hm, h => by
   unfold riseT at h
   cases e : riseL ks with
   | none => rw [e] at h; simp at h
   | some ks' =>
     rw [e] at h
     simp only at h
     split at h
     · cases h
     · rename_i hn
       cases h
       have h1 := hm (.node b f ks) (by simp)
       simp only [f_node] at h1
       exact ⟨.node h1.1 hn rfl h1.2 (rise_rnL ks ks' (fun k hk => hm k (List.mem_cons_of_mem _ (by simpa [Tr.pre] using hk))) e), rfl⟩
theorem rise_rnL : ∀ (ks ks' : List Tr), (∀ k ∈ preL ks, 0 ≤ k.f.missing ∧ k.f.ownL ≤ k.f.ownH) → riseL ks = some ks' → ∀ k ∈ ks', Rn k
 | [], ks', _, h => by unfold riseL at h; cases h; simp
 | x :: r, ks', hm, h => by
   unfold riseL at h
   cases e : riseT x with
   | none => rw [e] at h; simp at h
   | some x' =>
     rw [e] at h
     simp only at h
     cases e2 : riseL r with
     | none => rw [e2] at h; simp at h
     | some r' =>
       rw [e2] at h
       cases h
       intro k hk
       rcases List.mem_cons.1 hk with rfl | hk
       · exact (rise_rn x _ (fun q hq => by
          rcases List.mem_cons.1 hq with rfl | hq
          · exact hm _ (by simp [preL])
          · exact hm q (by simp [preL, hq])) e).1
       · exact rise_rnL r r' (fun q hq => hm q (by simp [preL, hq])) e2 k hk
end
def packsT (t : Tr) : List Int := (t :: t.pre).map (fun k => k.f.pack)
def packsL (ks : List Tr) : List Int := (preL ks).map (fun k => k.f.pack)
theorem packsL_cons (k : Tr) (r : List Tr) : packsL (k :: r) = packsT k ++ packsL r := by simp [packsL, packsT, preL]
theorem packsT_node (b : Nat) (f : Nf) (ks : List Tr) : packsT (.node b f ks) = f.pack :: packsL ks := by simp [packsT, packsL, Tr.pre, Tr.f]
mutual
theorem set_not (p w : Int) : ∀ (u : Tr) (lo hi : Int), Rn u → p ∉ packsT u → ∃ r, riseT (setO p w (sinkT lo hi u)) = some r ∧ r.f.low = u.f.low ∧ r.f.ownH = u.f.ownH
 | .node b f ks, lo, hi, h, hp => by
   cases h with
   | node h0 hn hl ho hk =>
     rw [packsT_node, List.mem_cons, not_or] at hp
     obtain ⟨rs, g1, g2, g3⟩ := set_notL p w ks _ _ _ _ hk hp.2
     unfold sinkT
     simp only [setO]
     rw [if_neg (fun e => hp.1 e.symm)]
     unfold riseT
     rw [g1]
     simp only
     rw [if_neg (by rw [g2, g3]; exact hn)]
     refine ⟨_, rfl, ?_, rfl⟩
     simp only [f_node]
     rw [g2, hl]
theorem set_notL (p w : Int) : ∀ (ks : List Tr) (top sl low high : Int), (∀ k ∈ ks, Rn k) → p ∉ packsL ks → ∃ rs, riseL (setOL p w (sinkL top sl low high ks)) = some rs ∧ sumLow rs = sumLow ks ∧ sumOwn rs = sumOwn ks
 | [], _, _, _, _, _, _ => ⟨[], by simp only [sinkL, setOL]; unfold riseL; rfl, rfl, rfl⟩
 | k :: r, top, sl, low, high, h, hp => by
   rw [packsL_cons, List.mem_append, not_or] at hp
   obtain ⟨k', a1, a2, a3⟩ := set_not p w k (max k.f.low (sl - (high - k.f.ownH))) (min k.f.ownH (top - (low - k.f.low))) (h k (by simp)) hp.1
   obtain ⟨r', b1, b2, b3⟩ := set_notL p w r top sl low high (fun x hx => h x (List.mem_cons_of_mem _ hx)) hp.2
   refine ⟨k' :: r', by simp only [sinkL, setOL]; unfold riseL; rw [a1]; simp only; rw [b1], ?_, ?_⟩
   · simp only [sumLow_cons, a2, b2]
   · simp only [sumOwn_cons, a3, b3]
end
mutual
theorem sink_packsT : ∀ (u : Tr) (lo hi : Int), packsT (sinkT lo hi u) = packsT u
 | .node b f ks, lo, hi => by
   unfold sinkT
   rw [packsT_node, packsT_node, sink_packsL ks]
theorem sink_packsL : ∀ (ks : List Tr) (top sl low high : Int), packsL (sinkL top sl low high ks) = packsL ks
 | [], _, _, _, _ => by simp [sinkL]
 | k :: r, top, sl, low, high => by
   simp only [sinkL]
   rw [packsL_cons, packsL_cons, sink_packsT k, sink_packsL r]
end
def endsIn (s : Tr) (p w : Int) : Prop := ∃ k ∈ s :: s.pre, k.f.pack = p ∧ k.f.endL ≤ w ∧ w ≤ k.f.endH
mutual
theorem set_in (p w : Int) : ∀ (u : Tr) (lo hi : Int), Rn u → (packsT u).Nodup → (u.f.pack = p → u.f.low ≤ lo) → u.f.low ≤ hi → hi ≤ u.f.ownH → endsIn (sinkT lo hi u) p w →
 ∃ r, riseT (setO p w (sinkT lo hi u)) = some r ∧ r.f.low ≤ hi ∧ r.f.low ≤ r.f.ownH ∧ (r.f.ownH = u.f.ownH ∨ lo ≤ r.f.ownH)
 | .node b f ks, lo, hi, h, hn, h1, h2, h3, he => by
   have hrn := h
   cases h with
   | node h0 hf hl ho hk =>
     rw [packsT_node, List.nodup_cons] at hn
     simp only [f_node] at h1 h2 h3
     by_cases hp : f.pack = p
     · have h1' := h1 hp
       subst hp
       obtain ⟨rs, g1, g2, g3⟩ := set_notL f.pack w ks (min f.sumH hi) f.sumL (f.missing + sumLow ks) (f.missing * 100000 + sumOwn ks) hk hn.1
       have hw : lo ≤ w ∧ w ≤ hi := by
        obtain ⟨k, hk1, hk2, hk3⟩ := he
        rcases List.mem_cons.1 hk1 with rfl | hk1
        · simpa [sinkT, Tr.f] using hk3
        · exfalso
          have h4 : k.f.pack ∈ packsL (sinkL (min f.sumH hi) f.sumL (f.missing + sumLow ks) (f.missing * 100000 + sumOwn ks) ks) := List.mem_map.2 ⟨k, by simpa [sinkT, Tr.pre] using hk1, rfl⟩
          rw [hk2, sink_packsL] at h4
          exact hn.1 h4
       unfold sinkT
       simp only [setO, if_true]
       unfold riseT
       rw [g1]
       simp only
       rw [if_neg (by rw [g2, g3]; omega)]
       refine ⟨_, rfl, ?_, ?_, .inr ?_⟩ <;> (try simp only [f_node]) <;> (try rw [g2]) <;> (try rw [g3]) <;> omega
     · have hin : ∃ k ∈ preL (sinkL (min f.sumH hi) f.sumL (f.missing + sumLow ks) (f.missing * 100000 + sumOwn ks) ks), k.f.pack = p ∧ k.f.endL ≤ w ∧ w ≤ k.f.endH := by
        obtain ⟨k, hk1, hk2, hk3⟩ := he
        rcases List.mem_cons.1 hk1 with rfl | hk1
        · exact absurd (by simpa [sinkT, Tr.f] using hk2) hp
        · exact ⟨k, by simpa [sinkT, Tr.pre] using hk1, hk2, hk3⟩
       obtain ⟨rs, g1, g2, g3, g4⟩ := set_inL p w ks (min f.sumH hi) f.sumL (f.missing + sumLow ks) (f.missing * 100000 + sumOwn ks) hk hn.2 (by omega) (by omega) hin
       unfold sinkT
       simp only [setO]
       rw [if_neg hp]
       unfold riseT
       rw [g1]
       simp only
       rw [if_neg (by omega)]
       refine ⟨_, rfl, ?_, ?_, .inl rfl⟩ <;> simp only [f_node] <;> omega
theorem set_inL (p w : Int) : ∀ (ks : List Tr) (top sl low high : Int), (∀ k ∈ ks, Rn k) → (packsL ks).Nodup → low ≤ top → sl ≤ high → (∃ k ∈ preL (sinkL top sl low high ks), k.f.pack = p ∧ k.f.endL ≤ w ∧ w ≤ k.f.endH) →
 ∃ rs, riseL (setOL p w (sinkL top sl low high ks)) = some rs ∧ sumLow rs ≤ sumLow ks + (top - low) ∧ sumOwn ks + (sl - high) ≤ sumOwn rs ∧ sumLow rs ≤ sumOwn rs
 | [], _, _, _, _, _, _, _, _, hin => by obtain ⟨k, hk, _⟩ := hin; simp [sinkL, preL] at hk
 | k :: r, top, sl, low, high, h, hn, h1, h2, hin => by
   rw [packsL_cons, List.nodup_append] at hn
   obtain ⟨n1, n2, n3⟩ := hn
   have hkb := (h k (by simp)).bd
   obtain ⟨q, hq, hq2, hq3⟩ := hin
   simp only [sinkL, preL, List.mem_cons, List.mem_append] at hq
   have hrs := Rn.sums (fun x hx => h x (List.mem_cons_of_mem _ hx))
   by_cases hpk : p ∈ packsT k
   · have hpr : p ∉ packsL r := fun hm => n3 p hpk p hm rfl
     obtain ⟨r', b1, b2, b3⟩ := set_notL p w r top sl low high (fun x hx => h x (List.mem_cons_of_mem _ hx)) hpr
     have he : endsIn (sinkT (max k.f.low (sl - (high - k.f.ownH))) (min k.f.ownH (top - (low - k.f.low))) k) p w := by
      refine ⟨q, ?_, hq2, hq3⟩
      rcases hq with hq | hq | hq
      · rw [hq]; simp
      · exact List.mem_cons_of_mem _ hq
      · exfalso
        refine hpr ?_
        have h4 : q.f.pack ∈ packsL (sinkL top sl low high r) := List.mem_map.2 ⟨q, hq, rfl⟩
        rw [hq2, sink_packsL] at h4
        exact h4
     obtain ⟨k', a1, a2, a3, a4⟩ := set_in p w k _ _ (h k (by simp)) n1 (fun _ => by omega) (by omega) (by omega) he
     refine ⟨k' :: r', by simp only [sinkL, setOL]; unfold riseL; rw [a1]; simp only; rw [b1], ?_, ?_, ?_⟩
     all_goals
      simp only [sumLow_cons, sumOwn_cons, b2, b3]
      omega
   · obtain ⟨k', a1, a2, a3⟩ := set_not p w k (max k.f.low (sl - (high - k.f.ownH))) (min k.f.ownH (top - (low - k.f.low))) (h k (by simp)) hpk
     have hin2 : ∃ q ∈ preL (sinkL top sl low high r), q.f.pack = p ∧ q.f.endL ≤ w ∧ w ≤ q.f.endH := by
      have hno : ∀ z ∈ sinkT (max k.f.low (sl - (high - k.f.ownH))) (min k.f.ownH (top - (low - k.f.low))) k :: (sinkT (max k.f.low (sl - (high - k.f.ownH))) (min k.f.ownH (top - (low - k.f.low))) k).pre, z.f.pack ≠ p := by
       intro z hz e
       refine hpk ?_
       have h4 : z.f.pack ∈ packsT (sinkT (max k.f.low (sl - (high - k.f.ownH))) (min k.f.ownH (top - (low - k.f.low))) k) := List.mem_map.2 ⟨z, hz, rfl⟩
       rw [e, sink_packsT] at h4
       exact h4
      rcases hq with hq | hq | hq
      · exact absurd hq2 (hno q (by rw [hq]; simp))
      · exact absurd hq2 (hno q (List.mem_cons_of_mem _ hq))
      · exact ⟨q, hq, hq2, hq3⟩
     obtain ⟨r', b1, b2, b3, b4⟩ := set_inL p w r top sl low high (fun x hx => h x (List.mem_cons_of_mem _ hx)) n2 h1 h2 hin2
     refine ⟨k' :: r', by simp only [sinkL, setOL]; unfold riseL; rw [a1]; simp only; rw [b1], ?_, ?_, ?_⟩
     all_goals
      simp only [sumLow_cons, sumOwn_cons, a2, a3]
      omega
end
open Go.RowKit Go.Shelf
def moreF (sl s : Int) (k : Tr) : Int := min (k.f.ownH - k.f.low) (max 0 (sl - s))
def fillL (sl : Int) : Int → List Tr → List Int
 | _, [] => []
 | s, k :: r => (k.f.low + moreF sl s k) :: fillL sl (s + moreF sl s k) r
def sumFill (sl : Int) : Int → List Tr → Int
 | s, [] => s
 | s, k :: r => sumFill sl (s + moreF sl s k) r
mutual
def fillT : Tr → List (Int × Int) → List (Int × Int)
 | .node _ f ks, m => fillKs ks f.sumL (f.missing + sumLow ks) m
def fillKs : List Tr → Int → Int → List (Int × Int) → List (Int × Int)
 | [], _, _, m => m
 | k :: r, sl, s, m => fillKs r sl (s + moreF sl s k) (fillT k (mput m k.f.pack (k.f.low + moreF sl s k)))
end
theorem fillKs_append (sl : Int) : ∀ (a b : List Tr) (s : Int) (m : List (Int × Int)), fillKs (a ++ b) sl s m = fillKs b sl (sumFill sl s a) (fillKs a sl s m)
 | [], b, s, m => by simp [fillKs, sumFill]
 | k :: r, b, s, m => by simp only [List.cons_append, fillKs, sumFill, fillKs_append sl r b]
theorem sumFill_append (sl : Int) : ∀ (a b : List Tr) (s : Int), sumFill sl s (a ++ b) = sumFill sl (sumFill sl s a) b
 | [], b, s => by simp [sumFill]
 | k :: r, b, s => by simp only [List.cons_append, sumFill, sumFill_append sl r b]
theorem fillL_append (sl : Int) : ∀ (a b : List Tr) (s : Int), fillL sl s (a ++ b) = fillL sl s a ++ fillL sl (sumFill sl s a) b
 | [], b, s => by simp [fillL, sumFill]
 | k :: r, b, s => by simp only [List.cons_append, fillL, sumFill, fillL_append sl r b]
theorem fillL_length (sl : Int) : ∀ (a : List Tr) (s : Int), (fillL sl s a).length = a.length
 | [], s => rfl
 | k :: r, s => by simp only [fillL, List.length_cons, fillL_length sl r]
theorem fillL_at (sl s : Int) {ks : List Tr} {k : Nat} {t : Tr} (h : ks[k]? = some t) : (fillL sl s ks)[k]? = some (t.f.low + moreF sl (sumFill sl s (ks.take k)) t) := by
 obtain ⟨h1, h2⟩ := List.getElem?_eq_some_iff.1 h
 have e : ks = ks.take k ++ t :: ks.drop (k + 1) := by rw [← h2, List.getElem_cons_drop, List.take_append_drop]
 conv => lhs; rw [e, fillL_append]
 rw [List.getElem?_append_right (by rw [fillL_length, List.length_take]; omega), fillL_length, List.length_take, Nat.min_eq_left (by omega), Nat.sub_self]
 rfl
def rowV (xs : List Int) : List Value := xs.map (Value.int .i64)
theorem rowV_set (xs : List Int) (i : Nat) (v : Int) : (rowV xs).set i (.int .i64 v) = rowV (xs.set i v) := by unfold rowV; rw [List.map_set]
theorem rowV_length (xs : List Int) : (rowV xs).length = xs.length := by simp [rowV]
theorem BoxG.num {w : World} {g : Nat} {xs : List Int} (h : BoxG w g (rowV xs)) {i : Nat} {v : Int} (hi : xs[i]? = some v) : w.cell? ⟨g, i, none⟩ = some (.int .i64 v) := by
 rw [h.2.2 i (by rw [rowV_length]; exact (List.getElem?_eq_some_iff.1 hi).1)]
 unfold rowV
 rw [List.getElem?_map, hi]; rfl
theorem BoxG.put {w : World} {g : Nat} {xs : List Int} (h : BoxG w g (rowV xs)) {i : Nat} (v : Int) (hi : i < xs.length) : BoxG (w.setCell ⟨g, i, none⟩ (.int .i64 v)) g (rowV (xs.set i v)) := by
 rw [← rowV_set]; exact h.set i _ (by rw [rowV_length]; exact hi)
theorem put_step {a b : List Int} {k : Nat} {v x : Int} {r : List Int} (hk : a.length = k) (hb : b = x :: r) : (a ++ b)[k]? = some x ∧ (a ++ b).set k v = (a ++ [v]) ++ r := by
 subst hb
 subst hk
 refine ⟨by rw [List.getElem?_append_right (Nat.le_refl _), Nat.sub_self]; rfl, ?_⟩
 rw [List.set_append_right _ _ (Nat.le_refl _), Nat.sub_self, List.set_cons_zero, List.append_assoc]; rfl
theorem drop_at {α : Type} {l : List α} {k : Nat} {t : α} (h : l[k]? = some t) : l.drop k = t :: l.drop (k + 1) := by
 obtain ⟨h1, h2⟩ := List.getElem?_eq_some_iff.1 h
 rw [← h2, List.getElem_cons_drop]
def FillPost (w : World) (bm : Nat) (M : List (Int × Int)) (e : Ending) (w' : World) : Prop :=
 e = .returned (.tuple #[]) ∧ Keeps [bm] w w' ∧ MapT Tryz.prog 3 kInt kInt w' bm M
set_option maxRecDepth 100000 in
set_option maxHeartbeats 8000000 in
theorem fill_all (L : List Nat) (bm : Nat) (hbm : bm ∈ L) : ∀ (d : Nat) (t : Tr) (w : World) (weight : Int) (m : List (Int × Int)), t.siz ≤ d → TreeAt L w t → bm ∉ t.bs → Bd t → (∀ k ∈ t.pre, 0 ≤ k.f.low ∧ k.f.low ≤ k.f.ownH) → (∀ k ∈ t.pre, I64 k.f.pack) → MapT Tryz.prog 3 kInt kInt w bm m →
 Calls Tryz.prog 37 #[.pointer (some ⟨t.b, 0, none⟩), .int .i64 weight, .map (some bm)] w (FillPost w bm (fillT t m)) := by
 intro d
 induction d with
 | zero => intro t w weight m hd; have := siz_pos t; omega
 | succ d ih =>
   intro t w weight m hd h hnb hbd hlow hi64 hmap
   obtain ⟨b, f, ks⟩ := t
   obtain ⟨a, cap, hn, hr, ha⟩ := h.at
   have HK := Hd h.kids
   have HBd := Hd hbd
   obtain ⟨⟨m0, m1⟩, ⟨o0, o1, o2⟩, ⟨s0, s1⟩, ⟨s2, s3⟩⟩ := hbd.fb
   have hlen := hbd.len
   simp only [b_node, f_node, ks_node] at *
   have HN := Hd hn
   have HR := Hd hr
   have HM := Hd hmap
   have HA := Hd ha
   have hks : ∀ (l : List Tr), ∀ k ∈ l, k ∈ preL l ∧ ∀ q ∈ k.pre, q ∈ preL l := by
    intro l
    induction l with
    | nil => intro k hk; simp at hk
    | cons x r ih2 =>
      intro k hk
      rcases List.mem_cons.1 hk with rfl | hk
      · exact ⟨by simp [preL], fun q hq => by simp [preL, hq]⟩
      · obtain ⟨i1, i2⟩ := ih2 k hk
        exact ⟨by simp [preL, i1], fun q hq => by have := i2 q hq; simp [preL, this]⟩
   have HP := Hd (show ∀ k ∈ ks, I64 k.f.pack ∧ ∀ q ∈ k.pre, I64 q.f.pack from fun k hk => ⟨hi64 k ((hks ks k hk).1), fun q hq => hi64 q ((hks ks k hk).2 q hq)⟩)
   have HW := Hd (show ∀ k ∈ ks, (0 ≤ k.f.low ∧ k.f.low ≤ k.f.ownH) ∧ ∀ q ∈ k.pre, 0 ≤ q.f.low ∧ q.f.low ≤ q.f.ownH from fun k hk => ⟨hlow k ((hks ks k hk).1), fun q hq => hlow q ((hks ks k hk).2 q hq)⟩)
   have HNb := Hd (show bm ≠ b ∧ ∀ k ∈ ks, bm ∉ k.bs from by
    unfold Tr.bs at hnb
    rw [List.mem_cons, not_or] at hnb
    exact ⟨hnb.1, fun k hk hq => hnb.2 (bsL_mem hk _ hq)⟩)
   have IH := Hd (show ∀ k ∈ ks, ∀ w weight m, TreeAt L w k → MapT Tryz.prog 3 kInt kInt w bm m → Calls Tryz.prog 37 #[.pointer (some ⟨k.b, 0, none⟩), .int .i64 weight, .map (some bm)] w (FillPost w bm (fillT k m)) from fun k hk w weight m hw hm =>
    ih k w weight m (by have := siz_mem hk; unfold Tr.siz at hd; omega) hw (HNb.out.2 k hk) (HBd.out.kids k hk) (HW.out k hk).2 (HP.out k hk).2 hm)
   obtain ⟨V, hV⟩ : ∃ v, fillT (.node b f ks) m = v := ⟨_, rfl⟩
   rw [hV]
   have HV := Hd (show V = fillKs ks f.sumL (f.missing + sumLow ks) m from by rw [← hV]; simp only [fillT])
   have HO := Hd (show ∀ q ∈ ks, q.f.ownH ≤ 1099511627776 from fun q hq => by have h2 := (HBd.out.kids q hq).fb; unfold FB at h2; omega)
   have hmk : ∀ W : World, (Instr.makeSlice 43 (.int .i64 (ks.length : Int)) (.int .i64 (ks.length : Int))).run Tryz.prog W = .ok (.slice (some ⟨W.heap.size, 0, none⟩) ks.length ks.length) (W.alloc (.cells (rowV (List.replicate ks.length 0)).toArray 3)) := fun W => by
    rw [run_make_row' 43 3 (.int .i64 0) 8 Tryz.underlying43 (by kernel_rfl) rfl .i64 .i64 ks.length (by omega) (by omega) W]
    have e1 : madeCells #[Value.int .i64 0] ks.length = (rowV (List.replicate ks.length 0)).toArray := by
     rw [← Array.toList_inj, toList_madeCells_one]
     simp [rowV]
    rw [e1]
   clear ih hd h hbd hr hi64 hmap hV ha hlow hks hnb
   have c16 := hn.c16
   have c21 := hn.c21
   clear hn
   go_enter Tryz.func37, Tryz.ntmps37
   go_upto_region 2 with (fail)
   have hB1 := al' (Below.refl w.heap.size w) (.cells (rowV (List.replicate ks.length 0)).toArray 3)
   have hb1 := BoxG.made w (rowV (List.replicate ks.length 0)) 3
   have hz1 : (w.alloc (.cells (rowV (List.replicate ks.length 0)).toArray 3)).heap.size = w.heap.size + 1 := by simp
   generalize w.alloc (.cells (rowV (List.replicate ks.length 0)).toArray 3) = w1 at *
   obtain ⟨g, hg⟩ : ∃ g, w.heap.size = g := ⟨_, rfl⟩
   have HN1 := Hd (HN.out.keeps (S := []) (Keeps.of_below hB1) (by simp))
   have HG := Hd hg
   rw [hg] at hb1 hz1 ⊢
   have HB1 := Hd hB1
   have Hb1 := Hd hb1
   have HZ1 := Hd hz1
   clear c16 c21 hg hB1 hb1 hmk hz1
   have c16 := HN1.out.c16
   have hgs : ∀ (W : World), Keeps [g] w1 W → NodeAt W b f a ks.length cap ∧ Rd ptrs 1 W a ks.length (ks.map Tr.b) ∧ MapT Tryz.prog 3 kInt kInt W bm m ∧ (∀ k ∈ ks, TreeAt L W k) ∧ Below w.heap.size w W ∧ g < W.heap.size := fun W hW => by
    have hb : Below w.heap.size w W := HB1.out.trans (hW.below (fun x hx => by rw [List.mem_singleton.1 hx, ← HG.out]; exact Nat.le_refl _) HB1.out.size)
    exact ⟨HN.out.keeps (S := []) (Keeps.of_below hb) (by simp), HR.out.below' hb, HM.out.below' hb, fun k hk => (HK.out k hk).below' hb, hb, by have := HZ1.out; have := hW.size; omega⟩
   have HGS := Hd hgs
   clear hgs
   go_upto_region 3 with (fail)
   go_loopw [6, 30] (fun s i wr => ∃ k : Nat, k ≤ ks.length ∧ i = .int .i64 k ∧ s = .int .i64 (f.missing + sumLow (ks.take k)) ∧ 0 ≤ sumLow (ks.take k) ∧ sumLow (ks.take k) ≤ (k : Int) * 1099511627776 ∧ BoxG wr g (rowV ((ks.take k).map (fun q => q.f.low) ++ List.replicate (ks.length - k) 0)) ∧ Keeps [g] w1 wr) (fun _ i _ => ks.length - (intOf i).toNat)
   case atStart => exact ⟨0, Nat.zero_le _, rfl, by simp [sumLow_nil], Int.le_refl _, Int.le_refl _, by simpa using Hb1.out, Keeps.refl _ _⟩
   case round =>
    obtain ⟨k, hk, rfl, rfl, hg0, hg1, hbx, hkp⟩ := hrel
    clear c16
    obtain ⟨hNr, hRr, hMr, hTr, hBr, hgr⟩ := HGS.out wr hkp
    have HKr := Hd hkp
    have HNr := Hd hNr
    have HRr := Hd hRr
    have HTr := Hd hTr
    have HBx := Hd hbx
    have HMr := Hd hMr
    clear hkp hNr hRr hTr hbx hMr hBr
    obtain ⟨S, hS⟩ : ∃ x, sumLow (ks.take k) = x := ⟨_, rfl⟩
    rw [hS] at hg0 hg1 ⊢
    have HSe := Hd hS
    clear hS
    by_cases hlt : k < ks.length
    · obtain ⟨t, ht⟩ : ∃ t, ks[k]? = some t := ⟨_, List.getElem?_eq_getElem hlt⟩
      have hlt' : (k : Int) < (ks.length : Int) := by omega
      obtain ⟨ab, off, xb, rfl, hab, hx, hcell⟩ := HRr.out.ptr hlt
      have hxb : xb = t.b := by rw [List.getElem?_map, ht] at hx; exact (Option.some.inj hx).symm
      subst hxb
      have hmem := List.mem_of_getElem? ht
      have hT := HTr.out t hmem
      obtain ⟨a2, cap2, hn2, _, _⟩ := hT.at
      have hlw := (HW.out t hmem).1
      have hho := HO.out t hmem
      have tl := hn2.lt
      have d22 := hn2.c22
      obtain ⟨lw, hlwe⟩ : ∃ x, t.f.low = x := ⟨_, rfl⟩
      have hst := put_step (a := (ks.take k).map (fun q => q.f.low)) (b := List.replicate (ks.length - k) 0) (k := k) (v := lw) (x := 0) (r := List.replicate (ks.length - (k + 1)) 0) (by rw [List.length_map, List.length_take]; omega) (by rw [show ks.length - k = (ks.length - (k + 1)) + 1 from by omega, List.replicate_succ])
      have hrow : (ks.take k).map (fun q => q.f.low) ++ [lw] = (ks.take (k + 1)).map (fun q => q.f.low) := by rw [take_succ_snoc ht, List.map_append, ← hlwe]; rfl
      rw [hrow] at hst
      have g0 := HBx.out.num hst.1
      have gf := HBx.out.2.1
      have hbx2 := HBx.out.put lw (List.getElem?_eq_some_iff.1 hst.1).1
      rw [hst.2] at hbx2
      have HBx2 := Hd hbx2
      have HK2 := Hd (HKr.out.then_set ⟨g, k, none⟩ (.int .i64 lw) (.inl (by simp)))
      have HT22 := Hd (show ∀ W, Keeps [g] w1 W → W.cell? ⟨t.b, 22, none⟩ = some (.int .i64 lw) ∧ t.b < W.heap.size from fun W hW => by
       obtain ⟨_, _, _, h4, _, _⟩ := HGS.out W hW
       obtain ⟨_, _, h5, _, _⟩ := (h4 t hmem).at
       rw [← hlwe]
       exact ⟨h5.c22, h5.lt⟩)
      have HSs := Hd (show sumLow (ks.take (k + 1)) = S + lw from by rw [take_succ_snoc ht, sumLow_snoc, HSe.out, hlwe])
      rw [hlwe] at d22 hlw
      have hsb : 0 ≤ S + lw ∧ S + lw ≤ ((k + 1 : Nat) : Int) * 1099511627776 := by
       have : ((k + 1 : Nat) : Int) * 1099511627776 = (k : Int) * 1099511627776 + 1099511627776 := by push_cast; omega
       omega
      have HSb := Hd hsb
      have hkb : (k : Int) * 1099511627776 ≤ 1000 * 1099511627776 := by omega
      clear hn2 ht hx hT hmem hbx2 hst hrow hlwe hsb
      go_upto_region 6 with (fail)
      generalize wr.setCell ⟨g, k, none⟩ (.int .i64 lw) = w2 at *
      clear d22 g0 gf tl hcell
      have d22 := (HT22.out w2 HK2.out).1
      have tl := (HT22.out w2 HK2.out).2
      go_wp2_with fail
      exact ⟨⟨k + 1, by omega, by go_num, by rw [HSs.out]; go_num, by rw [HSs.out]; exact HSb.out.1, by rw [HSs.out]; exact HSb.out.2, HBx2.out, HK2.out⟩, by simp [intOf]; omega⟩
    · have hltg : ¬ (k : Int) < (ks.length : Int) := by omega
      have hk2 : k = ks.length := by omega
      have hTk : ks.take k = ks := List.take_of_length_le (by omega)
      have HS2 := Hd (show sumLow ks = S from by have := HSe.out; rwa [hTk] at this)
      have hkb : (k : Int) * 1099511627776 ≤ 1000 * 1099511627776 := by omega
      have gb : 0 ≤ S ∧ S ≤ 1099511627776000 := by omega
      have HB2 := Hd (show BoxG wr g (rowV (ks.map (fun q => q.f.low))) from by have := HBx.out; rw [hTk, hk2, Nat.sub_self] at this; simpa using this)
      have c16 := HNr.out.c16
      have c19 := HNr.out.c19
      clear hk2 hTk hlt hg0 hg1 hkb HSe
      generalize hS0 : f.missing + S = S0 at *
      have HS0 := Hd (show f.missing + sumLow ks = S0 from by rw [HS2.out]; exact hS0)
      have gb0 : 0 ≤ S0 ∧ S0 ≤ 1099511628776 * 1000 := by omega
      clear hS0 gb
      go_upto_region 9 with (fail)
      clear c16 c19
      have HKf := Hd HKr.out
      clear HKr HNr HRr HTr HBx HMr hgr
      generalize hwr0 : wr = wr0 at *
      clear hwr0
      go_loopw [6, 54] (fun s i wr => ∃ k : Nat, k ≤ ks.length ∧ i = .int .i64 k ∧ s = .int .i64 (sumFill f.sumL S0 (ks.take k)) ∧ S0 ≤ sumFill f.sumL S0 (ks.take k) ∧ sumFill f.sumL S0 (ks.take k) ≤ S0 + (k : Int) * 1099511627776 ∧ BoxG wr g (rowV (fillL f.sumL S0 (ks.take k) ++ (ks.drop k).map (fun q => q.f.low))) ∧ Keeps [g] w1 wr) (fun _ i _ => ks.length - (intOf i).toNat)
      case atStart => exact ⟨0, Nat.zero_le _, rfl, rfl, Int.le_refl _, by simp [sumFill], by simpa [fillL] using HB2.out, HKf.out⟩
      case round =>
       obtain ⟨k, hk, rfl, rfl, hg0, hg1, hbx, hkp⟩ := hrel
       obtain ⟨hNr, hRr, hMr, hTr, hBr, hgr⟩ := HGS.out wr hkp
       have HKr := Hd hkp
       have HNr := Hd hNr
       have HRr := Hd hRr
       have HTr := Hd hTr
       have HBx := Hd hbx
       have HMr := Hd hMr
       clear hkp hNr hRr hTr hbx hMr hBr
       obtain ⟨sl, hsl⟩ : ∃ x, f.sumL = x := ⟨_, rfl⟩
       have HSl := Hd hsl
       rw [hsl] at hg0 hg1 HBx s0 s1 ⊢
       obtain ⟨S, hS⟩ : ∃ x, sumFill sl S0 (ks.take k) = x := ⟨_, rfl⟩
       rw [hS] at hg0 hg1 ⊢
       have HSe := Hd hS
       have c19 := HNr.out.c19
       rw [hsl] at c19
       clear hS hsl
       by_cases hlt : k < ks.length
       · obtain ⟨t, ht⟩ : ∃ t, ks[k]? = some t := ⟨_, List.getElem?_eq_getElem hlt⟩
         have hlt' : (k : Int) < (ks.length : Int) := by omega
         obtain ⟨ab, off, xb, rfl, hab, hx, hcell⟩ := HRr.out.ptr hlt
         have hxb : xb = t.b := by rw [List.getElem?_map, ht] at hx; exact (Option.some.inj hx).symm
         subst hxb
         have hmem := List.mem_of_getElem? ht
         have hT := HTr.out t hmem
         obtain ⟨a2, cap2, hn2, _, _⟩ := hT.at
         have hlw := (HW.out t hmem).1
         have hho := HO.out t hmem
         have tl := hn2.lt
         have d22 := hn2.c22
         have d18 := hn2.c18
         obtain ⟨mr, hmr⟩ : ∃ x, moreF sl S t = x := ⟨_, rfl⟩
         have HMe := Hd hmr
         obtain ⟨lw, hlwe⟩ : ∃ x, t.f.low = x := ⟨_, rfl⟩
         obtain ⟨oh, hohe⟩ : ∃ x, t.f.ownH = x := ⟨_, rfl⟩
         have hmr2 : mr = min (oh - lw) (max 0 (sl - S)) := by rw [← hmr, ← hlwe, ← hohe]; rfl
         have hst := put_step (a := fillL sl S0 (ks.take k)) (b := (ks.drop k).map (fun q => q.f.low)) (k := k) (v := lw + mr) (x := lw) (r := (ks.drop (k + 1)).map (fun q => q.f.low)) (by rw [fillL_length, List.length_take]; omega) (by rw [drop_at ht, List.map_cons, hlwe])
         have hrow : fillL sl S0 (ks.take k) ++ [lw + mr] = fillL sl S0 (ks.take (k + 1)) := by
          rw [take_succ_snoc ht, fillL_append, HSe.out, ← hlwe, ← hmr]; rfl
         rw [hrow] at hst
         have g0 := HBx.out.num hst.1
         have gf := HBx.out.2.1
         have hbx2 := HBx.out.put (lw + mr) (List.getElem?_eq_some_iff.1 hst.1).1
         rw [hst.2] at hbx2
         have HSs := Hd (show sumFill sl S0 (ks.take (k + 1)) = S + mr from by rw [take_succ_snoc ht, sumFill_append, HSe.out, ← hmr]; rfl)
         rw [hlwe] at d22 hlw
         rw [hohe] at d18 hlw hho
         have hmb : 0 ≤ mr ∧ mr ≤ 1099511627776 ∧ lw + mr ≤ oh := by omega
         have hsb : S0 ≤ S + mr ∧ S + mr ≤ S0 + ((k + 1 : Nat) : Int) * 1099511627776 := by
          have : ((k + 1 : Nat) : Int) * 1099511627776 = (k : Int) * 1099511627776 + 1099511627776 := by push_cast; omega
          omega
         have HSb := Hd hsb
         have hkb : (k : Int) * 1099511627776 ≤ 1000 * 1099511627776 := by omega
         have gS : 0 ≤ S ∧ S ≤ 1099511627776 * 3000 := by omega
         have HMr2 := Hd hmr2
         have HBx2 := Hd hbx2
         clear hn2 ht hx hT hmem hbx2 hst hrow hlwe hsb hohe hmr hmr2 hkb hg0 hg1
         go_upto_region 11 with (fail)
         go_quiet (fail)
         rw [← HMr2.out]
         have g0' : (wr.drewN nq).cell? ⟨g, k, none⟩ = some (.int .i64 lw) := g0
         have gf' : ∀ j, (wr.drewN nq).frozen? ⟨g, j, none⟩ = false := gf
         have gr' : g < (wr.drewN nq).heap.size := hgr
         have HBx3 := Hd (show BoxG ((wr.drewN nq).setCell ⟨g, k, none⟩ (.int .i64 (lw + mr))) g _ from HBx2.out)
         have HK3 := Hd ((HKr.out.trans (Keeps.of_below (drewN_below wr nq))).then_set ⟨g, k, none⟩ (.int .i64 (lw + mr)) (.inl (by simp)))
         clear g0 gf hgr d22 d18 c19 tl hcell
         generalize wr.drewN nq = w2 at *
         go_wp2_with fail
         exact ⟨⟨k + 1, by omega, by go_num, by rw [HSs.out], by rw [HSs.out]; exact HSb.out.1, by rw [HSs.out]; exact HSb.out.2, HBx3.out, HK3.out⟩, by simp [intOf]; omega⟩
       · have hltg : ¬ (k : Int) < (ks.length : Int) := by omega
         have hk2 : k = ks.length := by omega
         have hTk : ks.take k = ks := List.take_of_length_le (by omega)
         have HB3 := Hd (show BoxG wr g (rowV (fillL sl S0 ks)) from by have := HBx.out; rw [hTk, hk2, List.drop_length, List.map_nil, List.append_nil] at this; exact this)
         have c16 := HNr.out.c16
         have HV3 := Hd (show V = fillKs ks sl S0 m from by rw [HV.out, HSl.out, HS0.out])
         clear hk2 hTk hlt hg0 hg1 HSe HBx HB2 c19
         go_upto_region 16 with (fail)
         clear c16
         have HKg := Hd HKr.out
         have HTg := Hd HTr.out
         have HRg := Hd HRr.out
         have HMg := Hd HMr.out
         have hgg := hgr
         clear HKr HTr HRr HMr HNr hgr gb0 s0 s1
         generalize hwr1 : wr = wr1 at *
         clear hwr1
         have HGB := Hd (show g ≠ bm from by have := HM.out.lt; have := HG.out; omega)
         have HRb := Hd (show 0 < ks.length → ∀ p, a = some p → p.block ∉ [bm] from fun h0 p e hq => HA.out h0 p e (by rw [List.mem_singleton.1 hq]; exact hbm))
         go_loopw [94] (fun i wr => ∃ k : Nat, k ≤ ks.length ∧ i = .int .i64 k ∧ MapT Tryz.prog 3 kInt kInt wr bm (fillKs (ks.take k) sl S0 m) ∧ Keeps [bm] wr1 wr) (fun i _ => ks.length - (intOf i).toNat)
         case atStart => exact ⟨0, Nat.zero_le _, rfl, by simpa [fillKs] using HMg.out, Keeps.refl _ _⟩
         case round =>
          obtain ⟨k, hk, rfl, hmr, hkp⟩ := hrel
          have HKr := Hd hkp
          have HMr := Hd hmr
          have HRr := Hd (hkp.rd HRg.out HRb.out)
          have HTr := Hd (show ∀ q ∈ ks, ∀ W, Keeps [bm] wr1 W → TreeAt L W q from fun q hq W hW => (HTg.out q hq).keeps hW (fun x hx => by rw [List.mem_singleton.1 hx]; exact hbm) (fun x hx hm => HNb.out.2 q hq (by rw [← List.mem_singleton.1 hm]; exact hx)))
          clear hkp hmr
          by_cases hlt : k < ks.length
          case neg =>
           have hltg : ¬ (k : Int) < (ks.length : Int) := by omega
           have hTk : ks.take k = ks := List.take_of_length_le (by omega)
           have HF := Hd (show FillPost w bm V (.returned (.tuple #[])) wr from by
            have h1 := HMr.out
            rw [hTk, ← HV3.out] at h1
            refine ⟨rfl, ?_, h1⟩
            have h2 : Keeps [bm] w wr1 := (Keeps.of_below (S := [bm]) HB1.out).of_later HKg.out (fun x hx => by rw [List.mem_singleton.1 hx, ← HG.out]; exact .inr (Nat.le_refl _))
            exact h2.trans HKr.out)
           clear hTk hlt
           go_wp2_with fail
           exact bodyPost_ret (by simp [results, Tryz.results37, go_sem]) rfl HF.out
          obtain ⟨t, ht⟩ : ∃ t, ks[k]? = some t := ⟨_, List.getElem?_eq_getElem hlt⟩
          have hlt' : (k : Int) < (ks.length : Int) := by omega
          obtain ⟨ab, off, xb, rfl, hab, hx, hcell⟩ := HRr.out.ptr hlt
          have hxb : xb = t.b := by rw [List.getElem?_map, ht] at hx; exact (Option.some.inj hx).symm
          subst hxb
          have hmem := List.mem_of_getElem? ht
          obtain ⟨a2, cap2, hn2, _, _⟩ := (HTr.out t hmem wr HKr.out).at
          have tl := hn2.lt
          have d0 := hn2.c0
          obtain ⟨gv, hgv⟩ : ∃ x, t.f.low + moreF sl (sumFill sl S0 (ks.take k)) t = x := ⟨_, rfl⟩
          have hrow := fillL_at sl S0 ht
          rw [hgv] at hrow
          have HG0 := Hd (show ∀ W, Keeps [bm] wr1 W → W.cell? ⟨g, k, none⟩ = some (.int .i64 gv) ∧ g < W.heap.size from fun W hW => ⟨hW.cell (HB3.out.num hrow) (fun hm => HGB.out (List.mem_singleton.1 hm)), by have := hW.size; omega⟩)
          have g0 := (HG0.out wr HKr.out).1
          have hgr := (HG0.out wr HKr.out).2
          obtain ⟨pk, hpk⟩ : ∃ x, t.f.pack = x := ⟨_, rfl⟩
          rw [hpk] at d0
          have HSs := Hd (show fillKs (ks.take (k + 1)) sl S0 m = fillT t (mput (fillKs (ks.take k) sl S0 m) pk gv) from by
           rw [take_succ_snoc ht, fillKs_append, ← hpk, ← hgv]; simp [fillKs])
          have IHt := Hd (IH.out t hmem)
          have HTt := Hd (HTr.out t hmem)
          have HI := Hd (show I64 pk from by rw [← hpk]; exact (HP.out t hmem).1)
          clear hn2 ht hx hmem hrow hpk hgv
          go_upto_region 18 with (fail)
          obtain ⟨w8, hrun, hm8, hg8, hs8⟩ := update_int (HMr.out.drew) HI.out gv
          have HM8 := Hd hm8
          have HK8 := Hd ((HKr.out.trans (Keeps.of_below (S := [bm]) (drewN_below wr 1))).trans (Keeps.of_grown hg8))
          clear hm8 hg8 hs8
          go_still_tail 9, (by kernel_rfl)
          change wpList _ _ _ _ _ wr.drew
          have g8 := (HG0.out w8 HK8.out).1
          have hgr8 := (HG0.out w8 HK8.out).2
          go_wp2_with (go_at_call 37; refine (IHt.out w8 gv _ (HTt.out w8 HK8.out) HM8.out).mono ?_; rintro e w9 ⟨rfl, hk9, hm9⟩)
          exact ⟨⟨k + 1, by omega, by go_num, by rw [HSs.out]; exact hm9, HK8.out.trans hk9⟩, by simp [intOf]; omega⟩
theorem setOL_map (p x : Int) (l : List Tr) : setOL p x l = l.map (setO p x) := by
 induction l with
 | nil => simp [setOL]
 | cons k r ih => simp only [setOL, List.map_cons, ih]
theorem setO_b (p x : Int) (t : Tr) : (setO p x t).b = t.b := by cases t; simp only [setO, b_node]
theorem setOL_b (p x : Int) (l : List Tr) : (setOL p x l).map Tr.b = l.map Tr.b := by
 rw [setOL_map, List.map_map]
 exact List.map_congr_left (fun k _ => setO_b p x k)
mutual
theorem setO_bs (p x : Int) : ∀ t : Tr, (setO p x t).bs = t.bs
 | .node b f ks => by simp only [setO, Tr.bs, setOL_bs p x ks]
theorem setOL_bs (p x : Int) : ∀ l : List Tr, bsL (setOL p x l) = bsL l
 | [] => by simp only [setOL]
 | k :: r => by simp only [setOL, bsL, setO_bs p x k, setOL_bs p x r]
end
mutual
theorem setO_sh (p x : Int) : ∀ t : Tr, (setO p x t).sh = setO p x t.sh
 | .node b f ks => by simp only [setO, Tr.sh, setOL_sh p x ks]
theorem setOL_sh (p x : Int) : ∀ l : List Tr, shL (setOL p x l) = setOL p x (shL l)
 | [] => by simp only [setOL, shL]
 | k :: r => by simp only [setOL, shL, setO_sh p x k, setOL_sh p x r]
end
mutual
theorem setO_packs (p x : Int) : ∀ t : Tr, (setO p x t).pre.map (fun k => k.f.pack) = t.pre.map (fun k => k.f.pack)
 | .node b f ks => by simp only [setO, Tr.pre]; exact setOL_packs p x ks
theorem setOL_packs (p x : Int) : ∀ l : List Tr, (preL (setOL p x l)).map (fun k => k.f.pack) = (preL l).map (fun k => k.f.pack)
 | [] => by simp only [setOL]
 | .node b f ks :: r => by
   have h1 := setO_packs p x (.node b f ks)
   have h2 := setOL_packs p x r
   simp only [setOL, preL, List.map_cons, List.map_append, h1, h2]
   congr 1
   simp only [setO, f_node]
   split <;> rfl
end
mutual
theorem setO_bd (p x : Int) (h0 : 0 ≤ x ∧ x ≤ 1099511627776) : ∀ t : Tr, Bd t → Bd (setO p x t)
 | .node b f ks, h => by
   have h1 := h.fb
   have h2 := h.len
   simp only [f_node, ks_node] at h1 h2
   simp only [setO]
   refine .node ?_ (by rw [setOL_map, List.length_map]; exact h2) (setOL_bd p x h0 ks h.kids)
   split
   · obtain ⟨a1, _, a3, a4⟩ := h1
     exact ⟨a1, ⟨h0.1, Int.le_refl _, h0.2⟩, a3, a4⟩
   · exact h1
theorem setOL_bd (p x : Int) (h0 : 0 ≤ x ∧ x ≤ 1099511627776) : ∀ l : List Tr, (∀ k ∈ l, Bd k) → ∀ k ∈ setOL p x l, Bd k
 | [], _, k, hk => by simp [setOL] at hk
 | y :: r, h, k, hk => by
   simp only [setOL] at hk
   rcases List.mem_cons.1 hk with e | hk
   · rw [e]; exact setO_bd p x h0 y (h y (by simp))
   · exact setOL_bd p x h0 r (fun z hz => h z (List.mem_cons_of_mem _ hz)) k hk
end
mutual
theorem fillT_sh : ∀ (t : Tr) (m : List (Int × Int)), fillT t.sh m = fillT t m
 | .node b f ks, m => by simp only [Tr.sh, fillT, sumLow_sh]; exact fillKs_sh ks _ _ m
theorem fillKs_sh : ∀ (l : List Tr) (sl s : Int) (m : List (Int × Int)), fillKs (shL l) sl s m = fillKs l sl s m
 | [], _, _, m => by simp only [shL]
 | k :: r, sl, s, m => by
   simp only [shL, fillKs, moreF, sh_f]
   rw [fillT_sh k, fillKs_sh r]
end
mutual
theorem bs_pre : ∀ t : Tr, t.bs = (t :: t.pre).map Tr.b
 | .node b f ks => by simp only [Tr.bs, List.map_cons, b_node, Tr.pre]; rw [bsL_pre ks]
theorem bsL_pre : ∀ l : List Tr, bsL l = (preL l).map Tr.b
 | [] => by simp [bsL, preL]
 | k :: r => by
   have h := bs_pre k
   simp only [bsL, preL, List.map_cons, List.map_append] at h ⊢
   rw [h, bsL_pre r]; rfl
end
theorem nodup_same {α β : Type} {f : α → β} : ∀ {l : List α}, (l.map f).Nodup → ∀ {x y : α}, x ∈ l → y ∈ l → f x = f y → x = y
 | [], _, x, _, h, _, _ => by simp at h
 | a :: r, hn, x, y, hx, hy, e => by
   rw [List.map_cons, List.nodup_cons] at hn
   rcases List.mem_cons.1 hx with rfl | hx2
   · rcases List.mem_cons.1 hy with rfl | hy2
     · rfl
     · exact (hn.1 (List.mem_map.2 ⟨y, hy2, e.symm⟩)).elim
   · rcases List.mem_cons.1 hy with rfl | hy2
     · exact (hn.1 (List.mem_map.2 ⟨x, hx2, e⟩)).elim
     · exact nodup_same hn.2 hx2 hy2 e
theorem nodup_of_len {α : Type} [DecidableEq α] : ∀ (l2 l1 : List α), l1.Nodup → (∀ x ∈ l1, x ∈ l2) → l2.length ≤ l1.length → l2.Nodup
 | [], _, _, _, _ => by simp
 | x :: r, l1, h1, h2, h3 => by
   by_cases hx : x ∈ r
   · exfalso
     have := h1.length_le_of_subset (l₂ := r) (fun y hy => by
      rcases List.mem_cons.1 (h2 y hy) with rfl | h
      · exact hx
      · exact h)
     simp only [List.length_cons] at h3
     omega
   · rw [List.nodup_cons]
     refine ⟨hx, nodup_of_len r (l1.erase x) (h1.erase x) (fun y hy => ?_) ?_⟩
     · have h4 := (List.Nodup.mem_erase_iff h1).1 hy
       rcases List.mem_cons.1 (h2 y h4.2) with e | h
       · exact absurd e h4.1
       · exact h
     · have := List.length_erase_le (a := x) (l := l1)
       have h5 : l1.length - 1 ≤ (l1.erase x).length := List.le_length_erase
       simp only [List.length_cons] at h3
       omega
theorem tree_nodup {ps ts : List Pa} (hp : Packs ps) {t : Tr} {has : Int → Bool} (h : treeT ps ts has = some t) : (t.pre.map (fun k => k.f.pack)).Nodup := by
 refine nodup_of_len _ (ps.map (·.pack)) hp.nodup (fun y hy => ?_) ?_
 · obtain ⟨x, hx, rfl⟩ := List.mem_map.1 hy
   exact tree_has hp h (by rw [hp.find hx]; rfl)
 · unfold treeT at h
   split at h
   · cases h
   · split at h
     · rename_i hl
       cases h
       rw [List.length_map, List.length_map, hl]; exact Nat.le_refl _
     · cases h
theorem TreeAt.setO {L : List Nat} {w : World} {t : Tr} {p x : Int} {kb : Nat} (hL : kb ∈ L) (h : TreeAt L w t) : (∀ k ∈ t :: t.pre, (k.f.pack = p ↔ k.b = kb)) →
 TreeAt L ((w.setCell ⟨kb, 17, none⟩ (.int .i64 x)).setCell ⟨kb, 18, none⟩ (.int .i64 x)) (setO p x t) := by
 have hkp : Keeps [kb] w ((w.setCell ⟨kb, 17, none⟩ (.int .i64 x)).setCell ⟨kb, 18, none⟩ (.int .i64 x)) := (Keeps.setCell w ⟨kb, 17, none⟩ _).then_set ⟨kb, 18, none⟩ _ (.inl (by simp))
 induction h with
 | @node b f ks a cap hb hn hr ha hk ih =>
   intro he
   have h0 := he (.node b f ks) (by simp)
   simp only [f_node, b_node] at h0
   have hks : ∀ k ∈ ks, ∀ q ∈ k :: k.pre, (q.f.pack = p ↔ q.b = kb) := by
    intro k hk q hq
    refine he q (List.mem_cons_of_mem _ ?_)
    have hin : ∀ (l : List Tr), k ∈ l → q ∈ preL l := by
     intro l
     induction l with
     | nil => intro h; simp at h
     | cons y r ih2 =>
       intro h
       rcases List.mem_cons.1 h with rfl | h
       · rcases List.mem_cons.1 hq with rfl | hq
         · simp [preL]
         · simp [preL, hq]
       · have := ih2 h; simp [preL, this]
    simpa [Tr.pre] using hin ks hk
   unfold Go.Proofs.YtehplmeckfinoaaGreatDoor.setO
   refine .node hb (a := a) (cap := cap) ?_ ?_ ?_ ?_
   · rw [setOL_map, List.length_map]
     by_cases e : f.pack = p
     · rw [if_pos e, ← h0.1 e]
       exact (hn.set_ownL x).set_ownH x
     · rw [if_neg e]
       exact hn.keeps hkp (fun hm => e (h0.2 (List.mem_singleton.1 hm)))
   · rw [setOL_b, setOL_map, List.length_map]
     exact hkp.rd hr (fun hh q e hm => ha hh q e (by rw [List.mem_singleton.1 hm]; exact hL))
   · rw [setOL_map, List.length_map]; exact ha
   · intro k hk2
     rw [setOL_map] at hk2
     obtain ⟨q, hq, rfl⟩ := List.mem_map.1 hk2
     exact ih q hq (hks q hq)
theorem sinkT_low (lo hi : Int) (t : Tr) : (sinkT lo hi t).f.low = t.f.low ∧ (sinkT lo hi t).f.ownH = t.f.ownH ∧ (sinkT lo hi t).f.ownL = t.f.ownL ∧ (sinkT lo hi t).f.pack = t.f.pack ∧ (sinkT lo hi t).f.endL = lo ∧ (sinkT lo hi t).f.endH = hi := by
 cases t; simp only [sinkT, f_node]; trivial
theorem sinkL_sums (top sl low high : Int) : ∀ l : List Tr, sumLow (sinkL top sl low high l) = sumLow l ∧ sumOwn (sinkL top sl low high l) = sumOwn l
 | [] => by simp [sinkL]
 | k :: r => by
   have h := sinkL_sums top sl low high r
   simp only [sinkL, sumLow_cons, sumOwn_cons, (sinkT_low _ _ k).1, (sinkT_low _ _ k).2.1, h.1, h.2]; trivial
mutual
theorem sink_upT : ∀ (t : Tr) (lo hi : Int), Up t → Up (sinkT lo hi t)
 | .node b f ks, lo, hi, h => by
   cases h with
   | node h1 h2 h3 h4 h5 h6 h7 hk =>
     unfold sinkT
     refine .node ?_ h2 h3 h4 ?_ ?_ h7 (sink_upL ks _ _ _ _ hk)
     · rw [(sinkL_sums _ _ _ _ ks).1]; exact h1
     · rw [(sinkL_sums _ _ _ _ ks).1]; exact h5
     · rw [(sinkL_sums _ _ _ _ ks).2]; exact h6
theorem sink_upL : ∀ (l : List Tr) (top sl low high : Int), (∀ k ∈ l, Up k) → ∀ k ∈ sinkL top sl low high l, Up k
 | [], _, _, _, _, _, k, hk => by simp [sinkL] at hk
 | x :: r, top, sl, low, high, h, k, hk => by
   simp only [sinkL] at hk
   rcases List.mem_cons.1 hk with e | hk
   · rw [e]; exact sink_upT x _ _ (h x (by simp))
   · exact sink_upL r top sl low high (fun y hy => h y (List.mem_cons_of_mem _ hy)) k hk
end
mutual
theorem up_pre : ∀ (t : Tr), Up t → ∀ k ∈ t.pre, Up k
 | .node b f ks, h, k, hk => by
   simp only [Tr.pre] at hk
   exact up_preL ks h.kids k hk
theorem up_preL : ∀ (ks : List Tr), (∀ k ∈ ks, Up k) → ∀ k ∈ preL ks, Up k
 | [], _, k, hk => by simp [preL] at hk
 | x :: r, h, k, hk => by
   simp only [preL, List.mem_cons, List.mem_append] at hk
   rcases hk with rfl | hk | hk
   · exact h _ (by simp)
   · exact up_pre x (h x (by simp)) k hk
   · exact up_preL r (fun y hy => h y (List.mem_cons_of_mem _ hy)) k hk
end
mutual
theorem sink_ends : ∀ (t : Tr) (lo hi : Int), ∀ k ∈ (sinkT lo hi t).pre, k.f.low ≤ k.f.endL ∧ k.f.endH ≤ k.f.ownH
 | .node b f ks, lo, hi, k, hk => by
   simp only [sinkT, Tr.pre] at hk
   exact sink_endsL ks _ _ _ _ k hk
theorem sink_endsL : ∀ (l : List Tr) (top sl low high : Int), ∀ k ∈ preL (sinkL top sl low high l), k.f.low ≤ k.f.endL ∧ k.f.endH ≤ k.f.ownH
 | [], _, _, _, _, k, hk => by simp [sinkL, preL] at hk
 | x :: r, top, sl, low, high, k, hk => by
   simp only [sinkL, preL, List.mem_cons, List.mem_append] at hk
   rcases hk with rfl | hk | hk
   · obtain ⟨h1, h2, _, _, h5, h6⟩ := sinkT_low (max x.f.low (sl - (high - x.f.ownH))) (min x.f.ownH (top - (low - x.f.low))) x
     rw [h1, h2, h5, h6]; omega
   · exact sink_ends x _ _ k hk
   · exact sink_endsL r top sl low high k hk
end
theorem solve_up {t u : Tr} (hb : Bd t) (h : solveT t = some u) : Up u ∧ ∀ k ∈ u.pre, (0 ≤ k.f.low ∧ k.f.low ≤ k.f.ownH ∧ k.f.ownH ≤ 1099511627776) ∧ k.f.low ≤ k.f.endL ∧ k.f.endH ≤ k.f.ownH := by
 have hbu := (solve_facts hb h).1
 unfold solveT at h
 cases e : riseT t with
 | none => rw [e] at h; cases h
 | some q =>
   rw [e] at h
   obtain rfl := (Option.some.inj h).symm
   have hu := sink_upT q q.f.ownL q.f.ownH (riseT_up t q hb e).2.1
   refine ⟨hu, fun k hk => ⟨?_, sink_ends _ _ _ k hk⟩⟩
   have h1 := (up_pre _ hu k hk).low
   have h2 := (bd_pre _ hbu k hk).fb
   unfold FB at h2
   omega
def compT (xs : List Pa) (known loss pack weight : Int) : Option Tr := ((rootT xs known loss).bind solveT).bind (fun s => solveT (setO pack weight s))
def complL (xs : List Pa) (known loss pack weight : Int) : List (Int × Int) := match compT xs known loss pack weight with
 | some u => (papersL xs known loss).map (fun x => (x.pack, givM (fillT u []) x.pack))
 | none => []
def complIs (xs : List Pa) (known loss pack weight : Int) : Bool :=
 decide (weighE xs known loss (hasP xs known loss pack) = 0) && (within weight (weighP xs known loss pack).1 (weighP xs known loss pack).2 && (compT xs known loss pack weight).isSome)
def complV (xs : List Pa) (known loss pack weight : Int) : List (Int × Int) := if complIs xs known loss pack weight then complL xs known loss pack weight else []
theorem compl_at {w' : World} {n1 : Nat} {pa ta tp : Option Addr} {xs : List Pa} {known loss pack : Int} (h : WeighAt w' n1 pa ta tp ((rootT xs known loss).bind solveT)) (h0 : weighE xs known loss (hasP xs known loss pack) = 0) :
 ∃ t k, (rootT xs known loss).bind solveT = some t.sh ∧ tp = some ⟨t.b, 0, none⟩ ∧ TreeAt t.bs w' t ∧ t.bs.Nodup ∧ Bd t ∧ (∀ x ∈ t.bs, n1 ≤ x) ∧ (∀ p, pa = some p → p.block < n1) ∧ findT t pack = some k ∧ k ∈ t.pre ∧
  weighP xs known loss pack = (k.f.endL, k.f.endH) ∧ (∀ q ∈ t :: t.pre, (q.f.pack = pack ↔ q.b = k.b)) ∧ (0 ≤ k.f.endL ∧ k.f.endH ≤ 1099511627776) ∧ ∀ q ∈ t.pre, I64 q.f.pack := by
 obtain ⟨t, ht, htp, hta, htn, htb, htf, hpa, hta2⟩ := h
 obtain ⟨ho, hh⟩ := root_open (weigh_root h0)
 have hm := weigh_find ho hh ht
 rw [pre_packs_sh] at hm
 obtain ⟨k, hk, hkm, hkp⟩ := find_of_pack hm
 have hmo := mani_ok (check_good (open_check ho)).1 known loss
 obtain ⟨t0, e0, e1⟩ := Option.bind_eq_some_iff.1 ht
 have e0' : treeT (papersL xs known loss) (totalsL xs known loss) (fun _ => true) = some t0 := e0
 have hps : t.pre.map (fun k => k.f.pack) = t0.pre.map (fun k => k.f.pack) := by rw [← pre_packs_sh, solve_packs e1]
 have hnd : (t.pre.map (fun k => k.f.pack)).Nodup := by rw [hps]; exact tree_nodup hmo.packs e0'
 have hroot : t.f.pack = 0 := by
  obtain ⟨_, h1, _, _⟩ := tree_grown e0'
  unfold solveT at e1
  cases e : riseT t0 with
  | none => rw [e] at e1; cases e1
  | some q =>
    rw [e] at e1
    have h2 := (Option.some.inj e1)
    have h3 : (sinkT q.f.ownL q.f.ownH q).f.pack = t.sh.f.pack := by rw [h2]
    rw [(sinkT_low _ _ q).2.2.2.1, sh_f] at h3
    rw [← h3]
    have h4 : q.f.pack = t0.f.pack := by
     cases t0 with
     | node b f ks =>
       unfold riseT at e
       split at e
       · cases e
       · split at e
         · cases e
         · cases e; rfl
    rw [h4, h1]
 have hpos : pack ≠ 0 := by
  obtain ⟨y, hy⟩ := Option.isSome_iff_exists.1 (show (ofI (papersL xs known loss) pack).isSome = true from hh)
  obtain ⟨hy1, hy2⟩ := ofI_mem hy
  have := (hmo.pp y hy1).1
  omega
 have hbs : ((t :: t.pre).map Tr.b).Nodup := by rw [← bs_pre]; exact htn
 have hpre : ∀ q ∈ t.pre, ∃ q0 ∈ t0.pre, q0.f.pack = q.f.pack := by
  intro q hq
  have h1 : q.f.pack ∈ t.pre.map (fun k => k.f.pack) := List.mem_map.2 ⟨q, hq, rfl⟩
  rw [hps] at h1
  obtain ⟨q0, h2, h3⟩ := List.mem_map.1 h1
  exact ⟨q0, h2, h3⟩
 have hpk0 := pre_packs hmo e0'
 refine ⟨t, k, ht, htp, hta, htn, htb, htf, hpa, hk, hkm, ?_, ?_, ?_, ?_⟩
 · unfold weighP
   rw [ht]
   simp only [findT_sh, hk, Option.map_some, nodeF, sh_f]
 · intro q hq
   rcases List.mem_cons.1 hq with rfl | hq
   · constructor
     · intro e; exact absurd (e.symm.trans hroot) hpos
     · intro e
       rw [List.map_cons, List.nodup_cons] at hbs
       exact absurd (List.mem_map.2 ⟨k, hkm, e.symm⟩) hbs.1
   · constructor
     · intro e
       rw [nodup_same (f := fun k : Tr => k.f.pack) hnd hq hkm (e.trans hkp.symm)]
     · intro e
       rw [List.map_cons, List.nodup_cons] at hbs
       rw [nodup_same (f := Tr.b) hbs.2 hq hkm e, hkp]
 · have h1 := tree_bd hmo _ e0'
   have h2 := (solve_up h1 e1).2
   have h3 : k.sh ∈ t.sh.pre := by rw [pre_sh]; exact List.mem_map.2 ⟨k, hkm, rfl⟩
   have h4 := h2 _ h3
   rw [sh_f] at h4
   omega
 · intro q hq
   obtain ⟨q0, h1, h2⟩ := hpre q hq
   rw [← h2]
   exact hpk0 q0 h1
theorem info_wei : (Tryz.prog.info? 37).map (fun i => (i.zero, i.size, i.bytes)) = some (some (.agg #[.int .i64 0, .int .i64 0]), 2, 16) := by kernel_rfl
theorem wei_length (x : Int × Int) : (weiV x).length = 2 := rfl
theorem own_wei_next {w : World} {t : TypeId} {base : Nat} {v : Value} {ws : List (Int × Int)} {x : Int × Int} {n : Nat} (h : w.ownsRow base t 2 v (n + 1) (ws.flatMap weiV ++ weiV x)) : w.ownsRow base t 2 v (n + 1) ((ws ++ [x]).flatMap weiV) := by
 rw [List.flatMap_append]
 simpa using h
def ComplPost (w : World) (V : List (Int × Int)) (b : Bool) (E : Int) (e : Ending) (w' : World) : Prop :=
 ∃ a c, e = .returned (.tuple #[.slice a V.length c, .bool b, .int .i64 E]) ∧ Rd weiV 2 w' a V.length V ∧ Below w.heap.size w w'
theorem compl_none {xs : List Pa} {known loss pack weight : Int} (h : complIs xs known loss pack weight = false) : complV xs known loss pack weight = [] := by unfold complV; rw [h]; rfl
theorem ComplPost.empty {w w' : World} {V : List (Int × Int)} {b : Bool} {E : Int} (hV : V = []) (hb : b = false) (hB : Below w.heap.size w w') : ComplPost w V b E (.returned (.tuple #[.slice none 0 0, .bool false, .int .i64 E])) w' := by
 subst hV hb
 exact ⟨none, 0, rfl, Rd.empty _ _, hB⟩
set_option maxRecDepth 100000 in
set_option maxHeartbeats 8000000 in
theorem completion_any (a : Option Addr) (n cap : Nat) (xs : List Pa) (hsh : ∀ x ∈ xs, x.Short) (known loss pack weight : Int) (w : World) (h : Rd Pa.vals 14 w a n xs) (hcap : n ≤ cap) :
 Calls Tryz.prog 9 #[.slice a n cap, .int .i64 known, .int .i64 loss, .int .i64 pack, .int .i64 weight] w
  (ComplPost w (complV xs known loss pack weight) (complIs xs known loss pack weight) (weighE xs known loss (hasP xs known loss pack))) := by
 have hB0 := al' (Below.refl w.heap.size w) (.cells #[.int .i64 pack] 3)
 have HR := Hd (h.below' hB0)
 have hcp : (w.alloc (.cells #[.int .i64 pack] 3)).cell? ⟨w.heap.size, 0, none⟩ = some (.int .i64 pack) := by
  rw [cell_of_row _ _ _ _ _ (0, 0) (heap_alloc_new w (.cells #[.int .i64 pack] 3))]; rfl
 have CH := Hd (has_any pack w)
 have CW := Hd (show ∀ W, W = w.alloc (.cells #[.int .i64 pack] 3) → Calls Tryz.prog 32 _ W (WeighPost W xs known loss (hasP xs known loss pack)) from fun W hW => by
  subst hW
  exact weighed_any a n cap xs hsh known loss 68 #[.pointer (some ⟨w.heap.size, 0, none⟩)] (fun _ _ => rfl) (hasP xs known loss pack) _ HR.out hcap (there_has hcp))
 have HB0 := Hd (show ∀ W, W = w.alloc (.cells #[.int .i64 pack] 3) → Below w.heap.size w W from fun W hW => by subst hW; exact hB0)
 obtain ⟨V, hVe⟩ : ∃ v, complV xs known loss pack weight = v := ⟨_, rfl⟩
 obtain ⟨I, hIe⟩ : ∃ v, complIs xs known loss pack weight = v := ⟨_, rfl⟩
 obtain ⟨E, hEe⟩ : ∃ v, weighE xs known loss (hasP xs known loss pack) = v := ⟨_, rfl⟩
 rw [hVe, hIe, hEe]
 have HVe := Hd hVe
 have HIe := Hd hIe
 have HEe := Hd hEe
 have HNo := Hd (show I = false → ∀ {w' : World}, Below w.heap.size w w' → ComplPost w V I E (.returned (.tuple #[.slice none 0 0, .bool false, .int .i64 E])) w' from fun hI w' hB => ComplPost.empty (by rw [← HVe.out]; exact compl_none (by rw [HIe.out]; exact hI)) hI hB)
 have hmm := @run_makeMap Tryz.prog
 unfold WeighPost at CW
 rw [hEe] at CW
 clear h hcp hB0 HR hVe hIe hEe
 go_enter Tryz.func9, Tryz.ntmps9
 go_upto_region 2 with (first
  | (go_at_call 33; refine CH.out.mono ?_; rintro e w2 ⟨rfl, rfl⟩)
  | (go_at_call 32; refine (CW.out _ rfl).mono ?_; rintro e w3 ⟨pa, pn, pc, ta, tn, tc, tp, rfl, hrp, hrt, hB2, htree⟩))
 have hBa := al' (Below.refl w3.heap.size w3) (.cells #[.slice pa pn pc, .slice ta tn tc] 62)
 have hBw : Below w.heap.size w (w3.alloc (.cells #[.slice pa pn pc, .slice ta tn tc] 62)) := (HB0.out _ rfl).trans ((hB2.trans (hBa.mono hB2.size)).mono (HB0.out _ rfl).size)
 have HBw := Hd hBw
 by_cases hE0 : E = 0
 case neg =>
  generalize w3.alloc (.cells #[.slice pa pn pc, .slice ta tn tc] 62) = w4 at *
  have HI := Hd (show I = false from by rw [← HIe.out]; unfold complIs; rw [decide_eq_false (by rw [HEe.out]; exact hE0), Bool.false_and])
  have h1 : (E != 0) = true := by simp [hE0]
  clear hE0 hrp hrt htree hBw hBa hB2
  go_wp2_with fail
  exact bodyPost_ret (by simp [results, Tryz.results9, go_sem]) rfl (HNo.out HI.out HBw.out)
 subst hE0
 have h0 := HEe.out
 obtain ⟨ho, hh⟩ := root_open (weigh_root h0)
 obtain ⟨p1, p2⟩ := open_some (known := known) ho
 rw [p1] at hrp
 rw [p2] at hrt
 have hmo := mani_ok (check_good (open_check ho)).1 known loss
 obtain ⟨n1, hn1, hwa⟩ := htree rfl
 obtain ⟨t, k, ht, rfl, hta, htn, htb, htf, hpa, hk, hkm, hwp, hhe, hrg, hpk⟩ := compl_at hwa h0
 obtain ⟨PS, hPS⟩ : ∃ P, papersL xs known loss = P := ⟨_, rfl⟩
 obtain ⟨TS, hTS⟩ : ∃ P, totalsL xs known loss = P := ⟨_, rfl⟩
 rw [hPS] at hrp hmo
 rw [hTS] at hrt hmo
 obtain ⟨e1, e2, hma⟩ := MaAt.made hrp hrt (by have := hmo.ln; omega) (by have := hmo.lt; omega)
 have hpl : pn ≤ 1000 := by rw [e1]; have := hmo.ln; omega
 have HPi := Hd (show ∀ y ∈ PS, I64 y.pack from fun y hy => by have := (hmo.pp y hy).1; unfold I64; omega)
 obtain ⟨lo, hlo⟩ : ∃ v, k.f.endL = v := ⟨_, rfl⟩
 obtain ⟨hi, hhi⟩ : ∃ v, k.f.endH = v := ⟨_, rfl⟩
 obtain ⟨U, hU⟩ : ∃ v, solveT (setO pack weight t) = v := ⟨_, rfl⟩
 have hcT : compT xs known loss pack weight = U.map Tr.sh := by
  unfold compT
  rw [ht, Option.bind_some, ← setO_sh, solveT_sh, hU]
 have HI1 := Hd (show I = (within weight lo hi && U.isSome) from by
  rw [← HIe.out]
  unfold complIs
  rw [decide_eq_true h0, Bool.true_and, hwp, hcT, ← hlo, ← hhi]
  simp)
 have HV1 := Hd (show I = true → ∀ u, U = some u → V = PS.map (fun x => (x.pack, givM (fillT u []) x.pack)) from fun hI u hu => by
  rw [← HVe.out]
  unfold complV complL
  rw [HIe.out, hI, hcT, hu, if_pos rfl, hPS]
  simp only [Option.map_some, fillT_sh])
 have HT4 := Hd (hta.below' hBa)
 have HTf := Hd (show (∀ q ∈ t.bs, n1 ≤ q ∧ q < w3.heap.size) from fun q hq => ⟨htf q hq, by
  rw [bs_pre] at hq
  obtain ⟨z, hz, rfl⟩ := List.mem_map.1 hq
  rcases List.mem_cons.1 hz with rfl | hz
  · exact hta.lt
  · exact (hta.preMem z hz).lt⟩)
 have CF := Hd (find_all t.bs t pack _ HT4.out htb)
 rw [hk] at CF
 obtain ⟨ka, kc, hkn, _, _⟩ := ((hta.below' hBa).preMem k hkm).at
 have HKn := Hd hkn
 have HTn := Hd htn
 have HTb := Hd htb
 have HHe := Hd hhe
 have HPk := Hd hpk
 have HPa := Hd hpa
 have HU := Hd hU
 have HKm := Hd (show k.b ∈ t.bs from by rw [bs_pre]; exact List.mem_map.2 ⟨k, List.mem_cons_of_mem _ hkm, rfl⟩)
 rw [hlo, hhi] at hrg
 have HLo := Hd hlo
 have HHi := Hd hhi
 have HPl := Hd e1
 have HPS := Hd hPS
 have HN1 := Hd (show w.heap.size ≤ n1 from Nat.le_trans (HB0.out _ rfl).size hn1)
 clear hrp hrt e1 e2 p1 p2 hPS hTS ho hh h0 htree hBw hBa hmo hwa ht hta htn htb htf hpa hk hkm hwp hhe hpk hU hcT hlo hhi hkn HVe HIe HEe hn1
 generalize w3.alloc (.cells #[.slice pa pn pc, .slice ta tn tc] 62) = w4 at *
 obtain ⟨M, hM⟩ : ∃ M, w3.heap.size = M := ⟨_, rfl⟩
 rw [hM] at hma HTf ⊢
 have HMw := Hd (show w.heap.size ≤ M from by have h1 := (HB0.out _ rfl).size; have h2 := hB2.size; omega)
 clear hM hB2 HB0
 have HMa := Hd hma
 clear hma CH CW
 go_upto_region 5 with (go_at_call 34; refine CF.out.mono ?_; rintro e w5 ⟨rfl, hB5⟩; simp only [Option.map_some])
 have HMa5 := Hd (HMa.out.below' hB5)
 have HT5 := Hd (HT4.out.below' hB5)
 have HK5 := Hd (HKn.out.below' hB5)
 have HB5 := Hd (HBw.out.trans (hB5.mono HBw.out.size))
 have HM4 := Hd (show M < w4.heap.size from World.block_lt_of_cell? _ _ HMa.out.c0)
 have hk23 := HK5.out.c23
 have hk24 := HK5.out.c24
 rw [HLo.out] at hk23
 rw [HHi.out] at hk24
 have k23 : ∀ z : Later w5, z.w.cell? ⟨k.b, 23, none⟩ = some (.int .i64 lo) := fun z => z.cell hk23
 have k24 : ∀ z : Later w5, z.w.cell? ⟨k.b, 24, none⟩ = some (.int .i64 hi) := fun z => z.cell hk24
 obtain ⟨wb, hwb⟩ : ∃ x, within weight lo hi = x := ⟨_, rfl⟩
 have C1 := Hd (show ∀ z : Later w5, Calls Tryz.prog 35 #[.int .i64 weight, .int .i64 lo, .int .i64 hi] z.w fun e w' => e = .returned (.bool wb) ∧ Below z.w.heap.size z.w w' from fun z => (within_any weight lo hi z.w).mono (by rintro e w' ⟨h1, rfl⟩; exact ⟨by rw [h1, hwb], Below.refl _ _⟩))
 rw [hwb] at HI1
 have HWb := Hd hwb
 have HMs := Hd HM4.out
 clear hwb hk23 hk24 hB5 HBw HMa HT4 HKn HM4 CF
 refine wp_region_later (by kernel_rfl) (by kernel_rfl) ?_
 repeat (go_big_quiet_step ((go_at_call 35; exact Calls.later_of (C1.out _))))
 refine wpQuiet_nil ?_
 intro wz hw'
 obtain ⟨⟨W, hW⟩, hw2⟩ := hw'
 obtain rfl : W = wz := hw2.symm
 clear hw2 k23 k24
 have HMa6 := Hd (HMa5.out.below' hW)
 have HT6 := Hd (HT5.out.below' hW)
 have HK6 := Hd (HK5.out.below' hW)
 have HB6 := Hd (HB5.out.trans (hW.mono HB5.out.size))
 clear hW HMa5 HT5 HK5 HB5
 cases wb with
 | false =>
   have HI := Hd (show I = false from by rw [HI1.out, Bool.false_and])
   go_wp2_with fail
   exact bodyPost_ret (by simp [results, Tryz.results9, go_sem]) rfl (HNo.out HI.out HB6.out)
 | true =>
   have hwr : lo ≤ weight ∧ weight ≤ hi := of_decide_eq_true HWb.out
   have HWr := Hd hwr
   have HRg := Hd hrg
   have kf := HK6.out.fr
   have kl := HK6.out.lt
   have k17 := HK6.out.c17
   have k18 := HK6.out.c18
   clear hwr hrg
   go_upto_region 8 with (fail)
   have hkp6 : Keeps t.bs W ((W.setCell ⟨k.b, 17, none⟩ (.int .i64 weight)).setCell ⟨k.b, 18, none⟩ (.int .i64 weight)) := ((Keeps.setCell W ⟨k.b, 17, none⟩ _).then_set ⟨k.b, 18, none⟩ _ (.inl (by simp))).mono (fun x hx => by rw [List.mem_singleton.1 hx]; exact HKm.out)
   have hta6 := TreeAt.setO (x := weight) HKm.out HT6.out HHe.out
   have CS := Hd (solved_all t.bs (Go.Proofs.YtehplmeckfinoaaGreatDoor.setO pack weight t) _ hta6 (setO_bd pack weight (by have h1 := HWr.out; have h2 := HRg.out; omega) t HTb.out) (by rw [setO_bs]; exact HTn.out))
   unfold SolvedPost at CS
   rw [setO_b, HU.out, setO_bs] at CS
   have HK7 := Hd hkp6
   have HTa := Hd hta6
   clear hkp6 hta6 k17 k18 kf kl
   generalize (W.setCell ⟨k.b, 17, none⟩ (.int .i64 weight)).setCell ⟨k.b, 18, none⟩ (.int .i64 weight) = w6 at *
   have HG := Hd (show ∀ W', Keeps t.bs W W' → Below w.heap.size w W' ∧ W'.cell? ⟨M, 0, none⟩ = some (.slice pa pn pc) ∧ Rd Pa.vals 14 W' pa pn PS from fun W' hW' =>
    ⟨HB6.out.trans (hW'.below (fun q hq => by have h1 := (HTf.out q hq).1; have h2 := HN1.out; omega) HB6.out.size),
     hW'.cell HMa6.out.c0 (fun hm => by have := (HTf.out M hm).2; omega),
     hW'.rd HMa6.out.rp (fun _ p e hm => by have h1 := HPa.out p e; have h2 := (HTf.out _ hm).1; omega)⟩)
   obtain ⟨ub, hub⟩ : ∃ v, U.isSome = v := ⟨_, rfl⟩
   have HUb := Hd hub
   rw [hub] at CS HI1
   clear hub
   cases ub with
   | false =>
     have HI := Hd (show I = false from by rw [HI1.out, Bool.and_false])
     go_wp2_with (go_at_call 36; refine CS.out.mono ?_; rintro e w7 ⟨rfl, hk7, hta7⟩)
     exact bodyPost_ret (by simp [results, Tryz.results9, go_sem]) rfl (HNo.out HI.out (HG.out w7 (HK7.out.trans hk7)).1)
   | true =>
     have hI : I = true := by rw [HI1.out, Bool.and_true]
     obtain ⟨u, hu⟩ := Option.isSome_iff_exists.1 HUb.out
     have HVm := Hd (HV1.out hI u hu)
     have HIt := Hd hI
     clear hI
     go_upto_region 11 with (go_at_call 36; refine CS.out.mono ?_; rintro e w7 ⟨rfl, hk7, hta7⟩)
     have hbd0 := setO_bd pack weight (by have h1 := HWr.out; have h2 := HRg.out; omega) t HTb.out
     have hsv : solveT (Go.Proofs.YtehplmeckfinoaaGreatDoor.setO pack weight t) = some u := by rw [HU.out, hu]
     obtain ⟨ub1, ub2, ub3⟩ := solve_facts hbd0 hsv
     rw [setO_bs] at ub2
     rw [setO_b] at ub3
     have hlows := (solve_up hbd0 hsv).2
     have hpks : ∀ q ∈ u.pre, I64 q.f.pack := by
      intro q hq
      have h1 : q.f.pack ∈ u.pre.map (fun k => k.f.pack) := List.mem_map.2 ⟨q, hq, rfl⟩
      rw [solve_packs hsv, setO_packs] at h1
      obtain ⟨q0, h2, h3⟩ := List.mem_map.1 h1
      rw [← h3]; exact HPk.out q0 h2
     have hmk := MapT.made (P := Tryz.prog) (K := 3) (ke := kInt) (ve := kInt) w7
     have hBm := al' (Below.refl w7.heap.size w7) (.map #[] 0)
     have hta8 : TreeAt (w7.heap.size :: t.bs) (w7.alloc (.map #[] 0)) u := ((hta7 u hu).wide (fun x hx => List.mem_cons_of_mem _ hx) (fun x h1 h2 h3 => by
      rcases List.mem_cons.1 h3 with e | e
      · omega
      · exact h1 e)).below' hBm
     have HKs := Hd (HK7.out.trans hk7)
     have htl : ∀ q ∈ t.bs, q < w7.heap.size := by
      intro q hq
      rw [← ub2, bs_pre] at hq
      obtain ⟨z, hz, rfl⟩ := List.mem_map.1 hq
      rcases List.mem_cons.1 hz with rfl | hz
      · exact (hta7 _ hu).lt
      · exact ((hta7 u hu).preMem z hz).lt
     have CFl := Hd (fill_all (w7.heap.size :: t.bs) w7.heap.size (by simp) u.siz u (w7.alloc (.map #[] 0)) 0 [] (Nat.le_refl _) hta8 (by rw [ub2]; intro hm; have := htl _ hm; omega) ub1 (fun q hq => ⟨(hlows q hq).1.1, (hlows q hq).1.2.1⟩) hpks hmk)
     unfold FillPost at CFl
     rw [ub3] at CFl
     have HBm := Hd hBm
     clear hbd0 hsv ub1 ub2 ub3 hlows hpks hmk hta8 htl hk7 hta7 hBm
     go_upto_region 13 with (go_at_call 37; refine CFl.out.mono ?_; rintro e w9 ⟨rfl, hk9, hm9⟩)
     obtain ⟨hB7, hc7, hr7⟩ := HG.out w7 HKs.out
     have hM7 := World.block_lt_of_cell? _ _ hc7
     simp only at hM7
     have hBw9 : Below w.heap.size w w9 := (hB7.trans (HBm.out.mono hB7.size)).trans (hk9.below (fun x hx => by rw [List.mem_singleton.1 hx]; exact hB7.size) (Nat.le_trans hB7.size HBm.out.size))
     have hc9 := hk9.cell (cell_stays hc7 HBm.out) (fun hm => by have := List.mem_singleton.1 hm; simp only at this; omega)
     have hr9 := hk9.rd (hr7.below' HBm.out) (fun _ p e hm => by
      have h1 := HPa.out p e
      have h2 := (HTf.out _ HKm.out)
      have h3 := List.mem_singleton.1 hm
      omega)
     obtain ⟨bm, hbm⟩ : ∃ b, w7.heap.size = b := ⟨_, rfl⟩
     rw [hbm] at hm9 ⊢
     have HBw9 := Hd hBw9
     have HC9 := Hd hc9
     have HR9 := Hd hr9
     have HM9 := Hd hm9
     clear hB7 hc7 hr7 hM7 hBw9 hc9 hr9 hm9 hk9 hbm hmm HKs HBm CFl CS HG HK7 HTa HMa6 HT6 HK6 HB6 C1 HI1 HV1
     obtain ⟨m, hm⟩ : ∃ m, fillT u [] = m := ⟨_, rfl⟩
     rw [hm] at HM9 HVm
     clear hm hu HUb HU
     obtain ⟨i0, hi, hz0, hz1, hz2⟩ := info_parts info_wei
     have c9 := HC9.out
     go_upto_region 14 with (fail)
     clear c9
     go_loopw [18, 66] (fun v i wr => ∃ k : Nat, k ≤ pn ∧ i = .int .i64 k ∧ wr.ownsRow w9.heap.size 37 2 v ((PS.take k).map (fun x => (x.pack, givM m x.pack))).length (((PS.take k).map (fun x => (x.pack, givM m x.pack))).flatMap weiV) ∧ Below w9.heap.size w9 wr) (fun _ i _ => pn - (intOf i).toNat)
     case atStart => exact ⟨0, Nat.zero_le _, rfl, World.ownsRow_nil w9 _ _ _, Below.refl _ _⟩
     case round =>
      obtain ⟨k, hk, rfl, hrow, hB⟩ := hrel
      have HRow := Hd hrow
      have HB := Hd hB
      have HRr := Hd (HR9.out.below' hB)
      have HMr := Hd (HM9.out.below' hB)
      clear hrow hB
      by_cases hlt : k < pn
      case neg =>
       have hltg : ¬ (k : Int) < (pn : Int) := by omega
       have HT := Hd (show PS.take k = PS from List.take_of_length_le (by rw [← HPl.out]; omega))
       rw [HT.out] at HRow
       have HLen := Hd (show (PS.map (fun x => (x.pack, givM m x.pack))).length ≤ 1000 from by rw [List.length_map, ← HPl.out]; exact hpl)
       obtain ⟨WV, hWV⟩ : ∃ W, PS.map (fun x => (x.pack, givM m x.pack)) = W := ⟨_, rfl⟩
       rw [hWV] at HRow HLen HVm
       obtain ⟨oa, oc, rfl, _, hro, _⟩ := Rd.of_own HRow.out wei_length (by decide) rfl (by have := HLen.out; unfold maxLen; omega)
       have HRo := Hd hro
       have HBf := Hd (HBw9.out.trans (HB.out.mono HBw9.out.size))
       clear hlt hWV hro HRow
       go_wp2_with fail
       exact bodyPost_ret (by simp [results, Tryz.results9, go_sem]) rfl (show ComplPost w V I 0 (.returned (.tuple #[.slice oa WV.length oc, .bool true, .int .i64 0])) wr from by rw [HVm.out]; exact ⟨oa, oc, by rw [HIt.out], HRo.out, HBf.out⟩)
      have hlt' : (k : Int) < (pn : Int) := by omega
      obtain ⟨b, off, x, rfl, hb, hx, c0, c1, c2, c3, c4, c5, c6, c7, c8, c9, c10, c11, c12, c13⟩ := HRr.out.pa hlt
      have HN := Hd (show (PS.take (k + 1)).map (fun x => (x.pack, givM m x.pack)) = (PS.take k).map (fun x => (x.pack, givM m x.pack)) ++ [(x.pack, givM m x.pack)] from by rw [take_succ_snoc hx, List.map_append]; rfl)
      have HIx := Hd (HPi.out x (List.mem_of_getElem? hx))
      have hfl : ((PS.take k).map (fun x => (x.pack, givM m x.pack))).length ≤ 1000 := by rw [List.length_map, List.length_take]; omega
      obtain ⟨RL, hRL⟩ : ∃ L, (PS.take k).map (fun x => (x.pack, givM m x.pack)) = L := ⟨_, rfl⟩
      rw [hRL] at HRow HN hfl
      clear hRL hx
      go_upto_region 16 with (fail)
      have hyb := BoxG.made wr [.int .i64 x.id, .int .i64 x.known, .int .u8 x.kind, .int .i64 x.loss, .int .i64 x.pack, .int .i64 x.inn, .string ⟨x.mark.toArray⟩, .string ⟨x.goods.toArray⟩, .int .i64 x.low, .int .i64 x.high, .int .i64 x.pieces, .int .i64 x.owner, .int .i64 x.count, .int .i64 x.of] 42
      have hBy := al' (Below.refl wr.heap.size wr) (.cells #[.int .i64 x.id, .int .i64 x.known, .int .u8 x.kind, .int .i64 x.loss, .int .i64 x.pack, .int .i64 x.inn, .string ⟨x.mark.toArray⟩, .string ⟨x.goods.toArray⟩, .int .i64 x.low, .int .i64 x.high, .int .i64 x.pieces, .int .i64 x.owner, .int .i64 x.count, .int .i64 x.of] 42)
      have HB8 := Hd (HB.out.trans (hBy.mono HB.out.size))
      have HM8 := Hd (HMr.out.below' hBy)
      have HRow8 := Hd (own_later' HRow.out hBy)
      have HY := Hd hyb
      clear hBy hyb c0 c1 c2 c3 c4 c5 c6 c7 c8 c9 c10 c11 c12 c13 HB HMr HRow hb
      generalize wr.alloc (.cells #[.int .i64 x.id, .int .i64 x.known, .int .u8 x.kind, .int .i64 x.loss, .int .i64 x.pack, .int .i64 x.inn, .string ⟨x.mark.toArray⟩, .string ⟨x.goods.toArray⟩, .int .i64 x.low, .int .i64 x.high, .int .i64 x.pieces, .int .i64 x.owner, .int .i64 x.count, .int .i64 x.of] 42) = w10 at *
      obtain ⟨Y, hY⟩ : ∃ Y, wr.heap.size = Y := ⟨_, rfl⟩
      rw [hY] at HY ⊢
      clear hY
      have y4 : w10.cell? ⟨Y, 4, none⟩ = some (.int .i64 x.pack) := (BoxG.pa (x := x) HY.out).2.2.2.2.1
      have hlk := lookup_int HM8.out HIx.out
      obtain ⟨gv, hgv⟩ : ∃ x2, givM m x.pack = x2 := ⟨_, rfl⟩
      rw [hgv] at hlk HN
      clear hgv
      obtain ⟨pk, hpk⟩ : ∃ x2, x.pack = x2 := ⟨_, rfl⟩
      rw [hpk] at hlk HN y4
      clear hpk HIx
      go_wp2_with (at_builtin; refine wpList_append_own _ rfl _ _ 23 rfl w9.heap.size 37 i0 _ 2 16 Tryz.underlying23 hi hz0 hz1 hz2 rfl (by decide) _ _ _ rfl (HRow8.out.alloc _) ⟨w10.heap.size, 0, none⟩ 1 1 (weiV (pk, gv)) rfl rfl (World.news_of_block (cs := #[.int .i64 pk, .int .i64 gv]) (t := 37) (fr := (0, 0)) (heap_alloc_new w10 _)) (by simp [weiV, Value.oneCell']) (by unfold maxLen; omega) (by omega) (Nat.le_trans HB8.out.size (by simp)) ?_; intro v2 w2 hown2 hgrow2 _)
      have HB11 := Hd ((HB8.out.alloc HB8.out.size (.cells #[.int .i64 pk, .int .i64 gv] 37)).grown hgrow2 (Nat.le_trans HB8.out.size (by simp)) (fun k e => (HRow8.out.lt k e).1))
      have HO2 := Hd (own_wei_next hown2)
      clear hgrow2 hown2 y4 hlk
      go_wp2_with fail
      exact ⟨⟨k + 1, by omega, by go_num, by rw [HN.out, List.length_append]; exact HO2.out, HB11.out⟩, by simp [intOf]; omega⟩
def fitN (given : Int → Int) (t : Tr) (w : Int) : Prop := max (givenL given t.ks + t.f.missing) t.f.sumL ≤ min (givenL given t.ks + t.f.missing * 100000) t.f.sumH ∧ max (givenL given t.ks + t.f.missing) t.f.sumL ≤ w
mutual
theorem holds_iff (given : Int → Int) : ∀ (t : Tr) (w : Int), holdsT given t w = true ↔ fitN given t w ∧ ∀ k ∈ t.pre, (k.f.ownL ≤ given k.f.pack ∧ given k.f.pack ≤ k.f.ownH) ∧ fitN given k (given k.f.pack)
 | .node b f ks, w => by
   unfold holdsT fitN
   simp only [Bool.and_eq_true, decide_eq_true_eq, Tr.pre, ks_node, f_node]
   rw [holdsL_iff given ks]
   constructor
   · rintro ⟨h1, h2⟩; exact ⟨h2, h1⟩
   · rintro ⟨h1, h2⟩; exact ⟨h2, h1⟩
theorem holdsL_iff (given : Int → Int) : ∀ (ks : List Tr), holdsL given ks = true ↔ ∀ k ∈ preL ks, (k.f.ownL ≤ given k.f.pack ∧ given k.f.pack ≤ k.f.ownH) ∧ fitN given k (given k.f.pack)
 | [] => by simp [holdsL, preL]
 | x :: r => by
   unfold holdsL
   simp only [Bool.and_eq_true, decide_eq_true_eq, preL, List.mem_cons, List.mem_append]
   rw [holds_iff given x, holdsL_iff given r]
   constructor
   · rintro ⟨⟨h1, h2, h3⟩, h4⟩ k (rfl | hk | hk)
     · exact ⟨h1, h2⟩
     · exact h3 k hk
     · exact h4 k hk
   · intro h
     exact ⟨⟨(h x (.inl rfl)).1, (h x (.inl rfl)).2, fun k hk => h k (.inr (.inl hk))⟩, fun k hk => h k (.inr (.inr hk))⟩
end
theorem givenL_sum (given : Int → Int) : ∀ (ks : List Tr), givenL given ks = ((ks.map (fun k => k.f.pack)).map given).sum
 | [] => rfl
 | x :: r => by simp only [givenL, List.map_cons, List.sum_cons, givenL_sum given r]
theorem mget_fold_not : ∀ (r : List (Int × Int)) (m : List (Int × Int)) (k : Int), (∀ c ∈ r, c.1 ≠ k) → mget (r.foldl (fun m x => mput m x.1 x.2) m) k = mget m k
 | [], m, k, _ => rfl
 | d :: r, m, k, h => by
   rw [List.foldl_cons, mget_fold_not r _ k (fun c hc => h c (List.mem_cons_of_mem _ hc)), mget_mput, if_neg (h d (by simp))]
theorem mget_fold : ∀ (cs m : List (Int × Int)) (c : Int × Int), (cs.map (·.1)).Nodup → c ∈ cs → mget (cs.foldl (fun m x => mput m x.1 x.2) m) c.1 = some c.2
 | [], _, c, _, h => by simp at h
 | d :: r, m, c, hn, h => by
   rw [List.map_cons, List.nodup_cons] at hn
   rw [List.foldl_cons]
   rcases List.mem_cons.1 h with rfl | h
   · rw [mget_fold_not r _ _ (fun q hq e => hn.1 (List.mem_map.2 ⟨q, hq, e⟩)), mget_mput, if_pos rfl]
   · exact mget_fold r _ c hn.2 h
theorem giv_of {cs : List (Int × Int)} (h : (cs.map (·.1)).Nodup) : ∀ c ∈ cs, givM (compM cs) c.1 = c.2 := fun c hc => by
 unfold givM compM
 rw [mget_fold cs [] c h hc]
 rfl
theorem pre_in {ps ts : List Pa} (hmo : ManiOk ps ts) {t : Tr} (ht : treeT ps ts (fun _ => true) = some t) : ∀ k ∈ t.pre, ∃ y ∈ ps, y.pack = k.f.pack := by
 have h2 := ht
 unfold treeT at h2
 split at h2
 · cases h2
 · rename_i t' ht'
   split at h2
   · cases h2
     obtain ⟨_, h3⟩ := grow_chain hmo.packs _ 0 _ _ t [] ht' .root
     intro k hk
     obtain ⟨l, n, c, hh⟩ := h3 k hk
     cases l with
     | nil => exact absurd rfl n
     | cons a r =>
       simp at hh
       subst hh
       cases r with
       | nil =>
         obtain ⟨x, hx, h1, _⟩ := c.inv rfl
         exact ⟨x, hx, h1⟩
       | cons b r' =>
         obtain ⟨x, hx, h1, _⟩ := c.inv rfl
         exact ⟨x, hx, h1⟩
   · cases h2
theorem gets_put (m : List (Int × Int)) (k v p : Int) : givM (mput m k v) p = if k = p then v else givM m p := by
 unfold givM
 rw [mget_mput]
 by_cases h : k = p
 · rw [if_pos h, if_pos h]; rfl
 · rw [if_neg h, if_neg h]
theorem fillKs_cons (k : Tr) (r : List Tr) (sl s : Int) (m : List (Int × Int)) : fillKs (k :: r) sl s m = fillKs r sl (s + moreF sl s k) (fillT k (mput m k.f.pack (k.f.low + moreF sl s k))) := by simp only [fillKs]
mutual
theorem fillT_not (p : Int) : ∀ (t : Tr) (m : List (Int × Int)), p ∉ t.pre.map (fun k => k.f.pack) → givM (fillT t m) p = givM m p
 | .node b f ks, m, h => by
   unfold fillT
   exact fillKs_not p ks _ _ m (by simp only [Tr.pre] at h; exact h)
theorem fillKs_not (p : Int) : ∀ (ks : List Tr) (sl s : Int) (m : List (Int × Int)), p ∉ packsL ks → givM (fillKs ks sl s m) p = givM m p
 | [], _, _, _, _ => by simp only [fillKs]
 | k :: r, sl, s, m, h => by
   rw [packsL_cons, List.mem_append, not_or] at h
   unfold fillKs
   rw [fillKs_not p r _ _ _ h.2]
   have h1 := h.1
   unfold packsT at h1
   rw [List.map_cons, List.mem_cons, not_or] at h1
   rw [fillT_not p k _ h1.2, gets_put, if_neg (fun e => h1.1 e.symm)]
end
theorem sumFill_bd (sl : Int) : ∀ (ks : List Tr) (s : Int), (∀ k ∈ ks, k.f.low ≤ k.f.ownH) → s ≤ sumFill sl s ks ∧ sumFill sl s ks ≤ max s sl ∧ (sl ≤ sumFill sl s ks ∨ sumFill sl s ks = s + (sumOwn ks - sumLow ks))
 | [], s, _ => by simp only [sumFill, sumOwn_nil, sumLow_nil]; omega
 | k :: r, s, h => by
   obtain ⟨h1, h2, h3⟩ := sumFill_bd sl r (s + moreF sl s k) (fun x hx => h x (List.mem_cons_of_mem _ hx))
   have h0 := h k (by simp)
   simp only [sumFill, sumOwn_cons, sumLow_cons]
   have hm : moreF sl s k = min (k.f.ownH - k.f.low) (max 0 (sl - s)) := rfl
   omega
mutual
theorem fillT_holds (G : Int → Int) : ∀ (t : Tr) (m : List (Int × Int)) (w : Int), Rn t → (t.pre.map (fun k => k.f.pack)).Nodup → (∀ p ∈ t.pre.map (fun k => k.f.pack), G p = givM (fillT t m) p) → t.f.low ≤ w → holdsT G t w = true
 | .node b f ks, m, w, h, hn, hG, hw => by
   cases h with
   | node h0 hf hl ho hk =>
     simp only [f_node] at hw
     have hlow : ∀ k ∈ ks, k.f.low ≤ k.f.ownH := fun k hk2 => (hk k hk2).bd.2
     obtain ⟨g1, g2⟩ := fillKs_holds G ks f.sumL (f.missing + sumLow ks) m hk (by simpa [Tr.pre, packsL] using hn) (fun p hp => by
      have := hG p (by simpa [Tr.pre, packsL] using hp)
      rw [this]
      unfold fillT; rfl)
     obtain ⟨b1, b2, b3⟩ := sumFill_bd f.sumL ks (f.missing + sumLow ks) hlow
     unfold holdsT
     simp only [Bool.and_eq_true, decide_eq_true_eq]
     refine ⟨g1, ?_, ?_⟩ <;> omega
theorem fillKs_holds (G : Int → Int) : ∀ (ks : List Tr) (sl s : Int) (m : List (Int × Int)), (∀ k ∈ ks, Rn k) → (packsL ks).Nodup → (∀ p ∈ packsL ks, G p = givM (fillKs ks sl s m) p) → holdsL G ks = true ∧ givenL G ks = sumLow ks + (sumFill sl s ks - s)
 | [], _, _, _, _, _, _ => by simp [holdsL, givenL, sumLow_nil, sumFill]
 | k :: r, sl, s, m, h, hn, hG => by
   rw [packsL_cons, List.nodup_append] at hn
   obtain ⟨n1, n2, n3⟩ := hn
   unfold packsT at n1 n3
   rw [List.map_cons, List.nodup_cons] at n1
   obtain ⟨g1, g2⟩ := fillKs_holds G r sl (s + moreF sl s k) (fillT k (mput m k.f.pack (k.f.low + moreF sl s k))) (fun x hx => h x (List.mem_cons_of_mem _ hx)) n2 (fun p hp => by
    rw [hG p (by rw [packsL_cons]; exact List.mem_append_right _ hp), fillKs_cons])
   have hk1 : ∀ p ∈ packsT k, G p = givM (fillT k (mput m k.f.pack (k.f.low + moreF sl s k))) p := fun p hp => by
    rw [hG p (by rw [packsL_cons]; exact List.mem_append_left _ hp), fillKs_cons]
    exact fillKs_not p r _ _ _ (fun hm => n3 p hp p hm rfl)
   have hgk : G k.f.pack = k.f.low + moreF sl s k := by
    rw [hk1 k.f.pack (by unfold packsT; simp), fillT_not _ k _ n1.1, gets_put, if_pos rfl]
   have hb := (h k (by simp)).bd
   have hm : moreF sl s k = min (k.f.ownH - k.f.low) (max 0 (sl - s)) := rfl
   have hh := fillT_holds G k _ (G k.f.pack) (h k (by simp)) n1.2 (fun p hp => hk1 p (by unfold packsT; exact List.mem_cons_of_mem _ hp)) (by rw [hgk]; omega)
   refine ⟨?_, ?_⟩
   · unfold holdsL
     rw [hh, g1, Bool.and_true, Bool.and_true, decide_eq_true_eq, hgk]
     omega
   · simp only [givenL, sumLow_cons, sumFill, g2, hgk]
     omega
end
mutual
theorem holds_sink (G : Int → Int) : ∀ (t : Tr) (lo hi w : Int), holdsT G (sinkT lo hi t) w = holdsT G t w
 | .node b f ks, lo, hi, w => by
   unfold sinkT holdsT
   obtain ⟨h1, h2⟩ := holds_sinkL G ks (min f.sumH hi) f.sumL (f.missing + sumLow ks) (f.missing * 100000 + sumOwn ks)
   rw [h1, h2]
theorem holds_sinkL (G : Int → Int) : ∀ (ks : List Tr) (top sl low high : Int), holdsL G (sinkL top sl low high ks) = holdsL G ks ∧ givenL G (sinkL top sl low high ks) = givenL G ks
 | [], _, _, _, _ => by simp [sinkL]
 | k :: r, top, sl, low, high => by
   obtain ⟨h1, h2⟩ := holds_sinkL G r top sl low high
   obtain ⟨_, e2, e3, e4, _, _⟩ := sinkT_low (max k.f.low (sl - (high - k.f.ownH))) (min k.f.ownH (top - (low - k.f.low))) k
   simp only [sinkL, holdsL, givenL, h1, h2, e2, e3, e4, holds_sink G k]
   trivial
end
mutual
theorem holds_up (G : Int → Int) : ∀ (t t' : Tr) (w : Int), riseT t = some t' → holdsT G t' w = holdsT G t w ∧ t'.f.pack = t.f.pack ∧ t'.f.ownL = t.f.ownL ∧ t'.f.ownH = t.f.ownH
 | .node b f ks, t', w, h => by
   unfold riseT at h
   cases e : riseL ks with
   | none => rw [e] at h; simp at h
   | some ks' =>
     rw [e] at h
     simp only at h
     split at h
     · cases h
     · cases h
       obtain ⟨h1, h2⟩ := holds_upL G ks ks' e
       refine ⟨?_, rfl, rfl, rfl⟩
       unfold holdsT
       rw [h1, h2]
theorem holds_upL (G : Int → Int) : ∀ (ks ks' : List Tr), riseL ks = some ks' → holdsL G ks' = holdsL G ks ∧ givenL G ks' = givenL G ks
 | [], ks', h => by unfold riseL at h; cases h; trivial
 | k :: r, ks', h => by
   unfold riseL at h
   cases e : riseT k with
   | none => rw [e] at h; simp at h
   | some k' =>
     rw [e] at h
     simp only at h
     cases e2 : riseL r with
     | none => rw [e2] at h; simp at h
     | some r' =>
       rw [e2] at h
       cases h
       obtain ⟨h1, h2⟩ := holds_upL G r r' e2
       obtain ⟨h3, h4, h5, h6⟩ := holds_up G k k' (G k.f.pack) e
       simp only [holdsL, givenL, h1, h2, h4, h5, h6, h3]
       trivial
end
mutual
theorem holds_set (G : Int → Int) (p x : Int) : ∀ (t : Tr) (w : Int), (∀ k ∈ t.pre, k.f.pack = p → k.f.ownL ≤ x ∧ x ≤ k.f.ownH) → holdsT G (setO p x t) w = true → holdsT G t w = true
 | .node b f ks, w, hp, h => by
   have hps : ∀ k ∈ preL ks, k.f.pack = p → k.f.ownL ≤ x ∧ x ≤ k.f.ownH := by simpa [Tr.pre] using hp
   unfold setO holdsT at h
   unfold holdsT
   simp only [Bool.and_eq_true, decide_eq_true_eq] at h ⊢
   obtain ⟨h1, h2, h3⟩ := h
   obtain ⟨g1, g2⟩ := holds_setL G p x ks hps h1
   rw [g2] at h2 h3
   by_cases e : f.pack = p
   · rw [if_pos e] at h2 h3; exact ⟨g1, h2, h3⟩
   · rw [if_neg e] at h2 h3; exact ⟨g1, h2, h3⟩
theorem holds_setL (G : Int → Int) (p x : Int) : ∀ (ks : List Tr), (∀ k ∈ preL ks, k.f.pack = p → k.f.ownL ≤ x ∧ x ≤ k.f.ownH) → holdsL G (setOL p x ks) = true → holdsL G ks = true ∧ givenL G (setOL p x ks) = givenL G ks
 | [], _, _ => by simp [setOL, holdsL]
 | .node b f ks :: r, hp, h => by
   simp only [setOL, holdsL, Bool.and_eq_true, decide_eq_true_eq] at h
   obtain ⟨⟨h1, h2⟩, h3⟩ := h
   obtain ⟨g1, g2⟩ := holds_setL G p x r (fun k hk => hp k (by simp [preL, hk])) h3
   have hpk : (setO p x (.node b f ks)).f.pack = f.pack := by simp only [setO, f_node]; split <;> rfl
   rw [hpk] at h1 h2
   have h4 := holds_set G p x (.node b f ks) _ (fun k hk => hp k (by simp [preL, hk])) h2
   have h5 := hp (.node b f ks) (by simp [preL])
   simp only [f_node] at h5
   simp only [holdsL, givenL, setOL, Bool.and_eq_true, decide_eq_true_eq, f_node, hpk, g2]
   refine ⟨⟨⟨?_, h4⟩, g1⟩, trivial⟩
   simp only [setO, f_node] at h1
   refine decide_eq_true ?_
   by_cases e : f.pack = p
   · rw [if_pos e] at h1
     simp only at h1
     have := h5 e
     omega
   · rw [if_neg e] at h1; exact h1
end
mutual
theorem sink_rn : ∀ (t : Tr) (lo hi : Int), Rn t → Rn (sinkT lo hi t)
 | .node b f ks, lo, hi, h => by
   cases h with
   | node h0 hn hl ho hk =>
     unfold sinkT
     obtain ⟨e1, e2⟩ := sinkL_sums (min f.sumH hi) f.sumL (f.missing + sumLow ks) (f.missing * 100000 + sumOwn ks) ks
     exact .node h0 (by rw [e1, e2]; exact hn) (by rw [e1]; exact hl) ho (sink_rnL ks _ _ _ _ hk)
theorem sink_rnL : ∀ (l : List Tr) (top sl low high : Int), (∀ k ∈ l, Rn k) → ∀ k ∈ sinkL top sl low high l, Rn k
 | [], _, _, _, _, _, k, hk => by simp [sinkL] at hk
 | x :: r, top, sl, low, high, h, k, hk => by
   simp only [sinkL] at hk
   rcases List.mem_cons.1 hk with e | hk
   · rw [e]; exact sink_rn x _ _ (h x (by simp))
   · exact sink_rnL r top sl low high (fun y hy => h y (List.mem_cons_of_mem _ hy)) k hk
end
theorem solve_set {r : Tr} {p w lo hi : Int} (hr : Rn r) (hn : (packsL r.ks).Nodup) (hp : r.f.pack ≠ p) (h2 : r.f.low ≤ hi) (h3 : hi ≤ r.f.ownH) (he : ∃ k ∈ (sinkT lo hi r).pre, k.f.pack = p ∧ k.f.endL ≤ w ∧ w ≤ k.f.endH) : ∃ q, riseT (setO p w (sinkT lo hi r)) = some q := by
 obtain ⟨b, f, ks⟩ := r
 cases hr with
 | node h0 hf hl ho hk =>
   simp only [f_node, ks_node] at hp h2 h3 hn
   obtain ⟨rs, g1, g2, g3, g4⟩ := set_inL p w ks (min f.sumH hi) f.sumL (f.missing + sumLow ks) (f.missing * 100000 + sumOwn ks) hk hn (by omega) (by omega) (by
    obtain ⟨k, hk1, hk2⟩ := he
    exact ⟨k, by simpa [sinkT, Tr.pre] using hk1, hk2⟩)
   unfold sinkT
   simp only [setO]
   rw [if_neg hp]
   unfold riseT
   rw [g1]
   simp only
   rw [if_neg (by omega)]
   exact ⟨_, rfl⟩
theorem setOL_pre (p x : Int) : ∀ l : List Tr, (∀ k ∈ l, (setO p x k).pre = k.pre.map (setO p x)) → preL (setOL p x l) = (preL l).map (setO p x)
 | [], _ => by simp [setOL, preL]
 | k :: r, h => by
   simp only [setOL, preL, List.map_cons, List.map_append, h k (by simp), setOL_pre p x r (fun y hy => h y (List.mem_cons_of_mem _ hy))]
mutual
theorem set_pre (p x : Int) : ∀ t : Tr, (setO p x t).pre = t.pre.map (setO p x)
 | .node b f ks => by simp only [setO, Tr.pre]; exact set_preL p x ks
theorem set_preL (p x : Int) : ∀ l : List Tr, preL (setOL p x l) = (preL l).map (setO p x)
 | [] => by simp [setOL, preL]
 | k :: r => by simp only [setOL, preL, List.map_cons, List.map_append, set_pre p x k, set_preL p x r]
end
mutual
theorem holds_cong {G H : Int → Int} : ∀ (t : Tr) (w : Int), (∀ k ∈ t.pre, G k.f.pack = H k.f.pack) → holdsT G t w = holdsT H t w
 | .node b f ks, w, h => by
   obtain ⟨h1, h2⟩ := holds_congL (G := G) (H := H) ks (by simpa [Tr.pre] using h)
   unfold holdsT
   rw [h1, h2]
theorem holds_congL {G H : Int → Int} : ∀ (ks : List Tr), (∀ k ∈ preL ks, G k.f.pack = H k.f.pack) → holdsL G ks = holdsL H ks ∧ givenL G ks = givenL H ks
 | [], _ => by simp [holdsL, givenL]
 | k :: r, h => by
   obtain ⟨h1, h2⟩ := holds_congL (G := G) (H := H) r (fun q hq => h q (by simp [preL, hq]))
   have h3 := h k (by simp [preL])
   simp only [holdsL, givenL, h1, h2, h3, holds_cong (G := G) (H := H) k _ (fun q hq => h q (by simp [preL, hq]))]
   trivial
end
theorem compl_good {xs : List Pa} {known loss pack weight : Int} (h : weighE xs known loss (hasP xs known loss pack) = 0) (hw : (weighP xs known loss pack).1 ≤ weight ∧ weight ≤ (weighP xs known loss pack).2) :
 complIs xs known loss pack weight = true ∧ compB xs known loss (complV xs known loss pack weight) = true ∧ ∃ G : Int → Int, complV xs known loss pack weight = (papersL xs known loss).map (fun x => (x.pack, G x.pack)) ∧ G pack = weight := by
 obtain ⟨ho, hh⟩ := root_open (weigh_root h)
 have hmo := mani_ok (check_good (open_check ho)).1 known loss
 have hr0 : rootE xs known loss true = 0 := by
  have := weigh_root h
  rwa [hh] at this
 have hsome : ((rootT xs known loss).bind solveT).isSome = true := by
  unfold weighE at h
  rw [if_pos (weigh_root h)] at h
  cases e : ((rootT xs known loss).bind solveT).isSome with
  | true => rfl
  | false => rw [e] at h; simp at h
 obtain ⟨s, hs⟩ := Option.isSome_iff_exists.1 hsome
 obtain ⟨t0, e0, e1⟩ := Option.bind_eq_some_iff.1 hs
 have e0' : treeT (papersL xs known loss) (totalsL xs known loss) (fun _ => true) = some t0 := e0
 have hm := weigh_find ho hh hs
 obtain ⟨k, hk, hkm, hkp⟩ := find_of_pack hm
 have hwp : weighP xs known loss pack = (k.f.endL, k.f.endH) := by
  unfold weighP
  rw [hs]
  simp only [hk, nodeF]
 rw [hwp] at hw
 simp only at hw
 have hbd := tree_bd hmo _ e0'
 obtain ⟨hup, hups⟩ := solve_up hbd e1
 obtain ⟨hbs, _, _⟩ := solve_facts hbd e1
 have hnd0 := tree_nodup hmo.packs e0'
 have hnd : (s.pre.map (fun k => k.f.pack)).Nodup := by rw [solve_packs e1]; exact hnd0
 obtain ⟨hk1, hk2, hk3⟩ := hups k hkm
 have hkl := (up_pre s hup k hkm).low
 have hpos : pack ≠ 0 := by
  obtain ⟨y, hy⟩ := Option.isSome_iff_exists.1 (show (ofI (papersL xs known loss) pack).isSome = true from hh)
  obtain ⟨hy1, hy2⟩ := ofI_mem hy
  have := (hmo.pp y hy1).1
  omega
 obtain ⟨_, hroot, _, hown⟩ := tree_grown e0'
 obtain ⟨r, er⟩ : ∃ r, riseT t0 = some r := by
  cases e : riseT t0 with
  | none => rw [solve_no e] at e1; cases e1
  | some r => exact ⟨r, rfl⟩
 have es : sinkT r.f.ownL r.f.ownH r = s := by rw [solve_yes er] at e1; exact Option.some.inj e1
 have hall : ∀ q ∈ t0 :: t0.pre, 0 ≤ q.f.missing ∧ q.f.ownL ≤ q.f.ownH := by
  intro q hq
  have hb : Bd q := by
   rcases List.mem_cons.1 hq with rfl | hq
   · exact hbd
   · exact bd_pre _ hbd q hq
  have h2 := hb.fb
  unfold FB at h2
  omega
 obtain ⟨hrn, hrp⟩ := rise_rn t0 r hall er
 obtain ⟨_, _, hro1, hro⟩ := holds_up (fun _ => 0) t0 r 0 er
 have hnr : (packsL r.ks).Nodup := by
  have h3 := hnd
  rw [← es] at h3
  have h4 := sink_packsT r r.f.ownL r.f.ownH
  unfold packsT at h4
  rw [List.map_cons, List.map_cons] at h4
  have h5 := (List.cons.inj h4).2
  rw [h5] at h3
  cases r with
  | node b f ks => simpa [Tr.pre, packsL, ks_node] using h3
 obtain ⟨q, hq⟩ := solve_set (p := pack) (w := weight) (lo := r.f.ownL) (hi := r.f.ownH) hrn hnr (by rw [hrp, hroot]; exact fun e => hpos e.symm) hrn.bd.2 (Int.le_refl _) ⟨k, by rw [es]; exact hkm, hkp, hw.1, hw.2⟩
 rw [es] at hq
 have hu : solveT (setO pack weight s) = some (sinkT q.f.ownL q.f.ownH q) := solve_yes hq
 have hcT : compT xs known loss pack weight = some (sinkT q.f.ownL q.f.ownH q) := by unfold compT; rw [hs, Option.bind_some, hu]
 have hIs : complIs xs known loss pack weight = true := by
  unfold complIs within
  rw [decide_eq_true h, hwp, hcT, decide_eq_true hw]
  rfl
 have hbs2 := setO_bd pack weight (by omega) s hbs
 have hall2 : ∀ z ∈ setO pack weight s :: (setO pack weight s).pre, 0 ≤ z.f.missing ∧ z.f.ownL ≤ z.f.ownH := by
  intro z hz
  have hb : Bd z := by
   rcases List.mem_cons.1 hz with rfl | hz
   · exact hbs2
   · exact bd_pre _ hbs2 z hz
  have h2 := hb.fb
  unfold FB at h2
  omega
 obtain ⟨hqn, _⟩ := rise_rn _ q hall2 hq
 have hun := sink_rn q q.f.ownL q.f.ownH hqn
 have hund : ((sinkT q.f.ownL q.f.ownH q).pre.map (fun k => k.f.pack)).Nodup := by rw [solve_packs hu, setO_packs]; exact hnd
 have hsp : s.f.pack ≠ pack := by rw [← es, (sinkT_low _ _ r).2.2.2.1, hrp, hroot]; exact fun e => hpos e.symm
 have hlow : (sinkT q.f.ownL q.f.ownH q).f.low ≤ 1099511627776 := by
  obtain ⟨_, _, _, h6⟩ := holds_up (fun _ => 0) _ q 0 hq
  have h7 : (setO pack weight s).f.ownH = s.f.ownH := by
   cases s with
   | node b f ks => simp only [f_node] at hsp; simp only [setO, f_node, if_neg hsp]
  have h8 : s.f.ownH = 1099511627776 := by rw [← es, (sinkT_low _ _ r).2.1, hro, hown]
  rw [(sinkT_low _ _ q).1]
  have := hqn.bd.2
  omega
 have hfin := fillT_holds (givM (fillT (sinkT q.f.ownL q.f.ownH q) [])) _ [] 1099511627776 hun hund (fun p hp => rfl) hlow
 have hV : complV xs known loss pack weight = (papersL xs known loss).map (fun x => (x.pack, givM (fillT (sinkT q.f.ownL q.f.ownH q) []) x.pack)) := by
  unfold complV complL
  rw [hIs, hcT, if_pos rfl]
 obtain ⟨G, hG⟩ : ∃ G, givM (fillT (sinkT q.f.ownL q.f.ownH q) []) = G := ⟨_, rfl⟩
 rw [hG] at hfin hV
 rw [holds_sink, (holds_up G _ q 1099511627776 hq).1] at hfin
 have hGp : G pack = weight := by
  have h3 := (holds_iff G _ _).1 hfin
  have h4 := (h3.2 (setO pack weight k) (by rw [set_pre]; exact List.mem_map.2 ⟨k, hkm, rfl⟩)).1
  have h5 : (setO pack weight k).f.pack = pack ∧ (setO pack weight k).f.ownL = weight ∧ (setO pack weight k).f.ownH = weight := by
   cases k with
   | node b f ks =>
     simp only [f_node] at hkp
     simp only [setO, f_node, if_pos hkp]
     exact ⟨hkp, trivial, trivial⟩
  rw [h5.1, h5.2.1, h5.2.2] at h4
  omega
 have hfin2 := holds_set G pack weight s _ (fun z hz e => by
  have : z = k := nodup_same (f := fun k : Tr => k.f.pack) hnd hz hkm (e.trans hkp.symm)
  subst this
  omega) hfin
 rw [← es, holds_sink, (holds_up G t0 r _ er).1] at hfin2
 refine ⟨hIs, ?_, G, hV, hGp⟩
 unfold compB
 rw [decide_eq_true hr0, Bool.true_and, hV, e0]
 have hfst : ((papersL xs known loss).map (fun x => (x.pack, G x.pack))).map (·.1) = (papersL xs known loss).map (·.pack) := by
  rw [List.map_map]; rfl
 rw [decide_eq_true hfst, Bool.true_and]
 simp only
 rw [holds_cong (H := G) t0 _ (fun z hz => ?_)]
 · exact hfin2
 · obtain ⟨y, hy, hyp⟩ := pre_in hmo e0' z hz
   rw [← hyp]
   exact giv_of (cs := (papersL xs known loss).map (fun x => (x.pack, G x.pack))) (by rw [hfst]; exact hmo.packs.nodup) (y.pack, G y.pack) (List.mem_map.2 ⟨y, hy, rfl⟩)
end Go.Proofs.YtehplmeckfinoaaGreatDoor
