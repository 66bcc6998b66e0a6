/- A range over a map that is told by a list of keys and values. No dump. -/
import Derived.Test.YtehplmeckfinoaaGreatDoorMaps
import Derived.Maps.RangeWalk
import Derived.Sort.MapsRangeIn
import Derived.RangeFuncKeeps
set_option linter.unusedSimpArgs false
set_option linter.unusedVariables false
namespace Go.Proofs.YtehplmeckfinoaaGreatDoor
open Go.RowKit
open Go.ChangeMaps (setBlock)
def picks {α : Type} (m : List α) (js : List Nat) : List α := js.filterMap (fun j => m[j]?)
theorem picks_nil {α : Type} (m : List α) : picks m [] = [] := rfl
theorem picks_snoc {α : Type} {m : List α} {js : List Nat} {j : Nat} {x : α} (h : m[j]? = some x) : picks m (js ++ [j]) = picks m js ++ [x] := by
 unfold picks
 simp [List.filterMap_append, h]
theorem picks_range {α : Type} (m : List α) : picks m (List.range m.length) = m := by
 unfold picks
 induction m with
 | nil => rfl
 | cons x r ih =>
   rw [List.length_cons, List.range_succ_eq_map, List.filterMap_cons]
   simp only [List.getElem?_cons_zero, List.filterMap_map]
   congr 1
theorem picks_perm {α : Type} {m : List α} {js : List Nat} (hn : js.Nodup) (hl : ∀ j ∈ js, j < m.length) (ha : ∀ j, j < m.length → j ∈ js) : (picks m js).Perm m := by
 have hp : js.Perm (List.range m.length) := (List.perm_ext_iff_of_nodup hn List.nodup_range).2 fun a => ⟨fun h => List.mem_range.2 (hl a h), fun h => ha a (List.mem_range.1 h)⟩
 have := hp.filterMap (fun j => m[j]?)
 rw [show (List.range m.length).filterMap (fun j => m[j]?) = m from picks_range m] at this
 exact this
theorem picks_length {α : Type} {m : List α} {js : List Nat} (hl : ∀ j ∈ js, j < m.length) : (picks m js).length = js.length := by
 unfold picks
 induction js with
 | nil => rfl
 | cons j r ih =>
   rw [List.filterMap_cons, List.getElem?_eq_getElem (hl j (by simp))]
   simp [ih fun k hk => hl k (by simp [hk])]
theorem perm_sum {xs ys : List Int} (h : xs.Perm ys) : xs.sum = ys.sum := by
 induction h with
 | nil => rfl
 | cons x _ ih => simp [ih]
 | swap x y l => simp only [List.sum_cons]; omega
 | trans _ _ h1 h2 => exact h1.trans h2
theorem nodup_len_lt {js : List Nat} {n j : Nat} (hn : js.Nodup) (hl : ∀ i ∈ js, i < n) (hj : j ∉ js) (hjn : j < n) : js.length < n := by
 have h1 : (js ++ [j]).Nodup := by
  rw [List.nodup_append]
  exact ⟨hn, by simp, fun a ha b hb => by rw [List.mem_singleton.1 hb]; intro e; exact hj (e ▸ ha)⟩
 have h2 : (js ++ [j]).length ≤ (List.range n).length := h1.length_le_of_subset fun a ha => by
  rcases List.mem_append.1 ha with ha | ha
  · exact List.mem_range.2 (hl a ha)
  · rw [List.mem_singleton.1 ha]; exact List.mem_range.2 hjn
 simp at h2
 omega
theorem ownsRow_not_walk {W : World} {base : Nat} {e : TypeId} {size : Nat} {v : Value} {k : Nat} {xs : List Value} (h : W.ownsRow base e size v k xs) : ∀ (j : Nat) (o : Obj), v.ownBlock = some j → W.heap[j]? = some o → o.isWalk = false := by
 intro j o hj ho
 rcases h.2 with ⟨rfl, _⟩ | ⟨g, cap, cur, rfl, _, hgb, _⟩
 · simp [Value.ownBlock] at hj
 · have : g = j := by simpa [Value.ownBlock] using hj
   subst this; rw [hgb] at ho; cases ho; rfl
section
variable {κ ν : Type} {P : Program} {K E T : TypeId} {ke : κ → Value} {ve : ν → Value} {w w' : World} {b r : Nat} {m : List (κ × ν)} {js : List Nat}
def RangeT (ke : κ → Value) (ve : ν → Value) (w : World) (b r : Nat) (m : List (κ × ν)) (js : List Nat) : Prop :=
 ∃ (es : Array MapEntry) (clock since : Nat) (seen : Array Nat) (c0 : Nat), w.heap[b]? = some (.map es clock) ∧ es.toList.map (fun e => (e.key, e.val)) = m.map (fun x => (ke x.1, ve x.2)) ∧
  es.toList.Pairwise (fun x y => x.born < y.born) ∧ w.heap[r]? = some (.mapIter (some b) since seen c0) ∧ (∀ x ∈ es.toList, x.born < since) ∧ since ≤ c0 ∧ since ≤ clock ∧
  js.Nodup ∧ (∀ j ∈ js, j < m.length) ∧ seen.toList.map some = js.map (fun j => (es.toList[j]?).map (·.born))
theorem RangeT.of_walks (h : RangeT ke ve w b r m js) (hk : KeepsWalks w w') : RangeT ke ve w' b r m js := by
 obtain ⟨es, clock, since, seen, c0, hb, h1, h2, hr, rest⟩ := h
 exact ⟨es, clock, since, seen, c0, hk.same b _ hb rfl, h1, h2, hk.same r _ hr rfl, rest⟩
theorem RangeT.kept {row : Option Nat} (h : RangeT ke ve w b r m js) (hg : w.grownBy w' row) (hb' : some b ≠ row) (hr' : some r ≠ row) : RangeT ke ve w' b r m js := by
 obtain ⟨es, clock, since, seen, c0, hb, h1, h2, hr, rest⟩ := h
 exact ⟨es, clock, since, seen, c0, (hg.block b (Array.getElem?_eq_some_iff.1 hb).1 hb').trans hb, h1, h2, (hg.block r (Array.getElem?_eq_some_iff.1 hr).1 hr').trans hr, rest⟩
theorem RangeT.left_walks (h : RangeT ke ve w b r m js) (hk : KeepsWalks w w') : w'.rangeLeft b r = w.rangeLeft b r := by
 obtain ⟨es, clock, since, seen, c0, hb, h1, h2, hr, rest⟩ := h
 simp only [World.rangeLeft, hk.same b _ hb rfl, hk.same r _ hr rfl, hb, hr]
theorem RangeT.iter_walk (h : RangeT ke ve w b r m js) : ∃ o : Obj, w.heap[r]? = some o ∧ o.isWalk = true := by
 obtain ⟨es, clock, since, seen, c0, hb, h1, h2, hr, rest⟩ := h
 exact ⟨_, hr, rfl⟩
theorem RangeT.bound (h : RangeT ke ve w b r m js) : js.Nodup ∧ ∀ j ∈ js, j < m.length := by
 obtain ⟨es, clock, since, seen, c0, hb, h1, h2, hr, h3, h4, h5, h6, h7, h8⟩ := h
 exact ⟨h6, h7⟩
theorem MapT.range (h : MapT P K ke ve w b m) (ht : P.underlying T = some (.map K E)) :
 ∃ w', (Instr.range T (.map (some b))).run P w = .ok (.pointer (some ⟨w.heap.size, 0, none⟩)) w' ∧ RangeT ke ve w' b w.heap.size m [] ∧ w.grownBy w' none ∧ w'.heap.size = w.heap.size + 1 := by
 have hlt := h.lt
 obtain ⟨es, clock, hb, hm, hk, hn, hst, hcl⟩ := h
 exact ⟨_, run_range_map w T K E b es clock ht hb, ⟨es, clock, clock, #[], clock, ((MapKept.heap_alloc w _).2 b hlt).trans hb, hm, hst, (MapKept.heap_alloc w _).1, hcl, Nat.le_refl _, Nat.le_refl _, by simp, by simp, by simp⟩, World.grownBy_alloc w _ none, by simp⟩
theorem RangeT.next (h : RangeT ke ve w b r m js) (ty : TypeId) :
 ((picks m js).Perm m ∧ (Instr.next (.pointer (some ⟨r, 0, none⟩)) false ty).run P w = .ok (.tuple #[.bool false]) w) ∨
 ∃ j x w', j ∉ js ∧ m[j]? = some x ∧ js.length < m.length ∧ (Instr.next (.pointer (some ⟨r, 0, none⟩)) false ty).run P w = .ok (.tuple #[.bool true, ke x.1, ve x.2]) w' ∧ RangeT ke ve w' b r m (js ++ [j]) ∧
  w'.rangeLeft b r < w.rangeLeft b r ∧ w.grownBy w' (some r) ∧ w'.heap.size = w.heap.size ∧ (Instr.entry (.pointer (some ⟨r, 0, none⟩))).run P w' = .ok (.tuple #[ke x.1, ve x.2]) w' := by
 obtain ⟨es, clock, since, seen, c0, hb, hm, hst, hr, hold, hsc, hsk, hnd, hlt, hsn⟩ := h
 have hne : r ≠ b := fun e => by rw [e, hb] at hr; cases hr
 have hlen : es.toList.length = m.length := by have := congrArg List.length hm; simpa using this
 rcases run_next_at (P := P) w ty r b since c0 seen es clock hr hb hold hsc with ⟨h0, hrun⟩ | ⟨e, he, w1, hal, hrun⟩
 · refine .inl ⟨picks_perm hnd hlt fun j hj => ?_, hrun⟩
   have hj' : j < es.toList.length := by omega
   have hc := all_seen es seen h0 es.toList[j] (List.getElem_mem hj')
   have hc' : es.toList[j].born ∈ seen.toList := by simpa using hc
   have : some es.toList[j].born ∈ js.map (fun j => (es.toList[j]?).map (·.born)) := by rw [← hsn]; exact List.mem_map_of_mem hc'
   obtain ⟨i, hi, hib⟩ := List.mem_map.1 this
   have hi' : i < es.toList.length := by have := hlt i hi; omega
   rw [List.getElem?_eq_getElem hi'] at hib
   have hbb : es.toList[i].born = es.toList[j].born := by simpa using hib
   have hij : i = j := by
    rcases Nat.lt_trichotomy i j with h1 | h1 | h1
    · have := (List.pairwise_iff_getElem.1 hst) i j hi' hj' h1; omega
    · exact h1
    · have := (List.pairwise_iff_getElem.1 hst) j i hj' hi' h1; omega
   rw [← hij]; exact hi
 · obtain ⟨hem, hes⟩ := mem_left he
   obtain ⟨j, hj⟩ := List.getElem?_of_mem hem
   have hjl : j < m.length := by rw [← hlen]; exact (List.getElem?_eq_some_iff.1 hj).1
   have hmj : (m.map (fun x => (ke x.1, ve x.2)))[j]? = some (e.key, e.val) := by rw [← hm, List.getElem?_map, hj]; rfl
   rw [List.getElem?_map, List.getElem?_eq_getElem hjl] at hmj
   have hkv := Prod.mk.inj (Option.some.inj hmj)
   have hjn : j ∉ js := fun hin => by
    have h1 : some e.born ∈ seen.toList.map some := by rw [hsn]; exact List.mem_map.2 ⟨j, hin, by rw [hj]; rfl⟩
    have h2 : e.born ∈ seen.toList := by simpa using h1
    have h3 : seen.contains e.born = true := by simpa using h2
    rw [h3] at hes; cases hes
   have hr1 : w1.heap[r]? = some (.mapIter (some b) since seen c0) := by rcases hal with rfl | rfl <;> exact hr
   have hb1 : w1.heap[b]? = some (.map es clock) := by rcases hal with rfl | rfl <;> exact hb
   have hset := Go.MapKept.heap_set (o' := .mapIter (some b) since (seen.push e.born) clock) hr1
   have hb' : (setBlock w1 r (.mapIter (some b) since (seen.push e.born) clock)).heap[b]? = some (.map es clock) := (hset.2 b (fun e1 => hne e1.symm)).trans hb1
   have hbn : (es.toList.map (·.born)).Nodup := by
    rw [List.Nodup, List.pairwise_map]
    exact hst.imp fun h => by omega
   refine .inr ⟨j, m[j], _, hjn, List.getElem?_eq_getElem hjl, nodup_len_lt hnd hlt hjn hjl, by rw [hkv.1, hkv.2]; exact hrun,
    ⟨es, clock, since, seen.push e.born, clock, hb', hm, hst, hset.1, hold, hsk, hsk, ?_, ?_, ?_⟩, ?_, ?_, ?_, by rw [hkv.1, hkv.2]; exact run_entry_at _ r b since seen es clock e hset.1 hb' hem hbn⟩
   · rw [List.nodup_append]
     exact ⟨hnd, by simp, fun a ha c hc => by rw [List.mem_singleton.1 hc]; intro e1; exact hjn (e1 ▸ ha)⟩
   · intro i hi
     rcases List.mem_append.1 hi with hi | hi
     · exact hlt i hi
     · rw [List.mem_singleton.1 hi]; exact hjl
   · rw [Array.toList_push, List.map_append, List.map_append, hsn]
     congr 1
     show [some e.born] = [(es.toList[j]?).map (·.born)]
     rw [hj]; rfl
   · have h1 : w.rangeLeft b r = (leftOf es seen).size := by simp only [World.rangeLeft, hb, hr]
     have hr' : (setBlock w1 r (.mapIter (some b) since (seen.push e.born) clock)).heap[r]? = some (.mapIter (some b) since (seen.push e.born) clock) := hset.1
     have h2 : (setBlock w1 r (.mapIter (some b) since (seen.push e.born) clock)).rangeLeft b r = (leftOf es (seen.push e.born)).size := by simp only [World.rangeLeft, hb', hr']
     rw [h1, h2]; exact left_shrinks es seen e he
   · rcases hal with rfl | rfl <;> exact ⟨rfl, rfl, rfl, by simp [setBlock], fun i _ hi => hset.2 i (fun e1 => hi (by rw [e1]))⟩
   · rcases hal with rfl | rfl <;> simp [setBlock]
end
section
variable {κ ν : Type} {F : Fence} {n : Nat} {P : Program} {K E : TypeId} {ke : κ → Value} {ve : ν → Value} (w : World) {ops : Array Oper} {rest : List Oper} {o : Oper} {a : Act} {Q : Exit → Act → World → Prop} {b r : Nat} {m : List (κ × ν)} {js : List Nat}
theorem wpListIn_range_T (hg : o.guard = none) (mm : Operand) (t : TypeId) (hop : o.op = Op.range t mm) (ht : P.underlying t = some (.map K E))
 (hm : a.eval mm = .map (some b)) (hown : MapT P K ke ve w b m)
 (hK : ∀ w', RangeT ke ve w' b w.heap.size m [] → w.grownBy w' none → w'.heap.size = w.heap.size + 1 → wpListIn F n P ops Q rest (a.put o.dst (.pointer (some ⟨w.heap.size, 0, none⟩))) w') :
 wpListIn F n P ops Q (o :: rest) a w := by
 refine wpListIn_plain hg fun K' hK' => ?_
 obtain ⟨w', hrun, r1, r2, r3⟩ := hown.range ht
 unfold Oper.wpIn
 refine ⟨?_, ?_⟩
 · simp [Oper.about, hop]
 · rw [Oper.semAt_plain F _ _ (by rw [hop]; intro c hc'; cases hc')]
   simp [execOp, hop, hm, hrun, Result.andThen]
   exact hK' _ _ (hK w' r1 r2 r3)
theorem wpListIn_next_T (hg : o.guard = none) (it : Operand) (hop : o.op = Op.next it false)
 (hit : a.eval it = .pointer (some ⟨r, 0, none⟩)) (h : RangeT ke ve w b r m js)
 (hDone : (picks m js).Perm m → wpListIn F n P ops Q rest (a.put o.dst (.tuple #[.bool false])) w)
 (hMore : ∀ (j : Nat) (x : κ × ν) (w' : World), j ∉ js → m[j]? = some x → js.length < m.length → RangeT ke ve w' b r m (js ++ [j]) → w'.rangeLeft b r < w.rangeLeft b r →
   w.grownBy w' (some r) → w'.heap.size = w.heap.size → (Instr.entry (.pointer (some ⟨r, 0, none⟩))).run P w' = .ok (.tuple #[ke x.1, ve x.2]) w' → wpListIn F n P ops Q rest (a.put o.dst (.tuple #[.bool true, ke x.1, ve x.2])) w') :
 wpListIn F n P ops Q (o :: rest) a w := by
 refine wpListIn_plain hg fun K' hK' => ?_
 unfold Oper.wpIn
 refine ⟨by simp [Oper.about, hop], ?_⟩
 rw [Oper.semAt_plain F _ _ (by rw [hop]; intro c hc'; cases hc')]
 rcases h.next (P := P) o.type with ⟨h0, hrun⟩ | ⟨j, x, w', hj, hx, hl, hrun, hrg, hlt, hgr, hsz, hen⟩
 · simp [execOp, hop, hit, hrun, Result.andThen]
   exact hK' _ _ (hDone h0)
 · simp [execOp, hop, hit, hrun, Result.andThen]
   exact hK' _ _ (hMore j x w' hj hx hl hrg hlt hgr hsz hen)
theorem wpList_range_T (hg : o.guard = none) (mm : Operand) (t : TypeId) (hop : o.op = Op.range t mm) (ht : P.underlying t = some (.map K E))
 (hm : a.eval mm = .map (some b)) (hown : MapT P K ke ve w b m)
 (hK : ∀ w', RangeT ke ve w' b w.heap.size m [] → w.grownBy w' none → w'.heap.size = w.heap.size + 1 → wpList P ops Q rest (a.put o.dst (.pointer (some ⟨w.heap.size, 0, none⟩))) w') :
 wpList P ops Q (o :: rest) a w := by
 refine wpList_plain hg fun K' hK' => ?_
 obtain ⟨w', hrun, r1, r2, r3⟩ := hown.range ht
 unfold Oper.wp
 simp [execOp, hop, hm, hrun, Result.andThen]
 exact hK' _ _ (hK w' r1 r2 r3)
theorem wpList_next_T (hg : o.guard = none) (it : Operand) (hop : o.op = Op.next it false)
 (hit : a.eval it = .pointer (some ⟨r, 0, none⟩)) (h : RangeT ke ve w b r m js)
 (hDone : (picks m js).Perm m → wpList P ops Q rest (a.put o.dst (.tuple #[.bool false])) w)
 (hMore : ∀ (j : Nat) (x : κ × ν) (w' : World), j ∉ js → m[j]? = some x → js.length < m.length → RangeT ke ve w' b r m (js ++ [j]) → w'.rangeLeft b r < w.rangeLeft b r →
   w.grownBy w' (some r) → w'.heap.size = w.heap.size → (Instr.entry (.pointer (some ⟨r, 0, none⟩))).run P w' = .ok (.tuple #[ke x.1, ve x.2]) w' → wpList P ops Q rest (a.put o.dst (.tuple #[.bool true, ke x.1, ve x.2])) w') :
 wpList P ops Q (o :: rest) a w := by
 refine wpList_plain hg fun K' hK' => ?_
 unfold Oper.wp
 rcases h.next (P := P) o.type with ⟨h0, hrun⟩ | ⟨j, x, w', hj, hx, hl, hrun, hrg, hlt, hgr, hsz, hen⟩
 · simp [execOp, hop, hit, hrun, Result.andThen]
   exact hK' _ _ (hDone h0)
 · simp [execOp, hop, hit, hrun, Result.andThen]
   exact hK' _ _ (hMore j x w' hj hx hl hrg hlt hgr hsz hen)
end
end Go.Proofs.YtehplmeckfinoaaGreatDoor
