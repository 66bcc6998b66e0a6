/- The map of the last papers found: its keys, its laws, and the lists that come of it. -/
import Derived.Test.YtehplmeckfinoaaGreatDoorCCountIt
import Derived.Test.YtehplmeckfinoaaGreatDoorCModel
import Derived.Test.YtehplmeckfinoaaGreatDoorCGrowP
set_option linter.unusedSimpArgs false
set_option linter.unusedVariables false
namespace Go.Proofs.YtehplmeckfinoaaGreatDoor
open Go.RowKit
open Go.Maps (Keyed)
theorem kKey_key {x : Int × Bool} (h1 : I64 x.1) : ∃ l, keyOf Tryz.prog 166 (kKey x) = some l := by
 have hw1 := h1.wf
 have hty : Tryz.prog.keyType 166 = true := by kernel_rfl
 have hcz : Tryz.prog.cellsOf 166 = 2 := by kernel_rfl
 have hci : Tryz.prog.cellsOf 3 = 1 := by kernel_rfl
 have hcb : Tryz.prog.cellsOf 4 = 1 := by kernel_rfl
 have hrow : (166 : Nat) < Tryz.prog.types.size := of_decide_eq_true (by kernel_rfl)
 obtain ⟨d, hd⟩ : ∃ d, Tryz.prog.types.size = d + 1 := ⟨Tryz.prog.types.size - 1, by omega⟩
 have hf : (Value.agg #[Value.int .i64 x.1, Value.bool x.2]).formed Tryz.prog 166 = true := by
  simp [Value.formed, Tryz.underlying166, hcz]
 have hi : ∀ y : Int, (Lit.int .i64 y).wf = true → Tryz.prog.keyLits (d + 1) 3 [.int .i64 y] = some [.int .i64 y] := fun y hy => by
  simp [Program.keyLits, Tryz.underlying3, hy]
 have hb : ∀ y : Bool, Tryz.prog.keyLits (d + 1) 4 [.bool y] = some [.bool y] := fun y => by
  simp [Program.keyLits, Tryz.underlying4]
 unfold kKey
 simp only [keyOf, Tryz.underlying166, hty, hf, hd, Bool.and_self, if_true]
 have hk : Tryz.prog.keyLits (d + 1 + 1) 166 (Value.agg #[Value.int .i64 x.1, Value.bool x.2]).cells.toList = some [.int .i64 x.1, .bool x.2] := by
  unfold Program.keyLits
  simp [Tryz.underlying166, hcz, hci, hcb, hi _ hw1, hb, Value.cells]
 rw [hk]
 exact ⟨_, rfl⟩
theorem zeroPa (w : World) : (zeroValue 42).run Tryz.prog w = .ok (vPa pa0) w := Tryz.zeroValue42 w
section
variable {w : World} {b : Nat}
theorem update_found {m : List ((Int × Bool) × Pa)} (h : MapT Tryz.prog 166 kKey vPa w b m) {k : Int × Bool} (hk : I64 k.1) (v : Pa) :
 ∃ w' : World, (Instr.mapUpdate 162 (.map (some b)) (kKey k) (vPa v)).run Tryz.prog w = .ok () w' ∧
  MapT Tryz.prog 166 kKey vPa w' b (mput m k v) ∧ w.grownBy w' (some b) ∧ w'.heap.size = w.heap.size := by
 obtain ⟨l, hl⟩ := kKey_key hk
 obtain ⟨w', h1, h2, h3, h4⟩ := h.update keyKeyed Tryz.underlying162 kKey_inj hl v
 exact ⟨w', h1, h2, h3, h4⟩
theorem lookup_found {m : List ((Int × Bool) × Pa)} (h : MapT Tryz.prog 166 kKey vPa w b m) {k : Int × Bool} (hk : I64 k.1) :
 (Instr.lookup 162 (.map (some b)) (kKey k) true).run Tryz.prog w = .ok (.tuple #[vPa ((mget m k).getD pa0), .bool (mget m k).isSome]) w := by
 obtain ⟨l, hl⟩ := kKey_key hk
 have := h.lookup_ok keyKeyed Tryz.underlying162 kKey_inj (zeroPa w) hl
 rw [this]
 cases mget m k <;> rfl
end
def foundM (loss : Int) (m : List ((Int × Bool) × Pa)) (x : Pa) : List ((Int × Bool) × Pa) := if x.loss = loss then mput m (x.pack, decide (x.kind = 2)) x else m
def foundL (c : List Pa) (loss : Int) : List ((Int × Bool) × Pa) := c.foldl (foundM loss) []
theorem foundL_snoc (c : List Pa) (x : Pa) (loss : Int) : foundL (c ++ [x]) loss = foundM loss (foundL c loss) x := by
 unfold foundL; rw [List.foldl_append]; rfl
theorem lastOf_snoc (c : List Pa) (x : Pa) (loss : Int) (t : Bool) (p : Int) :
 lastOf (c ++ [x]) loss t p = if x.loss = loss ∧ decide (x.kind = 2) = t ∧ x.pack = p then some x else lastOf c loss t p := by
 unfold lastOf
 rw [List.filter_append]
 by_cases h : x.loss = loss ∧ decide (x.kind = 2) = t ∧ x.pack = p
 · rw [if_pos h]
   obtain ⟨h1, h2, h3⟩ := h
   simp [h1, h2, h3]
 · rw [if_neg h]
   have : (decide (x.loss = loss) && decide (x.kind = 2) == t && decide (x.pack = p)) = false := by
    rw [Bool.eq_false_iff]
    intro e
    simp only [Bool.and_eq_true, decide_eq_true_eq, beq_iff_eq] at e
    exact h ⟨e.1.1, e.1.2, e.2⟩
   simp [this]
theorem foldl_snoc_ind {α β : Type} {P : List α → Prop} (h0 : P []) (h1 : ∀ l x, P l → P (l ++ [x])) : ∀ l, P l := fun l => by
 have : ∀ r : List α, P r.reverse := fun r => by
  induction r with
  | nil => exact h0
  | cons x r ih => rw [List.reverse_cons]; exact h1 _ _ ih
 have := this l.reverse
 rwa [List.reverse_reverse] at this
theorem mget_found (loss : Int) (t : Bool) (p : Int) : ∀ c : List Pa, mget (foundL c loss) (p, t) = lastOf c loss t p := by
 refine foldl_snoc_ind (β := Unit) rfl fun c x ih => ?_
 rw [foundL_snoc, lastOf_snoc]
 unfold foundM
 by_cases h : x.loss = loss
 · rw [if_pos h, mget_mput, ih]
   by_cases h2 : (x.pack, decide (x.kind = 2)) = (p, t)
   · rw [if_pos h2, if_pos ⟨h, (Prod.mk.inj h2).2, (Prod.mk.inj h2).1⟩]
   · rw [if_neg h2, if_neg (fun e => h2 (by rw [e.2.1, e.2.2]))]
 · rw [if_neg h, ih, if_neg (fun e => h e.1)]
theorem found_nodup (loss : Int) : ∀ c : List Pa, ((foundL c loss).map (·.1)).Nodup := by
 refine foldl_snoc_ind (β := Unit) (by simp [foundL]) fun c x ih => ?_
 rw [foundL_snoc]
 unfold foundM
 split
 · exact mput_nodup ih _ _
 · exact ih
theorem lastOf_mem {c : List Pa} {loss : Int} {t : Bool} {p : Int} {x : Pa} (h : lastOf c loss t p = some x) : x ∈ c ∧ x.loss = loss ∧ decide (x.kind = 2) = t ∧ x.pack = p := by
 unfold lastOf at h
 have h1 := List.mem_of_getLast? h
 rw [List.mem_filter] at h1
 obtain ⟨h2, h3⟩ := h1
 simp only [Bool.and_eq_true, decide_eq_true_eq, beq_iff_eq] at h3
 exact ⟨h2, h3.1.1, h3.1.2, h3.2⟩
theorem found_mem {c : List Pa} {loss : Int} {y : (Int × Bool) × Pa} : y ∈ foundL c loss ↔ lastOf c loss y.1.2 y.1.1 = some y.2 := by
 rw [← mget_found]
 constructor
 · intro h; exact mget_of_mem (found_nodup loss c) h
 · intro h; exact mget_mem h
theorem asc_unique : ∀ {l m : List Pa}, l.Pairwise (fun x y => x.pack < y.pack) → m.Pairwise (fun x y => x.pack < y.pack) → (∀ a, a ∈ l ↔ a ∈ m) → l = m
 | [], [], _, _, _ => rfl
 | [], y :: s, _, _, h => absurd ((h y).2 (by simp)) (by simp)
 | x :: r, [], _, _, h => absurd ((h x).1 (by simp)) (by simp)
 | x :: r, y :: s, h1, h2, h => by
   rw [List.pairwise_cons] at h1 h2
   have hxy : x = y := by
    rcases List.mem_cons.1 ((h x).1 (by simp)) with e | e
    · exact e
    · rcases List.mem_cons.1 ((h y).2 (by simp)) with e' | e'
      · exact e'.symm
      · have a1 := h2.1 x e
        have a2 := h1.1 y e'
        omega
   subst hxy
   rw [asc_unique h1.2 h2.2 fun a => ?_]
   constructor
   · intro ha
     rcases List.mem_cons.1 ((h a).1 (List.mem_cons_of_mem _ ha)) with e | e
     · have := h1.1 a ha; rw [e] at this; omega
     · exact e
   · intro ha
     rcases List.mem_cons.1 ((h a).2 (List.mem_cons_of_mem _ ha)) with e | e
     · have := h2.1 a ha; rw [e] at this; omega
     · exact e
theorem packsU_asc : packsU.Pairwise (· < ·) := by
 unfold packsU
 rw [List.pairwise_map]
 exact List.pairwise_lt_range.imp (fun h => by simpa using h)
theorem packsU_mem {p : Int} : p ∈ packsU ↔ 0 ≤ p ∧ p ≤ 200 := by
 unfold packsU
 simp only [List.mem_map, List.mem_range]
 constructor
 · rintro ⟨n, hn, rfl⟩
   simp; omega
 · rintro ⟨h0, h1⟩
   exact ⟨p.toNat, by omega, by simp; omega⟩
theorem filterMap_asc {f : Int → Option Pa} (hf : ∀ p x, f p = some x → x.pack = p) : ∀ {l : List Int}, l.Pairwise (· < ·) → (l.filterMap f).Pairwise (fun x y => x.pack < y.pack)
 | [], _ => List.Pairwise.nil
 | p :: r, h => by
   rw [List.pairwise_cons] at h
   rw [List.filterMap_cons]
   cases e : f p with
   | none => exact filterMap_asc hf h.2
   | some x =>
     rw [List.pairwise_cons]
     refine ⟨fun y hy => ?_, filterMap_asc hf h.2⟩
     obtain ⟨q, hq, hqy⟩ := List.mem_filterMap.1 hy
     rw [hf p x e, hf q y hqy]
     exact h.1 q hq
theorem papers_sorted {c : List Pa} {loss : Int} (hc : ∀ x ∈ c, 0 ≤ x.pack ∧ x.pack ≤ 200) {es : List ((Int × Bool) × Pa)} (hp : es.Perm (foundL c loss)) {q : (Int × Bool) × Pa → Bool} {f : Int → Option Pa} {tb : Bool}
 (hf : ∀ p x, f p = some x ↔ (lastOf c loss tb p = some x ∧ q ((p, tb), x) = true)) (hq : ∀ y, q y = true → y.1.2 = tb) {ts : List Pa} (ht : ts.Perm ((es.filter q).map (·.2))) (hs : ts.Pairwise (fun x y => ¬ y.pack < x.pack)) :
 ts = packsU.filterMap f := by
 have hmem : ∀ x, x ∈ ts ↔ (lastOf c loss tb x.pack = some x ∧ q ((x.pack, tb), x) = true) := fun x => by
  rw [ht.mem_iff, List.mem_map]
  constructor
  · rintro ⟨y, hy, rfl⟩
    rw [List.mem_filter] at hy
    have h1 := found_mem.1 (hp.mem_iff.1 hy.1)
    have h2 := hq y hy.2
    rw [h2] at h1
    have h3 := (lastOf_mem h1).2.2.2
    rw [← h3] at h1
    refine ⟨h1, ?_⟩
    have : y = ((y.2.pack, tb), y.2) := by rw [h3, ← h2]
    rw [← this]; exact hy.2
  · rintro ⟨h1, h2⟩
    exact ⟨((x.pack, tb), x), by rw [List.mem_filter]; exact ⟨hp.mem_iff.2 (found_mem.2 h1), h2⟩, rfl⟩
 have hnd : (ts.map (·.pack)).Nodup := by
  have h1 : (ts.map (·.pack)).Perm (((es.filter q).map (·.2)).map (·.pack)) := ht.map _
  rw [h1.nodup_iff]
  have h2 : ((es.filter q).map (·.2)).map (·.pack) = (es.filter q).map (fun y => y.1.1) := by
   rw [List.map_map]
   refine List.map_congr_left fun y hy => ?_
   rw [List.mem_filter] at hy
   exact (lastOf_mem (found_mem.1 (hp.mem_iff.1 hy.1))).2.2.2
  rw [h2]
  have h3 : ((es.filter q).map (·.1)).Nodup := by
   have : (es.map (·.1)).Nodup := by
    rw [(hp.map (·.1)).nodup_iff]; exact found_nodup loss c
   exact this.sublist (List.Sublist.map _ List.filter_sublist)
  unfold List.Nodup at h3 ⊢
  rw [List.pairwise_map] at h3 ⊢
  refine h3.imp_of_mem (fun {a b} ha hb hne e => hne ?_)
  rw [List.mem_filter] at ha hb
  have e1 := hq a ha.2
  have e2 := hq b hb.2
  exact Prod.ext e (by rw [e1, e2])
 have hasc : ts.Pairwise (fun x y => x.pack < y.pack) := by
  unfold List.Nodup at hnd
  rw [List.pairwise_map] at hnd
  exact (hs.and hnd).imp (fun {a b} h => by omega)
 refine asc_unique hasc (filterMap_asc (fun p x h => (lastOf_mem ((hf p x).1 h).1).2.2.2) packsU_asc) fun x => ?_
 rw [hmem, List.mem_filterMap]
 constructor
 · rintro ⟨h1, h2⟩
   refine ⟨x.pack, packsU_mem.2 (hc x (lastOf_mem h1).1), (hf _ _).2 ⟨h1, h2⟩⟩
 · rintro ⟨p, hpU, hpf⟩
   obtain ⟨h1, h2⟩ := (hf _ _).1 hpf
   have h3 := (lastOf_mem h1).2.2.2
   rw [h3]; exact ⟨h1, h2⟩
def isPaperB (y : (Int × Bool) × Pa) : Bool := !y.1.2
def isTotalB (m : List ((Int × Bool) × Pa)) (y : (Int × Bool) × Pa) : Bool := y.1.2 && ((mget m (y.1.1, false)).isSome || decide (y.1.1 = 0))
theorem papers_come {c : List Pa} {loss : Int} (hc : ∀ x ∈ c, 0 ≤ x.pack ∧ x.pack ≤ 200) {es : List ((Int × Bool) × Pa)} (hp : es.Perm (foundL c loss)) {ts : List Pa} (ht : ts.Perm ((es.filter isPaperB).map (·.2)))
 (hs : ts.Pairwise (fun x y => ¬ y.pack < x.pack)) : ts = papersC c loss :=
 papers_sorted hc hp (tb := false) (fun p x => by simp [isPaperB]) (fun y h => by simpa [isPaperB] using h) ht hs
theorem totals_come {c : List Pa} {loss : Int} (hc : ∀ x ∈ c, 0 ≤ x.pack ∧ x.pack ≤ 200) {es : List ((Int × Bool) × Pa)} (hp : es.Perm (foundL c loss)) {ts : List Pa} (ht : ts.Perm ((es.filter (isTotalB (foundL c loss))).map (·.2)))
 (hs : ts.Pairwise (fun x y => ¬ y.pack < x.pack)) : ts = totalsC c loss :=
 papers_sorted hc hp (tb := true) (fun p x => by
  simp only [isTotalB, mget_found, Bool.true_and, Bool.or_eq_true, decide_eq_true_eq]
  by_cases h : p = 0 ∨ (lastOf c loss false p).isSome = true
  · rw [if_pos h]
    exact ⟨fun e => ⟨e, h.symm⟩, fun e => e.1⟩
  · rw [if_neg h]
    exact ⟨fun e => (by cases e), fun e => absurd e.2.symm h⟩) (fun y h => by simp [isTotalB] at h; exact h.1) ht hs
theorem checkFrom_all {l : List Pa} : ∀ (m i : Nat), (checkFrom l m i).2 = 0 → ∀ k, i ≤ k → k < i + m → ∀ x, l[k]? = some x → followsL (l.take k) x = 0
 | 0, i, _, k, h1, h2, _, _ => by omega
 | m + 1, i, h, k, h1, h2, x, hx => by
   simp only [checkFrom] at h
   cases e : l[i]? with
   | none =>
     rw [List.getElem?_eq_none_iff] at e
     have := (List.getElem?_eq_some_iff.1 hx).1
     omega
   | some y =>
     rw [e] at h
     simp only at h
     by_cases hf : followsL (l.take i) y = 0
     · rw [if_pos hf] at h
       by_cases hk : k = i
       · subst hk
         rw [e] at hx; cases hx; exact hf
       · exact checkFrom_all m (i + 1) h k (by omega) (by omega) x hx
     · rw [if_neg hf] at h
       exact absurd h hf
theorem follows_zero {l : List Pa} {x : Pa} (h : followsL l x = 0) : l.length < 300 ∧ formedP x := by
 unfold followsL at h
 split at h
 · cases h
 · split at h
   · cases h
   · rename_i h1 h2
     exact ⟨by omega, Decidable.not_not.1 h2⟩
theorem check_good {l : List Pa} (h : (checkC l).2 = 0) : (∀ x ∈ l, formedP x) ∧ l.length ≤ 300 := by
 have ha := checkFrom_all l.length 0 h
 refine ⟨fun x hx => ?_, ?_⟩
 · obtain ⟨k, hk⟩ := List.getElem?_of_mem hx
   exact (follows_zero (ha k (by omega) (by have := (List.getElem?_eq_some_iff.1 hk).1; omega) x hk)).2
 · by_cases h0 : l.length = 0
   · omega
   · obtain ⟨x, hx⟩ : ∃ x, l[l.length - 1]? = some x := ⟨_, List.getElem?_eq_getElem (by omega)⟩
     have := (follows_zero (ha (l.length - 1) (by omega) (by omega) x hx)).1
     rw [List.length_take] at this
     omega
theorem formed_bd {x : Pa} (h : formedP x) : I64 x.of ∧ I64 x.id ∧ 0 ≤ x.pack ∧ x.pack ≤ 200 := by
 unfold formedP at h
 unfold I64
 obtain ⟨h1, h2, h3 | h3 | h3⟩ := h
 · omega
 · omega
 · omega
structure ManiOk (ps ts : List Pa) : Prop where
 asc : ps.Pairwise (fun x y => x.pack < y.pack)
 pp : ∀ x ∈ ps, (1 ≤ x.pack ∧ x.pack ≤ 200) ∧ (0 ≤ x.inn ∧ x.inn ≤ 200) ∧ (1 ≤ x.low ∧ x.low ≤ x.high ∧ x.high ≤ 100000) ∧ x.kind = 1
 tt : ∀ x ∈ ts, (0 ≤ x.count ∧ x.count ≤ 40) ∧ (0 ≤ x.low ∧ x.low ≤ x.high ∧ x.high ≤ 10000000) ∧ x.kind = 2
 tasc : ts.Pairwise (fun x y => x.pack < y.pack)
 ln : ps.length ≤ 201
 lt : ts.length ≤ 201
theorem ManiOk.packs {ps ts : List Pa} (h : ManiOk ps ts) : Packs ps :=
 ⟨by
  unfold List.Nodup
  rw [List.pairwise_map]
  exact h.asc.imp (fun {a b} e => by omega), fun x hx => by have := (h.pp x hx).1; omega⟩
theorem lastOf_good {l : List Pa} (h : ∀ x ∈ l, formedP x) {known loss : Int} {t : Bool} {p : Int} {x : Pa} (hx : lastOf (countL l known) loss t p = some x) : x ∈ l ∧ formedP x ∧ x.kind ≠ 3 ∧ decide (x.kind = 2) = t ∧ x.pack = p := by
 obtain ⟨h1, h2, h3, h4⟩ := lastOf_mem hx
 unfold countL at h1
 rw [List.mem_filter] at h1
 simp only [Bool.and_eq_true, decide_eq_true_eq] at h1
 exact ⟨h1.1, h x h1.1, h1.2.1.1, h3, h4⟩
theorem packsU_length : packsU.length = 201 := by simp [packsU]
theorem filterMap_length_le {α β : Type} (f : α → Option β) (l : List α) : (l.filterMap f).length ≤ l.length := List.length_filterMap_le f l
theorem mani_ok {l : List Pa} (h : ∀ x ∈ l, formedP x) (known loss : Int) : ManiOk (papersL l known loss) (totalsL l known loss) := by
 refine ⟨filterMap_asc (fun p x hx => (lastOf_mem hx).2.2.2) packsU_asc, fun x hx => ?_, fun x hx => ?_, filterMap_asc (fun p x hx => ?_) packsU_asc, ?_, ?_⟩
 · unfold papersL papersC at hx
   obtain ⟨p, hp, hpx⟩ := List.mem_filterMap.1 hx
   obtain ⟨h1, h2, h3, h4, h5⟩ := lastOf_good h hpx
   simp only [decide_eq_false_iff_not] at h4
   unfold formedP at h2
   obtain ⟨g1, g2, g3 | g3 | g3⟩ := h2
   · exact ⟨by omega, by omega, by omega, by omega⟩
   · exact absurd g3.1 h4
   · exact absurd g3.1 h3
 · unfold totalsL totalsC at hx
   obtain ⟨p, hp, hpx⟩ := List.mem_filterMap.1 hx
   split at hpx
   · obtain ⟨h1, h2, h3, h4, h5⟩ := lastOf_good h hpx
     simp only [decide_eq_true_eq] at h4
     unfold formedP at h2
     obtain ⟨g1, g2, g3 | g3 | g3⟩ := h2
     · omega
     · exact ⟨by omega, by omega, by omega⟩
     · omega
   · cases hpx
 · split at hx
   · exact (lastOf_mem hx).2.2.2
   · cases hx
 · have := filterMap_length_le (lastOf (countL l known) loss false) packsU
   rw [packsU_length] at this
   exact this
 · have := filterMap_length_le (fun p => if p = 0 ∨ (lastOf (countL l known) loss false p).isSome then lastOf (countL l known) loss true p else none) packsU
   rw [packsU_length] at this
   exact this
theorem ofI_mem {xs : List Pa} {p : Int} {x : Pa} (h : ofI xs p = some x) : x ∈ xs ∧ x.pack = p := by
 unfold ofI at h
 exact ⟨List.mem_of_find?_eq_some h, by simpa using List.find?_some h⟩
theorem own_bd {ps ts : List Pa} (h : ManiOk ps ts) (has : Int → Bool) (pack p : Int) (hp : p ∈ insideI ps pack) :
 0 ≤ (ownOf has ((ofI ps p).getD pa0)).1 ∧ (ownOf has ((ofI ps p).getD pa0)).1 ≤ (ownOf has ((ofI ps p).getD pa0)).2 ∧ (ownOf has ((ofI ps p).getD pa0)).2 ≤ 1099511627776 := by
 obtain ⟨x, hx, _, hxp⟩ := inside_mem hp
 have hf := h.packs.find hx
 rw [hxp] at hf
 rw [hf]
 have := h.pp x hx
 simp only [Option.getD_some, ownOf]
 split
 · simp only; omega
 · simp only; omega
theorem grow_bd {ps ts : List Pa} (h : ManiOk ps ts) (has : Int → Bool) : ∀ (d : Nat) (pack oL oH : Int) (t : Tr), (0 ≤ oL ∧ oL ≤ oH ∧ oH ≤ 1099511627776) → growT ps ts has d pack oL oH = some t → Bd t
 | 0, _, _, _, _, _, e => by simp only [growT] at e; cases e
 | d + 1, pack, oL, oH, t, ho, e => by
   simp only [growT] at e
   split at e
   · cases e
   · rename_i ks hks
     split at e
     · cases e
     · rename_i hm
       have e' := Option.some.inj e
       subst e'
       obtain ⟨hl, hk⟩ := mapO_mem hks
       have hil : (insideI ps pack).length ≤ ps.length := by unfold insideI; rw [List.length_map]; exact List.length_filter_le _ _
       have hln := h.ln
       refine .node ⟨?_, ho, ?_, ?_⟩ (by omega) (fun k hk' => ?_)
       · simp only
         unfold missOf at hm ⊢
         cases e2 : ofI ts pack with
         | none => simp
         | some x =>
           rw [e2] at hm
           have := (h.tt x (ofI_mem e2).1).1
           simp only at hm ⊢; omega
       · simp only [sumsOf]
         cases e2 : ofI ts pack with
         | none => simp
         | some x =>
           have := (h.tt x (ofI_mem e2).1).2.1
           simp only
           split <;> simp only <;> omega
       · simp only [sumsOf]
         cases e2 : ofI ts pack with
         | none => simp
         | some x =>
           have := (h.tt x (ofI_mem e2).1).2.1
           simp only
           split <;> simp only <;> omega
       · obtain ⟨p, hp, hg⟩ := hk k hk'
         exact grow_bd h has d p _ _ k (own_bd h has pack p hp) hg
theorem tree_bd {ps ts : List Pa} (h : ManiOk ps ts) (has : Int → Bool) {t : Tr} (e : treeT ps ts has = some t) : Bd t := by
 unfold treeT at e
 split at e
 · cases e
 · rename_i t' ht
   split at e
   · cases e; exact grow_bd h has _ _ _ _ _ ⟨by decide, by decide, by decide⟩ ht
   · cases e
end Go.Proofs.YtehplmeckfinoaaGreatDoor
