/- Maps that a call owns, told by a list of keys and values in the order of their entry; any key type that the model reads as a key. No dump. -/
import Derived.Test.YtehplmeckfinoaaGreatDoorBase
import Derived.Maps.Keyed
import Derived.Carry
set_option linter.unusedSimpArgs false
set_option linter.unusedVariables false
namespace Go.Proofs.YtehplmeckfinoaaGreatDoor
open Go.RowKit
open Go.Maps (Keyed)
def mget {κ ν : Type} [DecidableEq κ] (m : List (κ × ν)) (k : κ) : Option ν := (m.find? (fun x => decide (x.1 = k))).map (·.2)
def mput {κ ν : Type} [DecidableEq κ] : List (κ × ν) → κ → ν → List (κ × ν)
 | [], k, v => [(k, v)]
 | x :: r, k, v => if x.1 = k then (k, v) :: r else x :: mput r k v
section plain
variable {κ ν : Type} [DecidableEq κ]
theorem mget_nil (k : κ) : mget ([] : List (κ × ν)) k = none := rfl
theorem mget_cons (x : κ × ν) (r : List (κ × ν)) (k : κ) : mget (x :: r) k = if x.1 = k then some x.2 else mget r k := by
 unfold mget
 by_cases h : x.1 = k <;> simp [List.find?_cons, h]
theorem mget_mput (m : List (κ × ν)) (k k' : κ) (v : ν) : mget (mput m k v) k' = if k = k' then some v else mget m k' := by
 induction m with
 | nil => simp [mput, mget_cons, mget_nil]
 | cons x r ih =>
   unfold mput
   by_cases h : x.1 = k
   · rw [if_pos h, mget_cons, mget_cons]
     by_cases h2 : k = k'
     · simp [h2]
     · simp [h2, h]
   · rw [if_neg h, mget_cons, mget_cons, ih]
     by_cases h2 : k = k'
     · subst h2; simp [h]
     · simp [h2]
theorem mput_keys_mem (m : List (κ × ν)) (k : κ) (v : ν) : ∀ x ∈ mput m k v, x.1 = k ∨ x ∈ m := by
 induction m with
 | nil => intro x hx; simp [mput] at hx; exact .inl (by rw [hx])
 | cons y r ih =>
   intro x hx
   unfold mput at hx
   split at hx
   · rcases List.mem_cons.1 hx with rfl | hx
     · exact .inl rfl
     · exact .inr (List.mem_cons_of_mem _ hx)
   · rcases List.mem_cons.1 hx with rfl | hx
     · exact .inr (by simp)
     · rcases ih x hx with h | h
       · exact .inl h
       · exact .inr (List.mem_cons_of_mem _ h)
theorem mput_nodup {m : List (κ × ν)} (h : (m.map (·.1)).Nodup) (k : κ) (v : ν) : ((mput m k v).map (·.1)).Nodup := by
 induction m with
 | nil => simp [mput]
 | cons x r ih =>
   simp only [List.map_cons, List.nodup_cons] at h
   unfold mput
   by_cases hx : x.1 = k
   · rw [if_pos hx]
     simp only [List.map_cons, List.nodup_cons]
     exact ⟨by rw [← hx]; exact h.1, h.2⟩
   · rw [if_neg hx]
     simp only [List.map_cons, List.nodup_cons]
     refine ⟨fun hm => ?_, ih h.2⟩
     obtain ⟨y, hy, he⟩ := List.mem_map.1 hm
     rcases mput_keys_mem r k v y hy with h1 | h1
     · exact hx (by rw [← he, h1])
     · exact h.1 (List.mem_map.2 ⟨y, h1, he⟩)
theorem mget_of_mem {m : List (κ × ν)} (h : (m.map (·.1)).Nodup) {x : κ × ν} (hx : x ∈ m) : mget m x.1 = some x.2 := by
 induction m with
 | nil => simp at hx
 | cons y r ih =>
   simp only [List.map_cons, List.nodup_cons] at h
   rw [mget_cons]
   rcases List.mem_cons.1 hx with rfl | hx
   · simp
   · have hne : y.1 ≠ x.1 := fun e => h.1 (List.mem_map.2 ⟨x, hx, e.symm⟩)
     simp [hne, ih h.2 hx]
theorem mget_none_of {m : List (κ × ν)} {k : κ} (h : ∀ x ∈ m, x.1 ≠ k) : mget m k = none := by
 induction m with
 | nil => rfl
 | cons y r ih =>
   rw [mget_cons, if_neg (h y (by simp))]
   exact ih fun x hx => h x (List.mem_cons_of_mem _ hx)
theorem mget_mem {m : List (κ × ν)} {k : κ} {v : ν} (h : mget m k = some v) : (k, v) ∈ m := by
 induction m with
 | nil => cases h
 | cons y r ih =>
   rw [mget_cons] at h
   by_cases hk : y.1 = k
   · rw [if_pos hk] at h
     cases h
     rw [← hk]; exact List.mem_cons_self
   · rw [if_neg hk] at h
     exact List.mem_cons_of_mem _ (ih h)
theorem mput_of_not {m : List (κ × ν)} {k : κ} {v : ν} (h : ∀ x ∈ m, x.1 ≠ k) : mput m k v = m ++ [(k, v)] := by
 induction m with
 | nil => rfl
 | cons y r ih =>
   unfold mput
   rw [if_neg (h y (by simp)), ih fun x hx => h x (List.mem_cons_of_mem _ hx)]
   rfl
theorem mput_at {m : List (κ × ν)} (hn : (m.map (·.1)).Nodup) {k : κ} {v : ν} {j : Nat} {x : κ × ν} (hj : m[j]? = some x) (hx : x.1 = k) : mput m k v = m.set j (k, v) := by
 induction m generalizing j with
 | nil => simp at hj
 | cons y r ih =>
   simp only [List.map_cons, List.nodup_cons] at hn
   unfold mput
   cases j with
   | zero =>
     simp at hj
     subst hj
     rw [if_pos hx]; rfl
   | succ j =>
     simp at hj
     have hne : y.1 ≠ k := fun e => hn.1 (List.mem_map.2 ⟨x, List.mem_of_getElem? hj, by rw [e, hx]⟩)
     rw [if_neg hne, ih hn.2 hj, List.set_cons_succ]
end plain
def MapT {κ ν : Type} (P : Program) (K : TypeId) (ke : κ → Value) (ve : ν → Value) (w : World) (b : Nat) (m : List (κ × ν)) : Prop :=
 ∃ es clock, w.heap[b]? = some (.map es clock) ∧ es.toList.map (fun e => (e.key, e.val)) = m.map (fun x => (ke x.1, ve x.2)) ∧
  (∀ x ∈ m, ∃ l, keyOf P K (ke x.1) = some l) ∧ (m.map (·.1)).Nodup ∧ es.toList.Pairwise (fun x y => x.born < y.born) ∧ ∀ e ∈ es.toList, e.born < clock
section laws0
variable {κ ν : Type} {P : Program} {K E T : TypeId} {ke : κ → Value} {ve : ν → Value} {w w' : World} {b : Nat} {m : List (κ × ν)}
theorem MapT.lt (h : MapT P K ke ve w b m) : b < w.heap.size := by
 obtain ⟨es, clock, hb, _⟩ := h
 exact (Array.getElem?_eq_some_iff.1 hb).1
theorem MapT.same (h : MapT P K ke ve w b m) (hb : w'.heap[b]? = w.heap[b]?) : MapT P K ke ve w' b m := by
 obtain ⟨es, clock, hb', r⟩ := h
 exact ⟨es, clock, hb.trans hb', r⟩
theorem MapT.below {B : Nat} (h : MapT P K ke ve w b m) (hB : Below B w w') (hb : b < B) : MapT P K ke ve w' b m := h.same (hB.block b hb)
theorem MapT.below' (h : MapT P K ke ve w b m) (hB : Below w.heap.size w w') : MapT P K ke ve w' b m := h.same (hB.block b h.lt)
theorem MapT.grown {row : Option Nat} (h : MapT P K ke ve w b m) (hg : w.grownBy w' row) (hne : some b ≠ row) : MapT P K ke ve w' b m := h.same (hg.block b h.lt hne)
theorem MapT.drewN (h : MapT P K ke ve w b m) (n : Nat) : MapT P K ke ve (w.drewN n) b m := h
theorem MapT.drew (h : MapT P K ke ve w b m) : MapT P K ke ve w.drew b m := h
theorem MapT.alloc (h : MapT P K ke ve w b m) (o : Obj) : MapT P K ke ve (w.alloc o) b m := h.grown (World.grownBy_alloc w o none) (by simp)
theorem MapT.nodup (h : MapT P K ke ve w b m) : (m.map (·.1)).Nodup := by
 obtain ⟨_, _, _, _, _, h, _⟩ := h
 exact h
theorem MapT.keys (h : MapT P K ke ve w b m) : ∀ x ∈ m, ∃ l, keyOf P K (ke x.1) = some l := by
 obtain ⟨_, _, _, _, h, _⟩ := h
 exact h
theorem MapT.made (w : World) : MapT P K ke ve (w.alloc (.map #[] 0)) w.heap.size ([] : List (κ × ν)) :=
 ⟨#[], 0, heap_alloc_new w _, by simp, by simp, by simp, by simp, by simp⟩
end laws0
section laws
variable {κ ν : Type} [DecidableEq κ] {P : Program} {K E T : TypeId} {ke : κ → Value} {ve : ν → Value} {w w' : World} {b : Nat} {m : List (κ × ν)}
theorem MapT.find (h : MapT P K ke ve w b m) (KL : Keyed P K) (inj : ∀ x y, ke x = ke y → x = y) {k : κ} {kl : Lit} (hk : keyOf P K (ke k) = some kl) :
 ∃ es clock, w.heap[b]? = some (.map es clock) ∧
  (((Instr.findKey K (ke k) es.toList).run P w = .ok none w ∧ mget m k = none ∧ ∀ x ∈ m, x.1 ≠ k) ∨
   ∃ j e v, (Instr.findKey K (ke k) es.toList).run P w = .ok (some (j, e.val)) w ∧ es[j]? = some e ∧ e.key = ke k ∧ e.val = ve v ∧ mget m k = some v ∧ m[j]? = some (k, v)) := by
 obtain ⟨es, clock, hb, hm, hk', hn, _⟩ := h
 refine ⟨es, clock, hb, ?_⟩
 have hkeys : ∀ e ∈ es.toList, ∃ l, keyOf P K e.key = some l := by
  intro e he
  have : (e.key, e.val) ∈ m.map (fun x => (ke x.1, ve x.2)) := by rw [← hm]; exact List.mem_map.2 ⟨e, he, rfl⟩
  obtain ⟨x, hx, hxe⟩ := List.mem_map.1 this
  obtain ⟨l, hl⟩ := hk' x hx
  exact ⟨l, by rw [← (Prod.mk.inj hxe).1]; exact hl⟩
 rcases KL.find w hk es.toList hkeys with ⟨h1, h2⟩ | ⟨j, e, h1, h2, h3⟩
 · have hne : ∀ x ∈ m, x.1 ≠ k := by
    intro x hx e
    have : (ke x.1, ve x.2) ∈ es.toList.map (fun e => (e.key, e.val)) := by rw [hm]; exact List.mem_map.2 ⟨x, hx, rfl⟩
    obtain ⟨y, hy, hye⟩ := List.mem_map.1 this
    exact h2 y hy (by rw [(Prod.mk.inj hye).1, e])
   exact .inl ⟨h1, mget_none_of hne, hne⟩
 · have hj : (m.map (fun x => (ke x.1, ve x.2)))[j]? = some (e.key, e.val) := by rw [← hm, List.getElem?_map, h2]; rfl
   rw [List.getElem?_map] at hj
   cases hmj : m[j]? with
   | none => rw [hmj] at hj; cases hj
   | some x =>
     rw [hmj] at hj
     have hx := Option.some.inj hj
     have hxk : x.1 = k := inj _ _ (by rw [(Prod.mk.inj hx).1, h3])
     refine .inr ⟨j, e, x.2, h1, by simpa using h2, h3, (Prod.mk.inj hx).2.symm, ?_, ?_⟩
     · rw [← hxk]; exact mget_of_mem hn (List.mem_of_getElem? hmj)
     · rw [← hxk]; exact hmj
theorem MapT.lookup (h : MapT P K ke ve w b m) (KL : Keyed P K) (ht : P.underlying T = some (.map K E)) (inj : ∀ x y, ke x = ke y → x = y) {z : Value} (hz : (zeroValue E).run P w = .ok z w)
 {k : κ} {kl : Lit} (hk : keyOf P K (ke k) = some kl) :
 (Instr.lookup T (.map (some b)) (ke k) false).run P w = .ok (((mget m k).map ve).getD z) w := by
 obtain ⟨es, clock, hb, ⟨h1, h2, _⟩ | ⟨j, e, v, h1, h2, h3, h4, h5, _⟩⟩ := h.find KL inj hk
 · simp [Instr.lookup, run_underlying ht, MapKept.run_getObj_map hb, KL.check w _ hk, h1, hz, Result.andThen, h2]
 · simp [Instr.lookup, run_underlying ht, MapKept.run_getObj_map hb, KL.check w _ hk, h1, Result.andThen, h4, h5]
theorem MapT.lookup_ok (h : MapT P K ke ve w b m) (KL : Keyed P K) (ht : P.underlying T = some (.map K E)) (inj : ∀ x y, ke x = ke y → x = y) {z : Value} (hz : (zeroValue E).run P w = .ok z w)
 {k : κ} {kl : Lit} (hk : keyOf P K (ke k) = some kl) :
 (Instr.lookup T (.map (some b)) (ke k) true).run P w = .ok (.tuple #[((mget m k).map ve).getD z, .bool (mget m k).isSome]) w := by
 obtain ⟨es, clock, hb, ⟨h1, h2, _⟩ | ⟨j, e, v, h1, h2, h3, h4, h5, _⟩⟩ := h.find KL inj hk
 · simp [Instr.lookup, run_underlying ht, MapKept.run_getObj_map hb, KL.check w _ hk, h1, hz, Result.andThen, h2]
 · simp [Instr.lookup, run_underlying ht, MapKept.run_getObj_map hb, KL.check w _ hk, h1, Result.andThen, h4, h5]
theorem setMap_heap (w : World) (b : Nat) (es es' : Array MapEntry) (c c' : Nat) (hb : w.heap[b]? = some (.map es c)) : ({ w with heap := w.heap.setIfInBounds b (.map es' c') } : World).heap[b]? = some (.map es' c') := by
 have := (Array.getElem?_eq_some_iff.1 hb).1
 simp [this]
theorem setMap_grown (w : World) (b : Nat) (o : Obj) : w.grownBy ({ w with heap := w.heap.setIfInBounds b o } : World) (some b) :=
 ⟨rfl, rfl, rfl, by simp, fun k hk hne => by simp [Array.getElem?_setIfInBounds, show b ≠ k from fun e => hne (by rw [e])]⟩
theorem MapT.update (h : MapT P K ke ve w b m) (KL : Keyed P K) (ht : P.underlying T = some (.map K E)) (inj : ∀ x y, ke x = ke y → x = y)
 {k : κ} {kl : Lit} (hk : keyOf P K (ke k) = some kl) (v : ν) :
 ∃ w', (Instr.mapUpdate T (.map (some b)) (ke k) (ve v)).run P w = .ok () w' ∧ MapT P K ke ve w' b (mput m k v) ∧ w.grownBy w' (some b) ∧ w'.heap.size = w.heap.size := by
 have h0 := h
 obtain ⟨es0, clock0, hb0, hm, hkk, hn, hst, hcl⟩ := h
 obtain ⟨es, clock, hb, hcase⟩ := h0.find KL inj hk
 rw [hb0] at hb
 obtain ⟨rfl, rfl⟩ : es0 = es ∧ clock0 = clock := by injection hb with h1; injection h1 with h1 h2; exact ⟨h1, h2⟩
 have hkk' : ∀ x ∈ mput m k v, ∃ l, keyOf P K (ke x.1) = some l := by
  intro x hx
  rcases mput_keys_mem m k v x hx with h1 | h1
  · exact ⟨kl, by rw [h1]; exact hk⟩
  · exact hkk x h1
 rcases hcase with ⟨h1, h2, h3⟩ | ⟨j, e, v0, h1, h2, h3, h4, h5, h6⟩
 · refine ⟨{ w with heap := w.heap.setIfInBounds b (.map (es0.push { key := ke k, val := ve v, born := clock0 }) (clock0 + 1)) }, ?_, ⟨_, _, setMap_heap w b es0 _ clock0 _ hb0, ?_, hkk', mput_nodup hn k v, ?_, ?_⟩, setMap_grown w b _, by simp⟩
   · simp [Instr.mapUpdate, run_underlying ht, MapKept.run_getObj_map hb0, KL.check w _ hk, h1, Result.andThen, MapKept.run_setObj_map _ hb0]
   · rw [mput_of_not h3]; simp [hm]
   · simp only [Array.toList_push]
     exact List.pairwise_append.2 ⟨hst, by simp, fun x hx y hy => by rw [List.mem_singleton.1 hy]; exact hcl x hx⟩
   · intro x hx
     simp only [Array.toList_push, List.mem_append, List.mem_singleton] at hx
     rcases hx with hx | rfl
     · have := hcl x hx; omega
     · simp
 · have hj : j < es0.size := (Array.getElem?_eq_some_iff.1 h2).1
   have hej : es0[j] = e := by simpa [hj] using h2
   have hmod : (es0.modify j fun x => { x with key := ke k, val := ve v }).toList = es0.toList.set j { e with key := ke k, val := ve v } := by
    rw [Array.toList_modify]
    apply List.ext_getElem?
    intro i
    by_cases hij : j = i
    · subst hij; simp [hj, hej]
    · simp [List.getElem?_modify, List.getElem?_set, hij]
   refine ⟨{ w with heap := w.heap.setIfInBounds b (.map (es0.modify j fun x => { x with key := ke k, val := ve v }) clock0) }, ?_, ⟨_, _, setMap_heap w b es0 _ clock0 _ hb0, ?_, hkk', mput_nodup hn k v, ?_, ?_⟩, setMap_grown w b _, by simp⟩
   · simp [Instr.mapUpdate, run_underlying ht, MapKept.run_getObj_map hb0, KL.check w _ hk, h1, h2, h3, KL.stays w hk, Result.andThen, MapKept.run_setObj_map _ hb0]
   · rw [mput_at hn h6 rfl, hmod, List.map_set, List.map_set, hm]
   · rw [hmod]
     have := hst
     rw [← List.set_getElem_self (as := es0.toList) (i := j) (by simpa using hj)] at this
     refine (List.pairwise_map (f := fun (x : MapEntry) => x.born) (R := fun a b => a < b)).1 ?_
     have e1 : (es0.toList.set j { e with key := ke k, val := ve v }).map (fun x => x.born) = es0.toList.map (fun x => x.born) := by
      rw [List.map_set]
      apply List.ext_getElem?
      intro i
      by_cases hij : j = i
      · subst hij; simp [hj, hej]
      · simp [List.getElem?_set, hij]
     rw [e1]
     exact (List.pairwise_map (f := fun (x : MapEntry) => x.born) (R := fun a b => a < b)).2 hst
   · intro x hx
     rw [hmod] at hx
     rcases List.mem_or_eq_of_mem_set hx with hx | rfl
     · exact hcl x hx
     · exact hcl e (by rw [← hej]; simp)
def Stamp {κ : Type} (ke : κ → Value) (w : World) (b : Nat) (k : κ) (s : Nat) : Prop :=
 ∃ (es : Array MapEntry) (clock j : Nat) (e : MapEntry), w.heap[b]? = some (.map es clock) ∧ es[j]? = some e ∧ e.key = ke k ∧ e.born = s
omit [DecidableEq κ] in
theorem Stamp.same {k : κ} {s : Nat} (h : Stamp ke w b k s) (hb : w'.heap[b]? = w.heap[b]?) : Stamp ke w' b k s := by
 obtain ⟨es, clock, j, e, hb', r⟩ := h
 exact ⟨es, clock, j, e, hb.trans hb', r⟩
theorem mput_self {m : List (κ × ν)} (hn : (m.map (·.1)).Nodup) {j : Nat} {k : κ} {v : ν} (hj : m[j]? = some (k, v)) : mput m k v = m := by
 rw [mput_at hn hj rfl]
 apply List.ext_getElem?
 intro i
 by_cases hij : j = i
 · subst hij
   have := (List.getElem?_eq_some_iff.1 hj).1
   simp [this]
   exact ((List.getElem?_eq_some_iff.1 hj).2).symm
 · simp [List.getElem?_set, hij]
theorem mput_mput (m : List (κ × ν)) (k : κ) (v v' : ν) : mput (mput m k v) k v' = mput m k v' := by
 induction m with
 | nil => simp [mput]
 | cons x r ih =>
   by_cases h : x.1 = k
   · simp [mput, h]
   · simp [mput, h, ih]
theorem MapT.entry (h : MapT P K ke ve w b m) (KL : Keyed P K) (ht : P.underlying T = some (.map K E)) (inj : ∀ x y, ke x = ke y → x = y) {z : ν} (hz : (zeroValue E).run P w = .ok (ve z) w)
 {k : κ} {kl : Lit} (hk : keyOf P K (ke k) = some kl) :
 ∃ w' s, (Instr.mapEntry T (.map (some b)) (ke k)).run P w = .ok (.tuple #[ve ((mget m k).getD z), goInt (s : Nat)]) w' ∧ MapT P K ke ve w' b (mput m k ((mget m k).getD z)) ∧ Stamp ke w' b k s ∧ w.grownBy w' (some b) ∧ w'.heap.size = w.heap.size := by
 have h0 := h
 obtain ⟨es0, clock0, hb0, hm, hkk, hn, hst, hcl⟩ := h
 obtain ⟨es, clock, hb, hcase⟩ := h0.find KL inj hk
 rw [hb0] at hb
 obtain ⟨rfl, rfl⟩ : es0 = es ∧ clock0 = clock := by injection hb with h1; injection h1 with h1 h2; exact ⟨h1, h2⟩
 have hkk' : ∀ v, ∀ x ∈ mput m k v, ∃ l, keyOf P K (ke x.1) = some l := by
  intro v x hx
  rcases mput_keys_mem m k v x hx with h1 | h1
  · exact ⟨kl, by rw [h1]; exact hk⟩
  · exact hkk x h1
 rcases hcase with ⟨h1, h2, h3⟩ | ⟨j, e, v0, h1, h2, h3, h4, h5, h6⟩
 · refine ⟨{ w with heap := w.heap.setIfInBounds b (.map (es0.push { key := ke k, val := ve z, born := clock0 }) (clock0 + 1)) }, clock0, ?_, ⟨_, _, setMap_heap w b es0 _ clock0 _ hb0, ?_, hkk' _, mput_nodup hn k _, ?_, ?_⟩, ⟨_, _, es0.size, _, setMap_heap w b es0 _ clock0 _ hb0, Array.getElem?_push_size, rfl, rfl⟩, setMap_grown w b _, by simp⟩
   · simp [Instr.mapEntry, run_underlying ht, MapKept.run_getObj_map hb0, KL.check w _ hk, h1, hz, h2, Result.andThen, MapKept.run_setObj_map _ hb0]
   · rw [h2, mput_of_not h3]; simp [hm]
   · simp only [Array.toList_push]
     exact List.pairwise_append.2 ⟨hst, by simp, fun x hx y hy => by rw [List.mem_singleton.1 hy]; exact hcl x hx⟩
   · intro x hx
     simp only [Array.toList_push, List.mem_append, List.mem_singleton] at hx
     rcases hx with hx | rfl
     · have := hcl x hx; omega
     · simp
 · have hj : j < es0.size := (Array.getElem?_eq_some_iff.1 h2).1
   have hej : es0[j] = e := by simpa [hj] using h2
   have hmod : es0.modify j (fun x => { x with key := ke k }) = es0 := by
    apply Array.ext_getElem?
    intro i
    by_cases hij : j = i
    · subst hij
      rw [Array.getElem?_modify, if_pos rfl, h2, Option.map_some, ← h3]
    · simp [Array.getElem?_modify, hij]
   refine ⟨{ w with heap := w.heap.setIfInBounds b (.map (es0.modify j fun x => { x with key := ke k }) clock0) }, e.born, ?_, ?_, ?_, setMap_grown w b _, by simp⟩
   · simp [Instr.mapEntry, run_underlying ht, MapKept.run_getObj_map hb0, KL.check w _ hk, h1, h2, h3, h4, h5, KL.stays w hk, Result.andThen, MapKept.run_setObj_map _ hb0]
   · rw [h5, Option.getD_some, mput_self hn h6, hmod]
     exact ⟨es0, clock0, setMap_heap w b es0 _ clock0 _ hb0, hm, hkk, hn, hst, hcl⟩
   · rw [hmod]
     exact ⟨es0, clock0, j, e, setMap_heap w b es0 _ clock0 _ hb0, h2, h3, rfl⟩
theorem MapT.store (h : MapT P K ke ve w b m) (inj : ∀ x y, ke x = ke y → x = y) {k : κ} {s : Nat} (hs : Stamp ke w b k s) (v : ν) :
 ∃ w', (Instr.entryStore T (.map (some b)) (goInt (s : Nat)) (ve v)).run P w = .ok () w' ∧ MapT P K ke ve w' b (mput m k v) ∧ w.grownBy w' (some b) ∧ w'.heap.size = w.heap.size := by
 obtain ⟨es0, clock0, hb0, hm, hkk, hn, hst, hcl⟩ := h
 obtain ⟨es, clock, j, e, hb, hje, hek, hbo⟩ := hs
 rw [hb0] at hb
 obtain ⟨rfl, rfl⟩ : es0 = es ∧ clock0 = clock := by injection hb with h1; injection h1 with h1 h2; exact ⟨h1, h2⟩
 have hj : j < es0.size := (Array.getElem?_eq_some_iff.1 hje).1
 have hej : es0[j] = e := by simpa [hj] using hje
 have hmj : ∃ v0, m[j]? = some (k, v0) := by
  have h1 : (m.map (fun x => (ke x.1, ve x.2)))[j]? = some (e.key, e.val) := by rw [← hm, List.getElem?_map]; simp [hj, hej]
  rw [List.getElem?_map] at h1
  cases hx : m[j]? with
  | none => rw [hx] at h1; cases h1
  | some x =>
    rw [hx] at h1
    have h2 := Option.some.inj h1
    exact ⟨x.2, by rw [← inj x.1 k (by rw [(Prod.mk.inj h2).1, hek])]⟩
 obtain ⟨v0, hmj⟩ := hmj
 have hfind : es0.findIdx? (fun x => (x.born : Int) == (s : Int)) = some j := by
  rw [Array.findIdx?_eq_some_iff_getElem]
  refine ⟨hj, by rw [hej, hbo]; simp, fun i hi => ?_⟩
  have hi' : i < es0.size := Nat.lt_trans hi hj
  have := (List.pairwise_iff_getElem.1 hst) i j (by simpa using hi') (by simpa using hj) hi
  simp only [Array.getElem_toList] at this
  rw [hej, hbo] at this
  simp
  omega
 have hmod : (es0.modify j fun x => { x with val := ve v }).toList = es0.toList.set j { e with val := ve v } := by
  rw [Array.toList_modify]
  apply List.ext_getElem?
  intro i
  by_cases hij : j = i
  · subst hij; simp [hj, hej]
  · simp [List.getElem?_modify, List.getElem?_set, hij]
 refine ⟨{ w with heap := w.heap.setIfInBounds b (.map (es0.modify j fun x => { x with val := ve v }) clock0) }, ?_, ⟨_, _, setMap_heap w b es0 _ clock0 _ hb0, ?_, ?_, mput_nodup hn k v, ?_, ?_⟩, setMap_grown w b _, by simp⟩
 · simp [Instr.entryStore, MapKept.run_getObj_map hb0, asInt, asIntOf, goInt, hfind, Result.andThen, MapKept.run_setObj_map _ hb0]
 · rw [mput_at hn hmj rfl, hmod, List.map_set, List.map_set, hm, hek]
 · intro x hx
   rcases mput_keys_mem m k v x hx with h1 | h1
   · exact by rw [h1]; exact hkk _ (List.mem_of_getElem? hmj)
   · exact hkk x h1
 · rw [hmod]
   refine (List.pairwise_map (f := fun (x : MapEntry) => x.born) (R := fun a b => a < b)).1 ?_
   have e1 : (es0.toList.set j { e with val := ve v }).map (fun x => x.born) = es0.toList.map (fun x => x.born) := by
    rw [List.map_set]
    apply List.ext_getElem?
    intro i
    by_cases hij : j = i
    · subst hij; simp [hj, hej]
    · simp [List.getElem?_set, hij]
   rw [e1]
   exact (List.pairwise_map (f := fun (x : MapEntry) => x.born) (R := fun a b => a < b)).2 hst
 · intro x hx
   rw [hmod] at hx
   rcases List.mem_or_eq_of_mem_set hx with hx | rfl
   · exact hcl x hx
   · exact hcl e (by rw [← hej]; simp)
end laws
end Go.Proofs.YtehplmeckfinoaaGreatDoor
