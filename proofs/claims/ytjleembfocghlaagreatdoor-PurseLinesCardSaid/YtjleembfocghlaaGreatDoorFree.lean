/- A region that draws its order, its head's values determined, its tail forced: the head's operations may write and make memory as long as a condition C on the world abides; the tail may give up. -/
import Derived.StillTailTactics
import Derived.WalkKit
set_option linter.unusedSimpArgs false
set_option linter.unusedVariables false
namespace Go.Proofs.YtjleembfocghlaaGreatDoor
open Go.RowKit

/-- o, carried out at a in the world w, yields v and leaves a world of C. -/
def Oper.does (P : Program) (o : Oper) (a : Act) (w : World) (v : Value) (C : World → Prop) : Prop :=
  ∀ K : Act → World → Prop, (∀ w', C w' → K (a.put o.dst v) w') → Oper.wp P o a w K (fun _ _ _ => False)

def headEnd : List Oper → List Value → Act → Act
  | o :: os, v :: vs, a => headEnd os vs (a.put o.dst v)
  | _, _, a => a
def doesAll (P : Program) (a : Act) (C : World → Prop) : List Oper → List Value → Prop
  | o :: os, v :: vs => (∀ w, C w → Oper.does P o a w v C) ∧ doesAll P a C os vs
  | [], [] => True
  | _, _ => False

def readsSlot (o : Oper) (d : Tmp) : Bool := o.op.operands.any fun | .tmp t => t == d | _ => false
def readsB (md : Region.Mode) (ops : Array Oper) (n : Nat) : Bool :=
  (List.range n).all fun i => (List.range n).all fun j =>
    match ops[i]?, ops[j]? with
    | some oi, some oj => (match oj.dst with | some d => !(readsSlot oi d) || Region.waitsFor md ops i j | none => true)
    | _, _ => true
def dstsB (ops : List Oper) : Bool := match ops with
  | [] => true
  | o :: r => (match o.dst with | some d => r.all fun q => q.dst != some d | none => true) && dstsB r
def guardsB (ops : List Oper) : Bool := ops.all fun o => o.guard.isNone
def backB (md : Region.Mode) (ops : Array Oper) (n : Nat) : Bool :=
  (List.range n).all fun i => match ops[i]? with | some o => o.after.all fun e => !(Region.binds md e) || decide (e.on < i) | none => true
def sizeB (ops : List Oper) (m : Nat) : Bool := ops.all fun o => match o.dst with | some d => decide (d < m) | none => true
def freeB (md : Region.Mode) (l : List Oper) (n : Nat) : Bool :=
  Region.noSelect l.toArray && decide (n < l.length) && Region.sinkB md l.toArray n && Region.chainB md l.toArray n && readsB md l.toArray n && dstsB (l.take n) && guardsB (l.take n) && backB md l.toArray n &&
  Region.seqB md l.toArray (l.length - n) n (List.replicate n true ++ List.replicate (l.length - n) false).toArray

theorem headEnd_defers : ∀ (os : List Oper) (vs : List Value) (a : Act), (headEnd os vs a).defers = a.defers
  | [], _, _ => by simp [headEnd]
  | _ :: _, [], _ => by simp [headEnd]
  | o :: os, v :: vs, a => by
    unfold headEnd
    rw [headEnd_defers os vs]
    cases o.dst <;> rfl
theorem put_size (a : Act) (d : Option Tmp) (v : Value) : (a.put d v).tmps.size = a.tmps.size := by cases d <;> simp [Act.put]
theorem headEnd_size : ∀ (os : List Oper) (vs : List Value) (a : Act), (headEnd os vs a).tmps.size = a.tmps.size
  | [], _, _ => by simp [headEnd]
  | _ :: _, [], _ => by simp [headEnd]
  | o :: os, v :: vs, a => by unfold headEnd; rw [headEnd_size os vs, put_size]
theorem put_other (a : Act) (d : Option Tmp) (v : Value) {t : Nat} (h : d ≠ some t) : (a.put d v).tmps[t]? = a.tmps[t]? := by
  cases d with
  | none => rfl
  | some d => simp [Act.put, Array.getElem?_setIfInBounds, show d ≠ t from fun e => h (by rw [e])]
theorem put_same (a : Act) (d : Nat) (v : Value) (h : d < a.tmps.size) : (a.put (some d) v).tmps[d]? = some v := by
  simp [Act.put, h]
theorem headEnd_other : ∀ (os : List Oper) (vs : List Value) (a : Act) (t : Nat), (∀ o ∈ os, o.dst ≠ some t) → (headEnd os vs a).tmps[t]? = a.tmps[t]?
  | [], _, _, _, _ => by simp [headEnd]
  | _ :: _, [], _, _, _ => by simp [headEnd]
  | o :: os, v :: vs, a, t, h => by
    unfold headEnd
    rw [headEnd_other os vs _ t (fun q hq => h q (List.mem_cons_of_mem _ hq)), put_other _ _ _ (h o (by simp))]
theorem headEnd_at : ∀ (os : List Oper) (vs : List Value) (a : Act) (i d : Nat) (o : Oper) (v : Value), dstsB os = true → os[i]? = some o → vs[i]? = some v → o.dst = some d → d < a.tmps.size → (headEnd os vs a).tmps[d]? = some v
  | [], _, _, _, _, _, _, _, h, _, _, _ => by simp at h
  | _ :: _, [], _, _, _, _, _, _, _, h, _, _ => by simp at h
  | q :: os, u :: vs, a, 0, d, o, v, hB, ho, hv, hd, hs => by
    simp only [List.getElem?_cons_zero, Option.some.injEq] at ho hv
    subst ho; subst hv
    unfold headEnd
    simp only [dstsB, hd, Bool.and_eq_true, List.all_eq_true] at hB
    rw [headEnd_other os vs _ d (fun r hr => by simpa using hB.1 r hr), hd, put_same _ _ _ hs]
  | q :: os, u :: vs, a, i + 1, d, o, v, hB, ho, hv, hd, hs => by
    simp only [List.getElem?_cons_succ] at ho hv
    unfold headEnd
    simp only [dstsB, Bool.and_eq_true] at hB
    exact headEnd_at os vs _ i d o v hB.2 ho hv hd (by rw [put_size]; exact hs)
theorem doesAll_at {P : Program} {a : Act} {C : World → Prop} : ∀ (os : List Oper) (vs : List Value), doesAll P a C os vs → ∀ (i : Nat) (o : Oper), os[i]? = some o → ∃ v, vs[i]? = some v ∧ ∀ w, C w → Oper.does P o a w v C
  | [], [], _, i, o, h => by simp at h
  | [], _ :: _, h, _, _, _ => h.elim
  | _ :: _, [], h, _, _, _ => h.elim
  | q :: os, u :: vs, h, 0, o, ho => by
    simp only [List.getElem?_cons_zero, Option.some.injEq] at ho
    subst ho
    exact ⟨u, rfl, h.1⟩
  | q :: os, u :: vs, h, i + 1, o, ho => by
    simp only [List.getElem?_cons_succ] at ho
    obtain ⟨v, hv, hd⟩ := doesAll_at os vs h.2 i o ho
    exact ⟨v, by simpa using hv, hd⟩

section
variable {P : Program} {l : List Oper} {md : Region.Mode} {n : Nat} {C : World → Prop} {a0 aE : Act}

/-- the state of the head when some of it has come -/
structure FreeInv (md : Region.Mode) (l : List Oper) (n : Nat) (C : World → Prop) (a0 aE : Act) (listed : Array Bool) (a : Act) (w : World) : Prop where
  inv : HeadInv md l.toArray n listed
  defers : a.defers = a0.defers
  size : a.tmps.size = a0.tmps.size
  hit : ∀ t, (∃ i o, i < n ∧ listed.getD i false = true ∧ l[i]? = some o ∧ o.dst = some t) → a.tmps[t]? = aE.tmps[t]?
  miss : ∀ t, (∀ i o, i < n → listed.getD i false = true → l[i]? = some o → o.dst ≠ some t) → a.tmps[t]? = a0.tmps[t]?
  cond : C w

theorem least_unlisted {listed : Array Bool} : ∀ (n : Nat), (∃ i, i < n ∧ listed.getD i false = false) → ∃ i, i < n ∧ listed.getD i false = false ∧ ∀ j, j < i → listed.getD j false = true
  | 0, ⟨i, hi, _⟩ => absurd hi (Nat.not_lt_zero _)
  | n + 1, ⟨i, hi, hl⟩ => by
    by_cases h : ∃ i, i < n ∧ listed.getD i false = false
    · obtain ⟨j, hj, h1, h2⟩ := least_unlisted n h
      exact ⟨j, by omega, h1, h2⟩
    · have hall : ∀ j, j < n → listed.getD j false = true := fun j hj => by
        cases hx : listed.getD j false with
        | true => rfl
        | false => exact absurd ⟨j, hj, hx⟩ h
      refine ⟨i, hi, hl, fun j hj => hall j ?_⟩
      by_cases hin : i < n
      · rw [hall i hin] at hl; cases hl
      · omega

theorem free_wpAny {Q : Exit → Act → World → Prop} (hF : freeB md l n = true) (vs : List Value) (haE : aE = headEnd (l.take n) vs a0) (hsz : sizeB (l.take n) a0.tmps.size = true)
    (hD : doesAll P aE C (l.take n) vs) (hT : ∀ w, C w → wpList P l.toArray Q (l.drop n) aE w) :
    ∀ (u : Nat) (listed : Array Bool) (a : Act) (w : World), ((List.range n).filter fun i => !(listed.getD i false)).length = u → FreeInv md l n C a0 aE listed a w → wpAny P md l.toArray Q (u + (l.length - n)) listed a w := by
  simp only [freeB, Bool.and_eq_true, decide_eq_true_eq] at hF
  obtain ⟨⟨⟨⟨⟨⟨⟨⟨hsel, hn⟩, hs⟩, hc⟩, hrd⟩, hdd⟩, hgd⟩, hbk⟩, hsq⟩ := hF
  have hn' : n < l.toArray.size := by simpa using hn
  have htk : ∀ i o, i < n → l[i]? = some o → (l.take n)[i]? = some o := fun i o hi ho => by rw [List.getElem?_take]; simp [hi, ho]
  have hE2 : ∀ t, (∀ i o, i < n → l[i]? = some o → o.dst ≠ some t) → aE.tmps[t]? = a0.tmps[t]? := fun t ht => by
    rw [haE]
    refine headEnd_other _ _ _ _ fun o ho => ?_
    obtain ⟨i, hi⟩ := List.mem_iff_getElem?.1 ho
    rw [List.getElem?_take] at hi
    split at hi
    · rename_i hin; exact ht i o hin hi
    · cases hi
  have hE3 : aE.defers = a0.defers := by rw [haE, headEnd_defers]
  have hE4 : aE.tmps.size = a0.tmps.size := by rw [haE, headEnd_size]
  intro u
  induction u with
  | zero =>
    intro listed a w hu I
    have hall : ∀ i, i < n → listed.getD i false = true := fun i hi => by
      have h0 := List.eq_nil_of_length_eq_zero hu
      rw [List.filter_eq_nil_iff] at h0
      simpa using h0 i (List.mem_range.2 hi)
    have hlist : listed = (List.replicate n true ++ List.replicate (l.length - n) false).toArray := by
      apply Array.ext_getElem?
      intro i
      have hsize : listed.size = l.length := by simpa using I.inv.size
      by_cases h1 : i < n
      · have h2 := hall i h1
        have h3 : i < listed.size := by omega
        simp [h3] at h2
        simp [h3, h2, List.getElem?_append, h1]
      · by_cases h2 : i < l.length
        · have h4 := I.inv.tail i (by omega) (by simpa using h2)
          have h3 : i < listed.size := by omega
          simp [h3] at h4
          simp [h3, h4, List.getElem?_append, h1, show i - n < l.length - n by omega]
        · rw [Array.getElem?_eq_none (by omega)]
          simp [List.getElem?_append, h1, show ¬ i - n < l.length - n by omega]
    have ha : a = aE := by
      have ht : a.tmps = aE.tmps := by
        apply Array.ext_getElem?
        intro t
        by_cases hd : ∃ i o, i < n ∧ l[i]? = some o ∧ o.dst = some t
        · obtain ⟨i, o, hi, ho, hd⟩ := hd
          exact I.hit t ⟨i, o, hi, hall i hi, ho, hd⟩
        · rw [I.miss t (fun i o hi _ ho hd' => hd ⟨i, o, hi, ho, hd'⟩), hE2 t (fun i o hi ho hd' => hd ⟨i, o, hi, ho, hd'⟩)]
      have hd := I.defers.trans hE3.symm
      cases a; cases aE
      simp only at ht hd
      rw [ht, hd]
    subst ha
    rw [Nat.zero_add]
    have := wpAny_of_seq (md := md) (Q' := Q) (P := P) (ops := l.toArray) (l.drop n) n listed a w (fun j => by simp [List.getElem?_drop]) (by rw [hlist, List.length_drop]; exact hsq) (hT w I.cond)
    rwa [List.length_drop] at this
  | succ u ih =>
    intro listed a w hu I
    have hex : ∃ i, i < n ∧ listed.getD i false = false := by
      cases hfl : (List.range n).filter (fun i => !(listed.getD i false)) with
      | nil => rw [hfl] at hu; cases hu
      | cons i r =>
        have : i ∈ (List.range n).filter (fun i => !(listed.getD i false)) := by rw [hfl]; simp
        rw [List.mem_filter] at this
        exact ⟨i, List.mem_range.1 this.1, by simpa using this.2⟩
    obtain ⟨i0, hi0, hl0, hleast⟩ := least_unlisted n hex
    have hsize : listed.size = l.length := by simpa using I.inv.size
    have hready0 : i0 ∈ Region.ready md l.toArray listed := by
      have hi0l : i0 < l.length := by omega
      refine mem_ready.2 ⟨getD_in (by omega) hl0, l[i0], by simp [hi0l], fun e he hb => ?_⟩
      have h1 := List.all_eq_true.1 hbk i0 (List.mem_range.2 hi0)
      simp only [List.getElem?_toArray, List.getElem?_eq_getElem hi0l] at h1
      have h2 := Array.all_eq_true_iff_forall_mem.1 h1 e he
      rw [hb] at h2
      exact hleast e.on (by simpa using h2)
    rw [show u + 1 + (l.length - n) = (u + (l.length - n)) + 1 by omega]
    refine ⟨fun h => (by rw [h] at hready0; cases hready0), fun i hi => ?_⟩
    have hin : i < n := by
      rcases Nat.lt_or_ge i n with h | h
      · exact h
      · exact absurd hi (tail_waits hs hc hn' I.inv _ i0 rfl hi0 (getD_in (by omega) hl0) i h)
    obtain ⟨hun, o, ho, hdeps⟩ := mem_ready.1 hi
    have ho' : l[i]? = some o := by simpa using ho
    obtain ⟨v, hv, hdo⟩ := doesAll_at _ _ hD i o (htk i o hin ho')
    have hguard : o.guard = none := by
      have := List.all_eq_true.1 hgd o (List.mem_of_getElem? (htk i o hin ho'))
      simpa using this
    have hsame : execOp a.eval o = execOp aE.eval o := by
      refine execOp_congr o (fun cs b => Region.noSelect_spec hsel i o cs b ho) fun x hx => ?_
      cases x with
      | tmp t =>
        have key : a.tmps[t]? = aE.tmps[t]? := by
          by_cases hd : ∃ j oj, j < n ∧ listed.getD j false = true ∧ l[j]? = some oj ∧ oj.dst = some t
          · exact I.hit t hd
          · rw [I.miss t (fun j oj hj hlj hoj hdj => hd ⟨j, oj, hj, hlj, hoj, hdj⟩)]
            refine (hE2 t fun j oj hj hoj hdj => ?_).symm
            have h1 := List.all_eq_true.1 (List.all_eq_true.1 hrd i (List.mem_range.2 hin)) j (List.mem_range.2 hj)
            simp only [List.getElem?_toArray, ho', hoj, hdj] at h1
            have hreads : readsSlot o t = true := by
              unfold readsSlot
              rw [Array.any_eq_true']
              exact ⟨.tmp t, hx, by simp⟩
            rw [hreads] at h1
            simp only [Bool.not_true, Bool.false_or] at h1
            obtain ⟨oi, hoi, e, he, hb, hon⟩ := Region.waitsFor_spec h1
            have : oi = o := Option.some.inj (hoi.symm.trans ho)
            subst this
            have := hdeps e he hb
            rw [hon] at this
            exact hd ⟨j, oj, hj, this, hoj, hdj⟩
        simp [Act.eval, Array.getD_eq_getD_getElem?, key]
      | const v => rfl
      | global g => rfl
      | func f => rfl
    have next : ∀ w', C w' → wpAny P md l.toArray Q (u + (l.length - n)) (listed.setIfInBounds i true) (a.put o.dst v) w' := fun w' hC => by
      refine ih _ _ _ ?_ ⟨I.inv.set hi hin, ?_, by rw [put_size]; exact I.size, fun t ht => ?_, fun t ht => ?_, hC⟩
      · have hmem : i ∈ (List.range n).filter fun j => !(listed.getD j false) := List.mem_filter.2 ⟨List.mem_range.2 hin, by simp [getD_both hun]⟩
        have heq : ((List.range n).filter fun j => !((listed.setIfInBounds i true).getD j false)) = ((List.range n).filter fun j => !(listed.getD j false)).erase i := by
          rw [List.Nodup.erase_eq_filter (List.nodup_range.filter _), List.filter_filter]
          refine List.filter_congr fun j _ => ?_
          by_cases hij : i = j
          · subst hij
            have : i < listed.size := by omega
            simp [this]
          · rw [getD_set_ne false hij]
            simp [show j ≠ i from fun e => hij e.symm, bne, beq_iff_eq]
        rw [heq, List.length_erase_of_mem hmem, hu]
        rfl
      · cases o.dst <;> exact I.defers
      · by_cases hd : o.dst = some t
        · have hts : t < a0.tmps.size := by
            have := List.all_eq_true.1 hsz o (List.mem_of_getElem? (htk i o hin ho'))
            rw [hd] at this
            simpa using this
          rw [hd, put_same _ _ _ (by rw [I.size]; exact hts), haE]
          exact (headEnd_at _ _ _ i t o v hdd (htk i o hin ho') hv hd hts).symm
        · rw [put_other _ _ _ hd]
          obtain ⟨j, oj, hj, hlj, hoj, hdj⟩ := ht
          by_cases hij : i = j
          · subst hij
            rw [ho'] at hoj
            cases hoj
            exact absurd hdj hd
          · rw [getD_set_ne false hij] at hlj
            exact I.hit t ⟨j, oj, hj, hlj, hoj, hdj⟩
      · have hd : o.dst ≠ some t := ht i o hin (by have : i < listed.size := by omega
                                                   simp [this]) ho'
        rw [put_other _ _ _ hd]
        exact I.miss t fun j oj hj hlj hoj => ht j oj hj (getD_set_true hlj) hoj
    unfold wpOp
    simp only [ho]
    rw [if_pos (by simp [Region.wanted, hguard])]
    refine .inl ?_
    have hd := hdo w I.cond (fun a' w' => a' = aE.put o.dst v ∧ C w') (fun w' h => ⟨rfl, h⟩)
    have put_eq : ∀ y, aE.put o.dst y = aE.put o.dst v → a.put o.dst y = a.put o.dst v := fun y hy => by
      cases hdst : o.dst with
      | none => rfl
      | some d =>
        rw [hdst] at hy
        have hds : d < a0.tmps.size := by
          have := List.all_eq_true.1 hsz o (List.mem_of_getElem? (htk i o hin ho'))
          rw [hdst] at this
          simpa using this
        have h1 := put_same aE d y (by rw [hE4]; exact hds)
        rw [hy, put_same aE d v (by rw [hE4]; exact hds)] at h1
        rw [Option.some.inj h1]
    unfold Oper.wp at hd ⊢
    rw [hsame]
    generalize (execOp aE.eval o).run P w = r at hd ⊢
    cases r with
    | ok x w' =>
      cases x with
      | value y => obtain ⟨he, hC⟩ := hd; show wpAny _ _ _ _ _ _ _ _; rw [put_eq y he]; exact next w' hC
      | skip => obtain ⟨he, hC⟩ := hd; show wpAny _ _ _ _ _ _ _ _; rw [put_eq _ he]; exact next w' hC
      | enter f args =>
        refine Calls.mono hd fun e w'' he => ?_
        cases e with
        | returned y => obtain ⟨he, hC⟩ := he; show wpAny _ _ _ _ _ _ _ _; rw [put_eq y he]; exact next w'' hC
        | panicked c => exact he.elim
        | outgrown => exact he.elim (fun _ h => h.elim (fun _ h => h.elim))
      | row r args => exact Rows.mono hd fun y w'' he => by obtain ⟨he, hC⟩ := he; show wpAny _ _ _ _ _ _ _ _; rw [put_eq y he]; exact next w'' hC
      | defer d =>
        obtain ⟨he, hC⟩ := hd
        have h1 := congrArg (fun x : Act => x.defers.length) he
        cases hdst : o.dst <;> rw [hdst] at h1 <;> simp [Act.put] at h1
      | _ => exact hd.elim
    | halt x w' => cases x <;> exact hd.elim

theorem wp_region_free {id : Nat} {Q : Exit → Act → World → Prop} {a : Act} {w : World} (n : Nat) (hm : P.follows .mixedOrders = true) (hF : freeB .any l n = true) (vs : List Value) (C : World → Prop)
    (hsz : sizeB (l.take n) a.tmps.size = true) (hC : C w.drew) (hD : doesAll P (headEnd (l.take n) vs a) C (l.take n) vs)
    (hT : ∀ w', C w' → wpList P l.toArray Q (l.drop n) (headEnd (l.take n) vs a) w') : (Code.region id l.toArray true).wp P Q a w := by
  have hF' := hF
  simp only [freeB, Bool.and_eq_true, decide_eq_true_eq] at hF'
  have hn : n < l.length := hF'.1.1.1.1.1.1.1.2
  refine wp_region_any hm ?_
  have := free_wpAny (Q := Q) hF vs rfl hsz hD hT n (Array.replicate l.toArray.size false) a w.drew (by
    rw [List.filter_eq_self.2 (fun i _ => by rw [getD_replicate_false]; rfl)]; simp)
    ⟨⟨by simp, fun j oj _ hl => (by rw [getD_replicate_false] at hl; cases hl), fun t _ ht => getD_in (by simpa using ht) (getD_replicate_false _ _)⟩, rfl, rfl, fun t ht => (by
      obtain ⟨i, o, _, hl, _⟩ := ht
      rw [getD_replicate_false] at hl; cases hl), fun _ _ => rfl, hC⟩
  rwa [show n + (l.length - n) = l.toArray.size by simp; omega] at this
end
end Go.Proofs.YtjleembfocghlaaGreatDoor
