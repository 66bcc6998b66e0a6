/- A region that draws its order: the free rule with phases: the operations that turn the world come in one order (a chain of edges), the others at bounded phases. -/
import Derived.Test.YtjleembfocghlaaGreatDoorFree
set_option linter.unusedSimpArgs false
set_option linter.unusedVariables false
namespace Go.Proofs.YtjleembfocghlaaGreatDoor
open Go.RowKit

/-- what is claimed of each operation of the head: (true, k): it is the k-th that turns the world; (false, b): it comes at a phase of at most b. -/
def doesPh (P : Program) (a : Act) (C : Nat → World → Prop) : List Oper → List Value → List (Bool × Nat) → Prop
  | o :: os, v :: vs, (true, k) :: ps => (∀ w, C k w → Oper.does P o a w v (C (k + 1))) ∧ doesPh P a C os vs ps
  | o :: os, v :: vs, (false, b) :: ps => (∀ k, k ≤ b → ∀ w, C k w → Oper.does P o a w v (C k)) ∧ doesPh P a C os vs ps
  | [], [], [] => True
  | _, _, _ => False
theorem doesPh_at {P : Program} {a : Act} {C : Nat → World → Prop} : ∀ (os : List Oper) (vs : List Value) (ps : List (Bool × Nat)), doesPh P a C os vs ps → ∀ (i : Nat) (o : Oper), os[i]? = some o →
    ∃ v p, vs[i]? = some v ∧ ps[i]? = some p ∧ ((p.1 = true ∧ ∀ w, C p.2 w → Oper.does P o a w v (C (p.2 + 1))) ∨ (p.1 = false ∧ ∀ k, k ≤ p.2 → ∀ w, C k w → Oper.does P o a w v (C k)))
  | [], _, _, _, i, o, ho => by simp at ho
  | q :: os, [], _, h, _, _, _ => by simp [doesPh] at h
  | q :: os, u :: vs, [], h, _, _, _ => by simp [doesPh] at h
  | q :: os, u :: vs, (true, k) :: ps, h, 0, o, ho => by
    simp only [List.getElem?_cons_zero, Option.some.injEq] at ho
    subst ho
    exact ⟨u, (true, k), rfl, rfl, .inl ⟨rfl, h.1⟩⟩
  | q :: os, u :: vs, (false, k) :: ps, h, 0, o, ho => by
    simp only [List.getElem?_cons_zero, Option.some.injEq] at ho
    subst ho
    exact ⟨u, (false, k), rfl, rfl, .inr ⟨rfl, h.1⟩⟩
  | q :: os, u :: vs, (true, k) :: ps, h, i + 1, o, ho => by
    simp only [List.getElem?_cons_succ] at ho
    obtain ⟨v, p, hv, hp, hd⟩ := doesPh_at os vs ps h.2 i o ho
    exact ⟨v, p, by simpa using hv, by simpa using hp, hd⟩
  | q :: os, u :: vs, (false, k) :: ps, h, i + 1, o, ho => by
    simp only [List.getElem?_cons_succ] at ho
    obtain ⟨v, p, hv, hp, hd⟩ := doesPh_at os vs ps h.2 i o ho
    exact ⟨v, p, by simpa using hv, by simpa using hp, hd⟩

/-- the chain of the operations that turn the world, es, and the bounds, by the edges -/
def phaseB (md : Region.Mode) (ops : Array Oper) (n : Nat) (es : List Nat) (ps : List (Bool × Nat)) : Bool :=
  (List.range (es.length - 1)).all (fun k => Region.waitsFor md ops (es.getD (k + 1) 0) (es.getD k 0)) &&
  (List.range es.length).all (fun k => decide (es.getD k 0 < n) && decide (ps[es.getD k 0]? = some (true, k))) &&
  (List.range n).all (fun i => match ps[i]? with
    | some (true, k) => decide (k < es.length) && decide (es.getD k 0 = i)
    | some (false, b) => decide (es.length ≤ b) || Region.waitsFor md ops (es.getD b 0) i
    | none => false)

section
variable {P : Program} {l : List Oper} {md : Region.Mode} {n : Nat} {C : Nat → World → Prop} {es : List Nat} {ps : List (Bool × Nat)} {a0 aE : Act}

/-- the state of the head when some of it has come -/
structure PhInv (md : Region.Mode) (l : List Oper) (n : Nat) (C : Nat → World → Prop) (es : List Nat) (a0 aE : Act) (listed : Array Bool) (a : Act) (w : World) : Prop where
  inv : HeadInv md l.toArray n listed
  defers : a.defers = a0.defers
  size : a.tmps.size = a0.tmps.size
  hit : ∀ t, (∃ i o, i < n ∧ listed.getD i false = true ∧ l[i]? = some o ∧ o.dst = some t) → a.tmps[t]? = aE.tmps[t]?
  miss : ∀ t, (∀ i o, i < n → listed.getD i false = true → l[i]? = some o → o.dst ≠ some t) → a.tmps[t]? = a0.tmps[t]?
  cond : ∃ k, k ≤ es.length ∧ C k w ∧ (∀ m, m < k → listed.getD (es.getD m 0) false = true) ∧ ∀ m, k ≤ m → m < es.length → listed.getD (es.getD m 0) false = false

theorem phase_wpAny {Q : Exit → Act → World → Prop} (hF : freeB md l n = true) (hP : phaseB md l.toArray n es ps = true) (vs : List Value) (haE : aE = headEnd (l.take n) vs a0) (hsz : sizeB (l.take n) a0.tmps.size = true)
    (hD : doesPh P aE C (l.take n) vs ps) (hT : ∀ w, C es.length w → wpList P l.toArray Q (l.drop n) aE w) :
    ∀ (u : Nat) (listed : Array Bool) (a : Act) (w : World), ((List.range n).filter fun i => !(listed.getD i false)).length = u → PhInv md l n C es a0 aE listed a w → wpAny P md l.toArray Q (u + (l.length - n)) listed a w := by
  simp only [freeB, Bool.and_eq_true, decide_eq_true_eq] at hF
  obtain ⟨⟨⟨⟨⟨⟨⟨⟨hsel, hn⟩, hs⟩, hc⟩, hrd⟩, hdd⟩, hgd⟩, hbk⟩, hsq⟩ := hF
  have hn' : n < l.toArray.size := by simpa using hn
  simp only [phaseB, Bool.and_eq_true, List.all_eq_true, List.mem_range, decide_eq_true_eq] at hP
  obtain ⟨⟨hch, hes⟩, hps⟩ := hP
  have htk : ∀ i o, i < n → l[i]? = some o → (l.take n)[i]? = some o := fun i o hi ho => by rw [List.getElem?_take]; simp [hi, ho]
  have hE2 : ∀ t, (∀ i o, i < n → l[i]? = some o → o.dst ≠ some t) → aE.tmps[t]? = a0.tmps[t]? := fun t ht => by
    rw [haE]
    refine headEnd_other _ _ _ _ fun o ho => ?_
    obtain ⟨i, hi⟩ := List.mem_iff_getElem?.1 ho
    rw [List.getElem?_take] at hi
    split at hi
    · rename_i hin; exact ht i o hin hi
    · cases hi
  have hE3 : aE.defers = a0.defers := by rw [haE, headEnd_defers]
  have hE4 : aE.tmps.size = a0.tmps.size := by rw [haE, headEnd_size]
  intro u
  induction u with
  | zero =>
    intro listed a w hu I
    have hall : ∀ i, i < n → listed.getD i false = true := fun i hi => by
      have h0 := List.eq_nil_of_length_eq_zero hu
      rw [List.filter_eq_nil_iff] at h0
      simpa using h0 i (List.mem_range.2 hi)
    have hCend : C es.length w := by
      obtain ⟨k, hk, hCk, _, h2⟩ := I.cond
      by_cases hke : k = es.length
      · rw [← hke]; exact hCk
      · have h3 := h2 k (Nat.le_refl _) (by omega)
        rw [hall _ (hes k (by omega)).1] at h3
        cases h3
    have hlist : listed = (List.replicate n true ++ List.replicate (l.length - n) false).toArray := by
      apply Array.ext_getElem?
      intro i
      have hsize : listed.size = l.length := by simpa using I.inv.size
      by_cases h1 : i < n
      · have h2 := hall i h1
        have h3 : i < listed.size := by omega
        simp [h3] at h2
        simp [h3, h2, List.getElem?_append, h1]
      · by_cases h2 : i < l.length
        · have h4 := I.inv.tail i (by omega) (by simpa using h2)
          have h3 : i < listed.size := by omega
          simp [h3] at h4
          simp [h3, h4, List.getElem?_append, h1, show i - n < l.length - n by omega]
        · rw [Array.getElem?_eq_none (by omega)]
          simp [List.getElem?_append, h1, show ¬ i - n < l.length - n by omega]
    have ha : a = aE := by
      have ht : a.tmps = aE.tmps := by
        apply Array.ext_getElem?
        intro t
        by_cases hd : ∃ i o, i < n ∧ l[i]? = some o ∧ o.dst = some t
        · obtain ⟨i, o, hi, ho, hd⟩ := hd
          exact I.hit t ⟨i, o, hi, hall i hi, ho, hd⟩
        · rw [I.miss t (fun i o hi _ ho hd' => hd ⟨i, o, hi, ho, hd'⟩), hE2 t (fun i o hi ho hd' => hd ⟨i, o, hi, ho, hd'⟩)]
      have hd := I.defers.trans hE3.symm
      cases a; cases aE
      simp only at ht hd
      rw [ht, hd]
    subst ha
    rw [Nat.zero_add]
    have := wpAny_of_seq (md := md) (Q' := Q) (P := P) (ops := l.toArray) (l.drop n) n listed a w (fun j => by simp [List.getElem?_drop]) (by rw [hlist, List.length_drop]; exact hsq) (hT w hCend)
    rwa [List.length_drop] at this
  | succ u ih =>
    intro listed a w hu I
    have hex : ∃ i, i < n ∧ listed.getD i false = false := by
      cases hfl : (List.range n).filter (fun i => !(listed.getD i false)) with
      | nil => rw [hfl] at hu; cases hu
      | cons i r =>
        have : i ∈ (List.range n).filter (fun i => !(listed.getD i false)) := by rw [hfl]; simp
        rw [List.mem_filter] at this
        exact ⟨i, List.mem_range.1 this.1, by simpa using this.2⟩
    obtain ⟨i0, hi0, hl0, hleast⟩ := least_unlisted n hex
    have hsize : listed.size = l.length := by simpa using I.inv.size
    have hready0 : i0 ∈ Region.ready md l.toArray listed := by
      have hi0l : i0 < l.length := by omega
      refine mem_ready.2 ⟨getD_in (by omega) hl0, l[i0], by simp [hi0l], fun e he hb => ?_⟩
      have h1 := List.all_eq_true.1 hbk i0 (List.mem_range.2 hi0)
      simp only [List.getElem?_toArray, List.getElem?_eq_getElem hi0l] at h1
      have h2 := Array.all_eq_true_iff_forall_mem.1 h1 e he
      rw [hb] at h2
      exact hleast e.on (by simpa using h2)
    rw [show u + 1 + (l.length - n) = (u + (l.length - n)) + 1 by omega]
    refine ⟨fun h => (by rw [h] at hready0; cases hready0), fun i hi => ?_⟩
    have hin : i < n := by
      rcases Nat.lt_or_ge i n with h | h
      · exact h
      · exact absurd hi (tail_waits hs hc hn' I.inv _ i0 rfl hi0 (getD_in (by omega) hl0) i h)
    obtain ⟨hun, o, ho, hdeps⟩ := mem_ready.1 hi
    have ho' : l[i]? = some o := by simpa using ho
    obtain ⟨v, p, hv, hp, hdo⟩ := doesPh_at _ _ _ hD i o (htk i o hin ho')
    have hguard : o.guard = none := by
      have := List.all_eq_true.1 hgd o (List.mem_of_getElem? (htk i o hin ho'))
      simpa using this
    have hsame : execOp a.eval o = execOp aE.eval o := by
      refine execOp_congr o (fun cs b => Region.noSelect_spec hsel i o cs b ho) fun x hx => ?_
      cases x with
      | tmp t =>
        have key : a.tmps[t]? = aE.tmps[t]? := by
          by_cases hd : ∃ j oj, j < n ∧ listed.getD j false = true ∧ l[j]? = some oj ∧ oj.dst = some t
          · exact I.hit t hd
          · rw [I.miss t (fun j oj hj hlj hoj hdj => hd ⟨j, oj, hj, hlj, hoj, hdj⟩)]
            refine (hE2 t fun j oj hj hoj hdj => ?_).symm
            have h1 := List.all_eq_true.1 (List.all_eq_true.1 hrd i (List.mem_range.2 hin)) j (List.mem_range.2 hj)
            simp only [List.getElem?_toArray, ho', hoj, hdj] at h1
            have hreads : readsSlot o t = true := by
              unfold readsSlot
              rw [Array.any_eq_true']
              exact ⟨.tmp t, hx, by simp⟩
            rw [hreads] at h1
            simp only [Bool.not_true, Bool.false_or] at h1
            obtain ⟨oi, hoi, e, he, hb, hon⟩ := Region.waitsFor_spec h1
            have : oi = o := Option.some.inj (hoi.symm.trans ho)
            subst this
            have := hdeps e he hb
            rw [hon] at this
            exact hd ⟨j, oj, hj, this, hoj, hdj⟩
        simp [Act.eval, Array.getD_eq_getD_getElem?, key]
      | const v => rfl
      | global g => rfl
      | func f => rfl
    have next : ∀ (w' : World), (∃ k, k ≤ es.length ∧ C k w' ∧ (∀ m, m < k → (listed.setIfInBounds i true).getD (es.getD m 0) false = true) ∧ ∀ m, k ≤ m → m < es.length → (listed.setIfInBounds i true).getD (es.getD m 0) false = false) → wpAny P md l.toArray Q (u + (l.length - n)) (listed.setIfInBounds i true) (a.put o.dst v) w' := fun w' hC => by
      refine ih _ _ _ ?_ ⟨I.inv.set hi hin, ?_, by rw [put_size]; exact I.size, fun t ht => ?_, fun t ht => ?_, hC⟩
      · have hmem : i ∈ (List.range n).filter fun j => !(listed.getD j false) := List.mem_filter.2 ⟨List.mem_range.2 hin, by simp [getD_both hun]⟩
        have heq : ((List.range n).filter fun j => !((listed.setIfInBounds i true).getD j false)) = ((List.range n).filter fun j => !(listed.getD j false)).erase i := by
          rw [List.Nodup.erase_eq_filter (List.nodup_range.filter _), List.filter_filter]
          refine List.filter_congr fun j _ => ?_
          by_cases hij : i = j
          · subst hij
            have : i < listed.size := by omega
            simp [this]
          · rw [getD_set_ne false hij]
            simp [show j ≠ i from fun e => hij e.symm, bne, beq_iff_eq]
        rw [heq, List.length_erase_of_mem hmem, hu]
        rfl
      · cases o.dst <;> exact I.defers
      · by_cases hd : o.dst = some t
        · have hts : t < a0.tmps.size := by
            have := List.all_eq_true.1 hsz o (List.mem_of_getElem? (htk i o hin ho'))
            rw [hd] at this
            simpa using this
          rw [hd, put_same _ _ _ (by rw [I.size]; exact hts), haE]
          exact (headEnd_at _ _ _ i t o v hdd (htk i o hin ho') hv hd hts).symm
        · rw [put_other _ _ _ hd]
          obtain ⟨j, oj, hj, hlj, hoj, hdj⟩ := ht
          by_cases hij : i = j
          · subst hij
            rw [ho'] at hoj
            cases hoj
            exact absurd hdj hd
          · rw [getD_set_ne false hij] at hlj
            exact I.hit t ⟨j, oj, hj, hlj, hoj, hdj⟩
      · have hd : o.dst ≠ some t := ht i o hin (by have : i < listed.size := by omega
                                                   simp [this]) ho'
        rw [put_other _ _ _ hd]
        exact I.miss t fun j oj hj hlj hoj => ht j oj hj (getD_set_true hlj) hoj
    unfold wpOp
    simp only [ho]
    rw [if_pos (by simp [Region.wanted, hguard])]
    refine .inl ?_
    obtain ⟨k0, hk0, hCk, hlo, hhi⟩ := I.cond
    have hil : i < listed.size := by omega
    have hset : (listed.setIfInBounds i true).getD i false = true := by simp [hil]
    obtain ⟨C', hstep, hd⟩ : ∃ C' : World → Prop, (∀ w', C' w' → ∃ k, k ≤ es.length ∧ C k w' ∧ (∀ m, m < k → (listed.setIfInBounds i true).getD (es.getD m 0) false = true) ∧ ∀ m, k ≤ m → m < es.length → (listed.setIfInBounds i true).getD (es.getD m 0) false = false) ∧ Oper.does P o aE w v C' := by
      have hpi := hps i hin
      rw [hp] at hpi
      rcases hdo with ⟨hp1, hdo⟩ | ⟨hp1, hdo⟩
      · obtain ⟨p1, k⟩ := p
        simp only at hp1 hdo
        subst hp1
        simp only [Bool.and_eq_true, decide_eq_true_eq] at hpi
        have hik : es.getD k 0 = i := hpi.2
        have hkk : k = k0 := by
          rcases Nat.lt_trichotomy k k0 with h | h | h
          · have := hlo k h
            rw [hik, getD_both hun] at this
            cases this
          · exact h
          · have h1 := hch (k - 1) (by omega)
            rw [show k - 1 + 1 = k by omega, hik] at h1
            obtain ⟨oi, hoi, e, he, hb, hon⟩ := Region.waitsFor_spec h1
            have : oi = o := Option.some.inj (hoi.symm.trans ho)
            subst this
            have h2 := hdeps e he hb
            rw [hon, hhi (k - 1) (by omega) (by omega)] at h2
            cases h2
        subst hkk
        have hinj : ∀ m, m < es.length → es.getD m 0 = i → m = k := fun m hm hmi => by
          have h1 := (hes m hm).2
          rw [hmi, hp] at h1
          have h2 := (Prod.mk.inj (Option.some.inj h1)).2
          exact h2.symm
        refine ⟨C (k + 1), fun w' hC => ⟨k + 1, by omega, hC, fun m hm => ?_, fun m hm hme => ?_⟩, hdo w hCk⟩
        · by_cases hmk : m = k
          · rw [hmk, hik]; exact hset
          · exact getD_set_true (hlo m (by omega))
        · rw [getD_set_ne false (fun e => by have := hinj m hme e.symm; omega)]
          exact hhi m (by omega) hme
      · obtain ⟨p1, b⟩ := p
        simp only at hp1 hdo
        subst hp1
        simp only [Bool.or_eq_true, decide_eq_true_eq] at hpi
        have hkb : k0 ≤ b := by
          rcases hpi with h | h
          · omega
          · rcases Nat.lt_or_ge b k0 with h1 | h1
            · have h2 := hlo b h1
              obtain ⟨oj, hoj, e, he, hb, hon⟩ := Region.waitsFor_spec h
              have h3 := I.inv.closed _ oj hoj h2 e he hb
              rw [hon, getD_both hun] at h3
              cases h3
            · exact h1
        have hne : ∀ m, m < es.length → i ≠ es.getD m 0 := fun m hm hmi => by
          have h1 := (hes m hm).2
          rw [← hmi, hp] at h1
          have h2 := (Prod.mk.inj (Option.some.inj h1)).1
          cases h2
        refine ⟨C k0, fun w' hC => ⟨k0, hk0, hC, fun m hm => getD_set_true (hlo m hm), fun m hm hme => ?_⟩, hdo k0 hkb w hCk⟩
        rw [getD_set_ne false (hne m hme)]
        exact hhi m hm hme
    have hd := hd (fun a' w' => a' = aE.put o.dst v ∧ C' w') (fun w' h => ⟨rfl, h⟩)
    have put_eq : ∀ y, aE.put o.dst y = aE.put o.dst v → a.put o.dst y = a.put o.dst v := fun y hy => by
      cases hdst : o.dst with
      | none => rfl
      | some d =>
        rw [hdst] at hy
        have hds : d < a0.tmps.size := by
          have := List.all_eq_true.1 hsz o (List.mem_of_getElem? (htk i o hin ho'))
          rw [hdst] at this
          simpa using this
        have h1 := put_same aE d y (by rw [hE4]; exact hds)
        rw [hy, put_same aE d v (by rw [hE4]; exact hds)] at h1
        rw [Option.some.inj h1]
    unfold Oper.wp at hd ⊢
    rw [hsame]
    generalize (execOp aE.eval o).run P w = r at hd ⊢
    cases r with
    | ok x w' =>
      cases x with
      | value y => obtain ⟨he, hC⟩ := hd; show wpAny _ _ _ _ _ _ _ _; rw [put_eq y he]; exact next w' (hstep w' hC)
      | skip => obtain ⟨he, hC⟩ := hd; show wpAny _ _ _ _ _ _ _ _; rw [put_eq _ he]; exact next w' (hstep w' hC)
      | enter f args =>
        refine Calls.mono hd fun e w'' he => ?_
        cases e with
        | returned y => obtain ⟨he, hC⟩ := he; show wpAny _ _ _ _ _ _ _ _; rw [put_eq y he]; exact next w'' (hstep w'' hC)
        | panicked c => exact he.elim
        | outgrown => exact he.elim (fun _ h => h.elim (fun _ h => h.elim))
      | row r args => exact Rows.mono hd fun y w'' he => by obtain ⟨he, hC⟩ := he; show wpAny _ _ _ _ _ _ _ _; rw [put_eq y he]; exact next w'' (hstep w'' hC)
      | defer d =>
        obtain ⟨he, hC⟩ := hd
        have h1 := congrArg (fun x : Act => x.defers.length) he
        cases hdst : o.dst <;> rw [hdst] at h1 <;> simp [Act.put] at h1
      | _ => exact hd.elim
    | halt x w' => cases x <;> exact hd.elim

theorem wp_region_phase {id : Nat} {Q : Exit → Act → World → Prop} {a : Act} {w : World} (n : Nat) (es : List Nat) (ps : List (Bool × Nat)) (hm : P.follows .mixedOrders = true) (hF : freeB .any l n = true) (hP : phaseB .any l.toArray n es ps = true)
    (vs : List Value) (C : Nat → World → Prop) (hsz : sizeB (l.take n) a.tmps.size = true) (hC : C 0 w.drew) (hD : doesPh P (headEnd (l.take n) vs a) C (l.take n) vs ps)
    (hT : ∀ w', C es.length w' → wpList P l.toArray Q (l.drop n) (headEnd (l.take n) vs a) w') : (Code.region id l.toArray true).wp P Q a w := by
  have hF' := hF
  simp only [freeB, Bool.and_eq_true, decide_eq_true_eq] at hF'
  have hn : n < l.length := hF'.1.1.1.1.1.1.1.2
  refine wp_region_any hm ?_
  have := phase_wpAny (Q := Q) hF hP vs rfl hsz hD hT n (Array.replicate l.toArray.size false) a w.drew (by
    rw [List.filter_eq_self.2 (fun i _ => by rw [getD_replicate_false]; rfl)]; simp)
    ⟨⟨by simp, fun j oj _ hl => (by rw [getD_replicate_false] at hl; cases hl), fun t _ ht => getD_in (by simpa using ht) (getD_replicate_false _ _)⟩, rfl, rfl, fun t ht => (by
      obtain ⟨i, o, _, hl, _⟩ := ht
      rw [getD_replicate_false] at hl; cases hl), fun _ _ => rfl, ⟨0, Nat.zero_le _, hC, fun m hm => absurd hm (Nat.not_lt_zero _), fun m _ _ => getD_replicate_false _ _⟩⟩
  rwa [show n + (l.length - n) = l.toArray.size by simp; omega] at this
end
end Go.Proofs.YtjleembfocghlaaGreatDoor
