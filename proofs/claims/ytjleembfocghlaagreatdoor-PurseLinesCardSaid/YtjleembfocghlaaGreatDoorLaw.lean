/- What a chest holds along a book: the plain law of take, no program in sight. -/
import Derived.Test.YtjleembfocghlaaGreatDoorTakeA
set_option linter.unusedSimpArgs false
set_option linter.unusedVariables false
namespace Go.Proofs.YtjleembfocghlaaGreatDoor

theorem checkAux_fst : ∀ (r pre : List Po), (checkAux pre r).2 = 0 → (checkAux pre r).1 = 0
  | [], pre, _ => rfl
  | p :: r, pre, h => by
    by_cases hr : refusedL pre p = 0
    · rw [checkAux_go hr] at h ⊢
      exact checkAux_fst r _ h
    · rw [checkAux_stop hr] at h
      exact absurd h hr
theorem checkL_fst {xs : List Po} (h : (checkL xs).2 = 0) : (checkL xs).1 = 0 := checkAux_fst xs [] h

theorem refusedL_len {xs : List Po} {p : Po} (h : refusedL xs p = 0) : xs.length < 400 := by
  unfold refusedL at h
  by_cases h1 : 400 ≤ xs.length
  · rw [if_pos h1] at h; omega
  · omega

/-- what a posting moves between a party and the receiver -/
def moveOf (p : Po) : Int := if p.kind = 2 then p.amount else if p.kind = 3 then -p.amount else 0
theorem hasStep_move (who what n : Int) (p : Po) : hasStep who what n p = if p.party = who ∧ p.parcel = what then n + moveOf p else n := by
  unfold hasStep moveOf
  split
  · split
    · rfl
    · split <;> omega
  · rfl
theorem paidTo_snoc (xs : List Po) (p : Po) (what : Int) (m : Nat) :
    paidTo (xs ++ [p]) what m = paidTo xs what m + (if (0 ≤ p.party ∧ p.party < m) ∧ p.parcel = what then moveOf p else 0) := by
  induction m with
  | zero =>
    have : ¬ ((0 ≤ p.party ∧ p.party < ((0 : Nat) : Int)) ∧ p.parcel = what) := by omega
    rw [if_neg this]; simp [paidTo]
  | succ m ih =>
    simp only [paidTo]
    rw [ih, hasL_snoc, hasStep_move]
    repeat' split
    all_goals omega
theorem heldL_snoc (xs : List Po) (p : Po) (what : Int) (hp : 0 ≤ p.party ∧ p.party ≤ 40) :
    heldL (xs ++ [p]) what = heldL xs what + (if p.parcel = what then (if p.kind = 1 then p.amount else 0) - moveOf p else 0) := by
  unfold heldL
  rw [soldL_snoc, paidTo_snoc]
  unfold soldStep
  by_cases h1 : p.parcel = what
  · rw [if_pos h1, if_pos (show (0 ≤ p.party ∧ p.party < ((41 : Nat) : Int)) ∧ p.parcel = what from ⟨⟨hp.1, by omega⟩, h1⟩)]
    by_cases h2 : p.kind = 1
    · rw [if_pos ⟨h2, h1⟩, if_pos h2]; omega
    · rw [if_neg (by omega), if_neg h2]; omega
  · rw [if_neg (by omega), if_neg h1, if_neg (by omega)]; omega
theorem lastHour_snoc (xs : List Po) (p : Po) : lastHour (xs ++ [p]) = p.hour := by simp [lastHour]
theorem noId_snoc_iff (xs : List Po) (p : Po) (k : Int) : noId (xs ++ [p]) k ↔ noId xs k ∧ p.id ≠ k := by
  constructor
  · intro h
    exact ⟨fun q hq => h q (by simp [hq]), h p (by simp)⟩
  · intro ⟨h1, h2⟩
    exact noId_snoc h1 h2

section
variable {κ ν : Type} [DecidableEq κ]
theorem mput_keys_same {m : List (κ × ν)} {k : κ} {v : ν} (h : (mget m k).isSome = true) : (mput m k v).map (·.1) = m.map (·.1) := by
  induction m with
  | nil => simp [mget_nil] at h
  | cons x r ih =>
    unfold mput
    rw [mget_cons] at h
    by_cases hx : x.1 = k
    · rw [if_pos hx]; simp [hx]
    · rw [if_neg hx] at h ⊢
      simp [ih h]
theorem mput_keys_new {m : List (κ × ν)} {k : κ} {v : ν} (h : (mget m k).isSome = false) : (mput m k v).map (·.1) = m.map (·.1) ++ [k] := by
  induction m with
  | nil => simp [mput]
  | cons x r ih =>
    unfold mput
    rw [mget_cons] at h
    by_cases hx : x.1 = k
    · rw [if_pos hx] at h; simp at h
    · rw [if_neg hx] at h ⊢
      simp [ih h]
theorem mget_some_iff {m : List (κ × ν)} {k : κ} : (mget m k).isSome = true ↔ k ∈ m.map (·.1) := by
  induction m with
  | nil => simp [mget_nil]
  | cons x r ih =>
    rw [mget_cons]
    by_cases hx : x.1 = k
    · simp [hx]
    · rw [if_neg hx, ih]
      simp only [List.map_cons, List.mem_cons]
      constructor
      · exact .inr
      · rintro (rfl | h)
        · exact absurd rfl hx
        · exact h
end
theorem getB_mput {κ : Type} [DecidableEq κ] (m : List (κ × Bool)) (k k' : κ) (v : Bool) : getB (mput m k v) k' = if k = k' then v else getB m k' := by
  unfold getB; rw [mget_mput]; split <;> rfl
theorem getI_mput' {κ : Type} [DecidableEq κ] (m : List (κ × Int)) (k k' : κ) (v : Int) : getI (mput m k v) k' = if k = k' then v else getI m k' := by
  unfold getI; rw [mget_mput]; split <;> rfl

/-- what is held for all parcels -/
def totStep (n : Int) (p : Po) : Int := if p.kind = 1 then n + p.amount else if p.kind = 2 then n - p.amount else n + p.amount
def totL (xs : List Po) : Int := xs.foldl totStep 0
theorem totL_snoc (xs : List Po) (p : Po) : totL (xs ++ [p]) = totStep (totL xs) p := by simp [totL]
theorem mput_sum {κ : Type} [DecidableEq κ] (m : List (κ × Int)) (k : κ) (v : Int) : ((mput m k v).map (·.2)).sum = (m.map (·.2)).sum - getI m k + v := by
  induction m with
  | nil => simp [mput, getI, mget_nil]
  | cons x r ih =>
    unfold mput
    by_cases h : x.1 = k
    · rw [if_pos h]
      simp only [List.map_cons, List.sum_cons]
      unfold getI
      rw [mget_cons, if_pos h]
      simp
      omega
    · rw [if_neg h]
      simp only [List.map_cons, List.sum_cons, ih]
      unfold getI
      rw [mget_cons, if_neg h]
      omega

/-- the chest s is what the book xs comes to -/
structure Bk (s : Ch) (xs : List Po) : Prop where
  okl : Okl xs
  n : s.n = xs.length
  len : xs.length ≤ 400
  hour : s.hour = lastHour xs
  ids : ∀ k, getB s.ids k = true ↔ ¬ noId xs k
  idk : ∀ k, k ∈ s.ids.map (·.1) ↔ ¬ noId xs k
  sold : ∀ k, mget s.sold k = if 0 < soldL xs k then some (soldL xs k) else none
  held : ∀ k, getI s.held k = heldL xs k
  keys : s.held.map (·.1) = s.sold.map (·.1)
  has : ∀ a, getI s.has a = hasL xs a.2 a.1
  last : ∀ a, mget s.last a = lastL xs a.2 a.1
  held0 : ∀ k, 0 ≤ heldL xs k
  has0 : ∀ x y, 0 ≤ hasL xs x y
  known : ∀ k, soldL xs k = 0 → ∀ p ∈ xs, p.parcel ≠ k
  tot : (s.held.map (·.2)).sum = totL xs
  hask : ∀ k ∈ s.has.map (·.1), ∃ p ∈ xs, (p.parcel, p.party) = k

def ch0 : Ch := ⟨0, 0, [], [], [], [], []⟩
theorem paidTo_nil (what : Int) (m : Nat) : paidTo [] what m = 0 := by
  induction m with
  | zero => rfl
  | succ m ih => simp [paidTo, ih, hasL]
theorem bk_nil : Bk ch0 [] where
  okl := fun p hp => by simp at hp
  n := rfl
  len := Nat.zero_le _
  hour := rfl
  ids := fun k => by simp [ch0, getB, mget_nil, noId]
  idk := fun k => by simp [ch0, noId]
  sold := fun k => by simp [ch0, mget_nil, soldL]
  held := fun k => by simp [ch0, getI, mget_nil, heldL, paidTo_nil, soldL]
  keys := rfl
  has := fun k => by simp [ch0, getI, mget_nil, hasL]
  last := fun k => by simp [ch0, mget_nil, lastL]
  held0 := fun k => by simp [heldL, paidTo_nil, soldL]
  has0 := fun x y => by simp [hasL]
  known := fun k _ p hp => by simp at hp
  tot := rfl
  hask := fun k hk => by simp [ch0] at hk

section
variable {s : Ch} {xs : List Po} {p : Po}
theorem Bk.bd (h : Bk s xs) : Bd s := by
  have ha := h.okl.am
  have hl := h.len
  refine ⟨by have := h.n; omega, fun k => ?_, fun k => ?_⟩
  · rw [h.held]
    have h1 := soldL_bound ha k
    have h2 := paidTo_bound ha k 41
    unfold heldL
    generalize hq : (xs.length : Int) = q at *
    omega
  · rw [h.has]
    have h1 := hasL_bound ha k.2 k.1
    omega
theorem Bk.isSold (h : Bk s xs) (k : Int) : (mget s.sold k).isSome = decide (0 < soldL xs k) := by
  rw [h.sold]
  by_cases hk : 0 < soldL xs k <;> simp [hk]
theorem Bk.take (h : Bk s xs) (p : Po) : takeE s p = refusedL xs p := by
  unfold takeE refusedL refused3
  have hn := h.n
  by_cases h1 : 400 ≤ xs.length
  · rw [if_pos h1, if_pos (by omega)]
  rw [if_neg h1, if_neg (by omega)]
  by_cases h2 : okPo p
  case neg => rw [if_pos h2, if_pos h2]
  rw [if_neg (show ¬ ¬ okPo p from fun e => e h2), if_neg (show ¬ ¬ okPo p from fun e => e h2)]
  by_cases h3 : noId xs p.id
  case neg => rw [if_pos ((h.ids p.id).2 h3), if_pos h3]
  rw [if_neg (show ¬ getB s.ids p.id = true from fun e => (h.ids p.id).1 e h3), if_neg (show ¬ ¬ noId xs p.id from fun e => e h3)]
  have hh := h.hour
  have hp0 : 0 ≤ p.hour := by unfold okPo at h2; omega
  by_cases h4 : p.hour < s.hour
  · have : xs ≠ [] ∧ p.hour < lastHour xs := ⟨fun e => by subst e; simp [lastHour] at hh; omega, by omega⟩
    rw [if_pos h4, if_pos this]
  rw [if_neg h4, if_neg (show ¬ (xs ≠ [] ∧ p.hour < lastHour xs) from fun e => by have := e.2; omega)]
  have hs := h.isSold p.parcel
  have hb := (soldL_bound h.okl.am p.parcel).1
  rw [hs, h.held, h.has]
  have hl : getP s.last (p.parcel, p.party) = (lastL xs p.party p.parcel).getD zPo := by unfold getP; rw [h.last]
  rw [hl]
  by_cases h5 : 0 < soldL xs p.parcel
  · have h6 : ¬ soldL xs p.parcel = 0 := by omega
    simp [h5, h6]
  · have h6 : soldL xs p.parcel = 0 := by omega
    simp [h6]

theorem Bk.next (h : Bk s xs) (hr : refusedL xs p = 0) : Bk (takeS s p) (xs ++ [p]) := by
  have hok := refusedL_ok hr
  have hr' := hr
  unfold refusedL at hr'
  by_cases h1 : 400 ≤ xs.length
  · rw [if_pos h1] at hr'; omega
  rw [if_neg h1, if_neg (by simp [hok])] at hr'
  by_cases h3 : noId xs p.id
  case neg => rw [if_pos h3] at hr'; omega
  rw [if_neg (by simp [h3])] at hr'
  by_cases h4 : xs ≠ [] ∧ p.hour < lastHour xs
  · rw [if_pos h4] at hr'; omega
  rw [if_neg h4] at hr'
  unfold refused3 at hr'
  have ho := hok
  unfold okPo at ho
  have hsb := fun k => (soldL_bound h.okl.am k).1
  have hid : ∀ k, getB (mput s.ids p.id true) k = true ↔ ¬ noId (xs ++ [p]) k := fun k => by
    rw [getB_mput, noId_snoc_iff]
    by_cases hk : p.id = k
    · simp [hk]
    · rw [if_neg hk, h.ids]
      constructor
      · exact fun a b => a b.1
      · exact fun a b => a ⟨b, hk⟩
  have hidk : ∀ k, k ∈ (mput s.ids p.id true).map (·.1) ↔ ¬ noId (xs ++ [p]) k := fun k => by
    rw [← mget_some_iff, mget_mput, noId_snoc_iff]
    by_cases hk : p.id = k
    · simp [hk]
    · rw [if_neg hk, mget_some_iff, h.idk]
      constructor
      · exact fun a b => a b.1
      · exact fun a b => a ⟨b, hk⟩
  by_cases k1 : p.kind = 1
  · rw [if_pos k1] at hr'
    by_cases hs : 0 < soldL xs p.parcel
    · rw [if_pos hs] at hr'; omega
    have hs0 : soldL xs p.parcel = 0 := by have := hsb p.parcel; omega
    have hmv : moveOf p = 0 := by unfold moveOf; rw [if_neg (by omega), if_neg (by omega)]
    have hkn := h.known _ hs0
    have hhas0 : ∀ who, hasL xs who p.parcel = 0 := fun who => by
      have : ∀ (ys : List Po) (n : Int), (∀ q ∈ ys, q.parcel ≠ p.parcel) → ys.foldl (hasStep who p.parcel) n = n := by
        intro ys
        induction ys with
        | nil => intro n _; rfl
        | cons q r ih =>
          intro n hq
          have h1 := hq q (by simp)
          have : hasStep who p.parcel n q = n := by unfold hasStep; rw [if_neg (by omega)]
          rw [List.foldl_cons, this]
          exact ih n fun x hx => hq x (by simp [hx])
      exact this xs 0 hkn
    have hheld0 : heldL xs p.parcel = 0 := by
      have : ∀ m, paidTo xs p.parcel m = 0 := fun m => by
        induction m with
        | zero => rfl
        | succ m ih => simp [paidTo, ih, hhas0]
      unfold heldL
      rw [this, hs0]; omega
    have hnone : (mget s.sold p.parcel).isSome = false := by rw [h.isSold]; simp [hs0]
    have hmem : (mget s.held p.parcel).isSome = false := by
      cases hb : (mget s.held p.parcel).isSome with
      | false => rfl
      | true =>
        rw [mget_some_iff, h.keys, ← mget_some_iff, hnone] at hb
        exact hb.symm ▸ rfl
    unfold takeS kindS
    rw [if_pos k1]
    refine ⟨h.okl.snoc hok, ?_, ?_, (lastHour_snoc xs p).symm, hid, hidk, fun k => ?_, fun k => ?_, ?_, fun a => ?_, fun a => ?_, fun k => ?_, fun x y => ?_, fun k hk => ?_, ?_, fun k hk => ?_⟩
    · simp [h.n]
    · simp; omega
    · show mget (mput s.sold p.parcel p.amount) k = _
      rw [mget_mput, soldL_snoc]
      unfold soldStep
      by_cases hk : p.parcel = k
      · subst hk
        have e1 : (if p.kind = 1 ∧ p.parcel = p.parcel then soldL xs p.parcel + p.amount else soldL xs p.parcel) = p.amount := by rw [if_pos ⟨k1, rfl⟩, hs0]; omega
        rw [if_pos rfl, e1, if_pos (by omega)]
      · have e1 : (if p.kind = 1 ∧ p.parcel = k then soldL xs k + p.amount else soldL xs k) = soldL xs k := if_neg (fun e => hk e.2)
        rw [if_neg hk, e1, h.sold]
    · simp only [saleS]
      rw [getI_mput', heldL_snoc _ _ _ (by omega), hmv, if_pos k1]
      by_cases hk : p.parcel = k
      · subst hk
        rw [if_pos rfl, if_pos rfl, hheld0]; omega
      · rw [if_neg hk, if_neg hk, h.held]; omega
    · simp only [saleS]
      rw [mput_keys_new hnone, mput_keys_new hmem, h.keys]
    · simp only [saleS]
      rw [h.has, hasL_snoc, hasStep_move, hmv]
      split <;> omega
    · simp only [saleS]
      rw [h.last, lastL_snoc]
      unfold lastStep
      rw [if_neg (by omega)]
    · rw [heldL_snoc _ _ _ (by omega), hmv, if_pos k1]
      have := h.held0 k
      split <;> omega
    · rw [hasL_snoc, hasStep_move, hmv]
      have := h.has0 x y
      split <;> omega
    · rw [soldL_snoc] at hk
      unfold soldStep at hk
      have hsk := hsb k
      by_cases hk2 : p.kind = 1 ∧ p.parcel = k
      · rw [if_pos hk2] at hk; omega
      · rw [if_neg hk2] at hk
        intro q hq
        rcases List.mem_append.1 hq with hq | hq
        · exact h.known k hk q hq
        · rw [List.mem_singleton.1 hq]; exact fun e => hk2 ⟨k1, e⟩
    · simp only [saleS]
      rw [mput_sum, h.tot, h.held, hheld0, totL_snoc]
      unfold totStep
      rw [if_pos k1]; omega
    · obtain ⟨q, hq, e⟩ := h.hask k hk
      exact ⟨q, by simp [hq], e⟩
  rw [if_neg k1] at hr'
  by_cases hs : soldL xs p.parcel = 0
  · rw [if_pos hs] at hr'; omega
  rw [if_neg hs] at hr'
  have hspos : 0 < soldL xs p.parcel := by have := hsb p.parcel; omega
  have hsome : (mget s.sold p.parcel).isSome = true := by rw [h.isSold]; simp [hspos]
  have hmem : (mget s.held p.parcel).isSome = true := by rw [mget_some_iff, h.keys, ← mget_some_iff]; exact hsome
  have hsoldL : ∀ k, soldL (xs ++ [p]) k = soldL xs k := fun k => by
    rw [soldL_snoc]; unfold soldStep; rw [if_neg (by omega)]
  have hknown : ∀ k, soldL (xs ++ [p]) k = 0 → ∀ q ∈ xs ++ [p], q.parcel ≠ k := fun k hk q hq => by
    rw [hsoldL] at hk
    rcases List.mem_append.1 hq with hq | hq
    · exact h.known k hk q hq
    · rw [List.mem_singleton.1 hq]; exact fun e => hs (e ▸ hk)
  by_cases k2 : p.kind = 2
  · rw [if_pos k2] at hr'
    by_cases hh : heldL xs p.parcel < p.amount
    · rw [if_pos hh] at hr'; omega
    have hmv : moveOf p = p.amount := by unfold moveOf; rw [if_pos k2]
    unfold takeS kindS
    rw [if_neg k1, if_pos k2]
    refine ⟨h.okl.snoc hok, ?_, ?_, (lastHour_snoc xs p).symm, hid, hidk, fun k => ?_, fun k => ?_, ?_, fun a => ?_, fun a => ?_, fun k => ?_, fun x y => ?_, hknown, ?_, fun k hk => ?_⟩
    · simp [h.n]
    · simp; omega
    · simp only [payS]; rw [hsoldL, h.sold]
    · simp only [payS]
      rw [getI_mput', heldL_snoc _ _ _ (by omega), hmv, if_neg k1]
      by_cases hk : p.parcel = k
      · subst hk; rw [if_pos rfl, if_pos rfl, h.held]; omega
      · rw [if_neg hk, if_neg hk, h.held]; omega
    · simp only [payS]; rw [mput_keys_same hmem, h.keys]
    · obtain ⟨x, y⟩ := a
      simp only [payS]
      rw [getI_mput', hasL_snoc, hasStep_move, hmv]
      by_cases hk : (p.parcel, p.party) = (x, y)
      · rw [if_pos hk]
        cases hk
        rw [if_pos ⟨rfl, rfl⟩, h.has]
      · rw [if_neg hk, if_neg (fun e => hk (by rw [e.1, e.2])), h.has]
    · obtain ⟨x, y⟩ := a
      simp only [payS]
      rw [mget_mput, lastL_snoc]
      unfold lastStep
      by_cases hk : (p.parcel, p.party) = (x, y)
      · rw [if_pos hk]
        cases hk
        rw [if_pos ⟨k2, rfl, rfl⟩]
      · rw [if_neg hk, if_neg (fun e => hk (by rw [e.2.1, e.2.2])), h.last]
    · rw [heldL_snoc _ _ _ (by omega), hmv, if_neg k1]
      have := h.held0 k
      by_cases hk : p.parcel = k
      · subst hk; rw [if_pos rfl]; omega
      · rw [if_neg hk]; omega
    · rw [hasL_snoc, hasStep_move, hmv]
      have := h.has0 x y
      split <;> omega
    · simp only [payS]
      rw [mput_sum, h.tot, totL_snoc]
      unfold totStep
      rw [if_neg k1, if_pos k2]; omega
    · simp only [payS] at hk
      obtain ⟨y, hy, rfl⟩ := List.mem_map.1 hk
      rcases mput_keys_mem _ _ _ y hy with e | e
      · exact ⟨p, by simp, e.symm⟩
      · obtain ⟨q, hq, e2⟩ := h.hask y.1 (List.mem_map_of_mem e)
        exact ⟨q, by simp [hq], e2⟩
  · rw [if_neg k2] at hr'
    have k3 : p.kind = 3 := by omega
    by_cases hh : hasL xs p.party p.parcel < p.amount
    · rw [if_pos hh] at hr'; omega
    have hmv : moveOf p = -p.amount := by unfold moveOf; rw [if_neg k2, if_pos k3]
    unfold takeS kindS
    rw [if_neg k1, if_neg k2]
    refine ⟨h.okl.snoc hok, ?_, ?_, (lastHour_snoc xs p).symm, hid, hidk, fun k => ?_, fun k => ?_, ?_, fun a => ?_, fun a => ?_, fun k => ?_, fun x y => ?_, hknown, ?_, fun k hk => ?_⟩
    · simp [h.n]
    · simp; omega
    · simp only [backS]; rw [hsoldL, h.sold]
    · simp only [backS]
      rw [getI_mput', heldL_snoc _ _ _ (by omega), hmv, if_neg k1]
      by_cases hk : p.parcel = k
      · subst hk; rw [if_pos rfl, if_pos rfl, h.held]; omega
      · rw [if_neg hk, if_neg hk, h.held]; omega
    · simp only [backS]; rw [mput_keys_same hmem, h.keys]
    · obtain ⟨x, y⟩ := a
      simp only [backS]
      rw [getI_mput', hasL_snoc, hasStep_move, hmv]
      by_cases hk : (p.parcel, p.party) = (x, y)
      · rw [if_pos hk]
        cases hk
        rw [if_pos ⟨rfl, rfl⟩, h.has]; dsimp only; omega
      · rw [if_neg hk, if_neg (fun e => hk (by rw [e.1, e.2])), h.has]
    · simp only [backS]
      rw [h.last, lastL_snoc]
      unfold lastStep
      rw [if_neg (by omega)]
    · rw [heldL_snoc _ _ _ (by omega), hmv, if_neg k1]
      have := h.held0 k
      by_cases hk : p.parcel = k
      · subst hk; rw [if_pos rfl]; omega
      · rw [if_neg hk]; omega
    · rw [hasL_snoc, hasStep_move, hmv]
      have := h.has0 x y
      by_cases hk : p.party = x ∧ p.parcel = y
      · rw [if_pos hk]
        obtain ⟨rfl, rfl⟩ := hk
        omega
      · rw [if_neg hk]; exact this
    · simp only [backS]
      rw [mput_sum, h.tot, totL_snoc]
      unfold totStep
      rw [if_neg k1, if_neg k2]; omega
    · simp only [backS] at hk
      obtain ⟨y, hy, rfl⟩ := List.mem_map.1 hk
      rcases mput_keys_mem _ _ _ y hy with e | e
      · exact ⟨p, by simp, e.symm⟩
      · obtain ⟨q, hq, e2⟩ := h.hask y.1 (List.mem_map_of_mem e)
        exact ⟨q, by simp [hq], e2⟩
end

theorem mget_key {κ ν : Type} [DecidableEq κ] {m : List (κ × ν)} (hn : (m.map (·.1)).Nodup) {x : κ × ν} (hx : x ∈ m) : mget m x.1 = some x.2 := mget_of_mem hn hx
theorem paidTo_nonneg {xs : List Po} {what : Int} (h : ∀ x y, 0 ≤ hasL xs x y) (m : Nat) : 0 ≤ paidTo xs what m := by
  induction m with
  | zero => simp [paidTo]
  | succ m ih => have := h m what; simp only [paidTo]; omega
/-- each sum that is held is between 0 and 400 milliards -/
theorem Bk.heldVals {s : Ch} {xs : List Po} (h : Bk s xs) (hn : (s.held.map (·.1)).Nodup) : ∀ v ∈ s.held.map (·.2), 0 ≤ v ∧ v ≤ 400000000000 := by
  intro v hv
  obtain ⟨x, hx, rfl⟩ := List.mem_map.1 hv
  have h1 := h.held x.1
  unfold getI at h1
  rw [mget_of_mem hn hx] at h1
  have h2 := h.held0 x.1
  have h3 := paidTo_nonneg (what := x.1) h.has0 41
  have h4 := (soldL_bound h.okl.am x.1).2
  have h5 := h.len
  have h6 : heldL xs x.1 = soldL xs x.1 - paidTo xs x.1 41 := rfl
  simp only [Option.getD_some] at h1
  generalize (xs.length : Nat) = l at *
  omega
/-- no more parcels than postings -/
theorem keys_le {m : List (Int × Int)} {xs : List Po} (hn : (m.map (·.1)).Nodup) (hk : ∀ k ∈ m.map (·.1), ∃ p ∈ xs, p.parcel = k) : m.length ≤ xs.length := by
  have h1 : (m.map (·.1)).length ≤ (xs.map (·.parcel)).length := hn.length_le_of_subset fun a ha => by
    obtain ⟨p, hp, rfl⟩ := hk a ha
    exact List.mem_map_of_mem hp
  simpa using h1
theorem soldL_mem {xs : List Po} {k : Int} (h : 0 < soldL xs k) : ∃ p ∈ xs, p.parcel = k := by
  suffices H : ∀ (ys : List Po) (n : Int), n < ys.foldl (soldStep k) n → ∃ p ∈ ys, p.parcel = k by exact H xs 0 h
  intro ys
  induction ys with
  | nil => intro n h; simp at h
  | cons q r ih =>
    intro n h
    rw [List.foldl_cons] at h
    by_cases hq : q.parcel = k
    · exact ⟨q, by simp, hq⟩
    · have : soldStep k n q = n := by unfold soldStep; rw [if_neg (by omega)]
      rw [this] at h
      obtain ⟨p, hp, e⟩ := ih n h
      exact ⟨p, by simp [hp], e⟩
theorem Bk.hasLen {s : Ch} {xs : List Po} (h : Bk s xs) (hn : (s.has.map (·.1)).Nodup) : (s.has.map (·.1)).length ≤ xs.length := by
  have h1 : (s.has.map (·.1)).length ≤ (xs.map (fun p => (p.parcel, p.party))).length := hn.length_le_of_subset fun a ha => by
    obtain ⟨p, hp, rfl⟩ := h.hask a ha
    exact List.mem_map_of_mem (f := fun p : Po => (p.parcel, p.party)) hp
  simpa using h1
theorem Bk.heldLen {s : Ch} {xs : List Po} (h : Bk s xs) (hn : (s.held.map (·.1)).Nodup) : s.held.length ≤ xs.length := by
  refine keys_le hn fun k hk => ?_
  rw [h.keys, ← mget_some_iff, h.isSold] at hk
  exact soldL_mem (by simpa using hk)
end Go.Proofs.YtjleembfocghlaaGreatDoor
