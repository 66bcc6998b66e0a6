/- The plain functions that the references compute, no program in sight. -/
import Derived.Test.YtjleembfocghlaaGreatDoorBase
set_option linter.unusedSimpArgs false
set_option linter.unusedVariables false
namespace Go.Proofs.YtjleembfocghlaaGreatDoor

/-- a posting is well-formed -/
def okPo (p : Po) : Prop :=
  (1 ≤ p.id ∧ p.id ≤ 1000000) ∧ (1 ≤ p.reason ∧ p.reason ≤ 1000000) ∧ (0 ≤ p.hour ∧ p.hour ≤ 1000000) ∧ (0 ≤ p.known ∧ p.known ≤ p.hour) ∧
  (10 ≤ p.parcel ∧ p.parcel ≤ 10000007) ∧ (1 ≤ p.amount ∧ p.amount ≤ 1000000000) ∧ (1 ≤ p.kind ∧ p.kind ≤ 3) ∧ (0 ≤ p.party ∧ p.party ≤ 40) ∧ (p.kind = 1 → p.party = 0)
instance (p : Po) : Decidable (okPo p) := by unfold okPo; infer_instance
def chkPo (p : Po) : Int := if okPo p then 0 else 1
theorem chk_of0 {p : Po} (h : okPo p) : (0 : Int) = chkPo p := (if_pos h).symm
theorem chk_of1 {p : Po} (h : ¬ okPo p) : (1 : Int) = chkPo p := (if_neg h).symm

def hasStep (who what n : Int) (p : Po) : Int :=
  if p.party = who ∧ p.parcel = what then (if p.kind = 2 then n + p.amount else if p.kind = 3 then n - p.amount else n) else n
def hasL (xs : List Po) (who what : Int) : Int := xs.foldl (hasStep who what) 0
def soldStep (what n : Int) (p : Po) : Int := if p.kind = 1 ∧ p.parcel = what then n + p.amount else n
def soldL (xs : List Po) (what : Int) : Int := xs.foldl (soldStep what) 0
def paidTo (xs : List Po) (what : Int) : Nat → Int
  | 0 => 0
  | m + 1 => paidTo xs what m + hasL xs m what
def heldL (xs : List Po) (what : Int) : Int := soldL xs what - paidTo xs what 41
def lastStep (who what : Int) (o : Option Po) (p : Po) : Option Po := if p.kind = 2 ∧ p.party = who ∧ p.parcel = what then some p else o
def lastL (xs : List Po) (who what : Int) : Option Po := xs.foldl (lastStep who what) none
def zPo : Po := ⟨0, 0, 0, 0, 0, 0, 0, 0⟩
theorem lastL_snoc (xs : List Po) (p : Po) (who what : Int) : lastL (xs ++ [p]) who what = lastStep who what (lastL xs who what) p := by simp [lastL]
theorem hasL_snoc (xs : List Po) (p : Po) (who what : Int) : hasL (xs ++ [p]) who what = hasStep who what (hasL xs who what) p := by simp [hasL]
theorem soldL_snoc (xs : List Po) (p : Po) (what : Int) : soldL (xs ++ [p]) what = soldStep what (soldL xs what) p := by simp [soldL]

/-- amounts that no sum of a thousand overflows -/
def Am (xs : List Po) : Prop := ∀ p ∈ xs, 0 ≤ p.amount ∧ p.amount ≤ 1000000000
theorem Am.take {xs : List Po} (h : Am xs) (k : Nat) : Am (xs.take k) := fun p hp => h p (List.mem_of_mem_take hp)

theorem hasL_bound {xs : List Po} (h : Am xs) (who what : Int) : -(1000000000 * (xs.length : Int)) ≤ hasL xs who what ∧ hasL xs who what ≤ 1000000000 * (xs.length : Int) := by
  suffices H : ∀ (ys : List Po) (n : Int), (∀ p ∈ ys, 0 ≤ p.amount ∧ p.amount ≤ 1000000000) → n - 1000000000 * (ys.length : Int) ≤ ys.foldl (hasStep who what) n ∧ ys.foldl (hasStep who what) n ≤ n + 1000000000 * (ys.length : Int) by
    have := H xs 0 h
    unfold hasL
    omega
  intro ys
  induction ys with
  | nil => intro n _; simp
  | cons p r ih =>
    intro n hp
    have h1 := hp p (by simp)
    have := ih (hasStep who what n p) (fun q hq => hp q (by simp [hq]))
    simp only [List.foldl_cons, List.length_cons]
    have hs : n - 1000000000 ≤ hasStep who what n p ∧ hasStep who what n p ≤ n + 1000000000 := by unfold hasStep; split <;> (try split) <;> (try split) <;> omega
    push_cast
    omega
theorem soldL_bound {xs : List Po} (h : Am xs) (what : Int) : 0 ≤ soldL xs what ∧ soldL xs what ≤ 1000000000 * (xs.length : Int) := by
  suffices H : ∀ (ys : List Po) (n : Int), (∀ p ∈ ys, 0 ≤ p.amount ∧ p.amount ≤ 1000000000) → n ≤ ys.foldl (soldStep what) n ∧ ys.foldl (soldStep what) n ≤ n + 1000000000 * (ys.length : Int) by
    have := H xs 0 h
    unfold soldL
    omega
  intro ys
  induction ys with
  | nil => intro n _; simp
  | cons p r ih =>
    intro n hp
    have h1 := hp p (by simp)
    have := ih (soldStep what n p) (fun q hq => hp q (by simp [hq]))
    simp only [List.foldl_cons, List.length_cons]
    have hs : n ≤ soldStep what n p ∧ soldStep what n p ≤ n + 1000000000 := by unfold soldStep; split <;> omega
    push_cast
    omega
theorem paidTo_bound {xs : List Po} (h : Am xs) (what : Int) (m : Nat) : -(1000000000 * (xs.length : Int) * m) ≤ paidTo xs what m ∧ paidTo xs what m ≤ 1000000000 * (xs.length : Int) * m := by
  induction m with
  | zero => simp [paidTo]
  | succ m ih =>
    have := hasL_bound h (m : Int) what
    simp only [paidTo]
    generalize (xs.length : Int) = l at *
    push_cast
    rw [Int.mul_add]
    omega

/-- no posting of the list has this number -/
def noId (xs : List Po) (id : Int) : Prop := ∀ q ∈ xs, q.id ≠ id
instance (xs : List Po) (id : Int) : Decidable (noId xs id) := by unfold noId; infer_instance
/-- the last hour -/
def lastHour (xs : List Po) : Int := match xs.getLast? with | some q => q.hour | none => 0
/-- why a well-formed posting with a new number is refused behind others that are not later -/
def refused3 (xs : List Po) (p : Po) : Int :=
  if p.kind = 1 then (if 0 < soldL xs p.parcel then 6 else 0) else if soldL xs p.parcel = 0 then 5 else
  if p.kind = 2 then (if heldL xs p.parcel < p.amount then 70 else 0) else if hasL xs p.party p.parcel < p.amount then 70 else
  if p.known ≤ ((lastL xs p.party p.parcel).getD zPo).known then 71 else 0
/-- why a posting is refused behind others -/
def refusedL (xs : List Po) (p : Po) : Int :=
  if 400 ≤ xs.length then 2 else if ¬ okPo p then 1 else if ¬ noId xs p.id then 6 else if xs ≠ [] ∧ p.hour < lastHour xs then 7 else refused3 xs p
theorem refusedL_twice {xs : List Po} {p q : Po} (h1 : ¬ 400 ≤ xs.length) (h2 : okPo p) (h3 : q ∈ xs) (h4 : q.id = p.id) : refusedL xs p = 6 := by
  unfold refusedL; rw [if_neg h1, if_neg (by simp [h2]), if_pos (fun h => h q h3 h4)]
theorem refusedL_time {xs : List Po} {p : Po} (h1 : ¬ 400 ≤ xs.length) (h2 : okPo p) (h3 : noId xs p.id) (h0 : xs ≠ []) (h4 : p.hour < lastHour xs) : refusedL xs p = 7 := by
  unfold refusedL; rw [if_neg h1, if_neg (by simp [h2]), if_neg (by simp [h3]), if_pos ⟨h0, h4⟩]
theorem refusedL_else {xs : List Po} {p : Po} (h1 : ¬ 400 ≤ xs.length) (h2 : okPo p) (h3 : noId xs p.id) (h4 : ¬ (xs ≠ [] ∧ p.hour < lastHour xs)) : refusedL xs p = refused3 xs p := by
  unfold refusedL; rw [if_neg h1, if_neg (by simp [h2]), if_neg (by simp [h3]), if_neg h4]
theorem lastHour_at {xs : List Po} {q : Po} {n : Nat} (hl : xs.length = n + 1) (h : xs[n]? = some q) : lastHour xs = q.hour := by
  unfold lastHour; rw [List.getLast?_eq_getElem?, hl]; simp [h]
theorem noId_snoc {xs : List Po} {q : Po} {id : Int} (h : noId xs id) (hq : q.id ≠ id) : noId (xs ++ [q]) id := by
  intro x hx
  rcases List.mem_append.1 hx with hx | hx
  · exact h x hx
  · rw [List.mem_singleton.1 hx]; exact hq

theorem refused3_1a {xs : List Po} {p : Po} (h1 : p.kind = 1) (h2 : 0 < soldL xs p.parcel) : refused3 xs p = 6 := by unfold refused3; rw [if_pos h1, if_pos h2]
theorem refused3_1b {xs : List Po} {p : Po} (h1 : p.kind = 1) (h2 : ¬ 0 < soldL xs p.parcel) : refused3 xs p = 0 := by unfold refused3; rw [if_pos h1, if_neg h2]
theorem refused3_none {xs : List Po} {p : Po} (h1 : ¬ p.kind = 1) (h2 : soldL xs p.parcel = 0) : refused3 xs p = 5 := by unfold refused3; rw [if_neg h1, if_pos h2]
theorem refused3_2a {xs : List Po} {p : Po} (h1 : ¬ p.kind = 1) (h2 : ¬ soldL xs p.parcel = 0) (h3 : p.kind = 2) (h4 : heldL xs p.parcel < p.amount) : refused3 xs p = 70 := by
  unfold refused3; rw [if_neg h1, if_neg h2, if_pos h3, if_pos h4]
theorem refused3_2b {xs : List Po} {p : Po} (h1 : ¬ p.kind = 1) (h2 : ¬ soldL xs p.parcel = 0) (h3 : p.kind = 2) (h4 : ¬ heldL xs p.parcel < p.amount) : refused3 xs p = 0 := by
  unfold refused3; rw [if_neg h1, if_neg h2, if_pos h3, if_neg h4]
theorem refused3_3a {xs : List Po} {p : Po} (h1 : ¬ p.kind = 1) (h2 : ¬ soldL xs p.parcel = 0) (h3 : ¬ p.kind = 2) (h4 : hasL xs p.party p.parcel < p.amount) : refused3 xs p = 70 := by
  unfold refused3; rw [if_neg h1, if_neg h2, if_neg h3, if_pos h4]
theorem refused3_3b {xs : List Po} {p : Po} (h1 : ¬ p.kind = 1) (h2 : ¬ soldL xs p.parcel = 0) (h3 : ¬ p.kind = 2) (h4 : ¬ hasL xs p.party p.parcel < p.amount) (h5 : p.known ≤ ((lastL xs p.party p.parcel).getD zPo).known) : refused3 xs p = 71 := by
  unfold refused3; rw [if_neg h1, if_neg h2, if_neg h3, if_neg h4, if_pos h5]
theorem refused3_3c {xs : List Po} {p : Po} (h1 : ¬ p.kind = 1) (h2 : ¬ soldL xs p.parcel = 0) (h3 : ¬ p.kind = 2) (h4 : ¬ hasL xs p.party p.parcel < p.amount) (h5 : ¬ p.known ≤ ((lastL xs p.party p.parcel).getD zPo).known) : refused3 xs p = 0 := by
  unfold refused3; rw [if_neg h1, if_neg h2, if_neg h3, if_neg h4, if_neg h5]

/-- the first posting that is refused: its place and why; (0, 0) of a book -/
def checkAux (pre : List Po) : List Po → Nat × Int
  | [] => (0, 0)
  | p :: r => if refusedL pre p = 0 then checkAux (pre ++ [p]) r else (pre.length, refusedL pre p)
def checkL (xs : List Po) : Nat × Int := checkAux [] xs
def Okl (xs : List Po) : Prop := ∀ p ∈ xs, okPo p
theorem Okl.am {xs : List Po} (h : Okl xs) : Am xs := fun p hp => by have := h p hp; unfold okPo at this; omega
theorem refusedL_ok {xs : List Po} {p : Po} (h : refusedL xs p = 0) : okPo p := by
  unfold refusedL at h
  by_cases h1 : 400 ≤ xs.length
  · rw [if_pos h1] at h; omega
  · rw [if_neg h1] at h
    by_cases h2 : okPo p
    · exact h2
    · rw [if_pos h2] at h; omega
theorem Okl.snoc {xs : List Po} {p : Po} (h : Okl xs) (hp : okPo p) : Okl (xs ++ [p]) := by
  intro q hq
  rcases List.mem_append.1 hq with hq | hq
  · exact h q hq
  · rw [List.mem_singleton.1 hq]; exact hp
theorem checkAux_end (pre : List Po) : checkAux pre [] = (0, 0) := rfl
theorem checkAux_go {pre r : List Po} {p : Po} (h : refusedL pre p = 0) : checkAux pre (p :: r) = checkAux (pre ++ [p]) r := by simp [checkAux, h]
theorem checkAux_stop {pre r : List Po} {p : Po} (h : ¬ refusedL pre p = 0) : checkAux pre (p :: r) = (pre.length, refusedL pre p) := by simp [checkAux, h]
theorem checkAux_okl : ∀ (r pre : List Po), Okl pre → (checkAux pre r).2 = 0 → Okl (pre ++ r)
  | [], pre, h, _ => by simpa using h
  | p :: r, pre, h, hc => by
    by_cases hr : refusedL pre p = 0
    · rw [checkAux_go hr] at hc
      have := checkAux_okl r (pre ++ [p]) (h.snoc (refusedL_ok hr)) hc
      simpa using this
    · rw [checkAux_stop hr] at hc
      exact absurd hc hr
theorem checkL_okl {xs : List Po} (h : (checkL xs).2 = 0) : Okl xs := by
  have := checkAux_okl xs [] (fun p hp => by simp at hp) h
  simpa using this

end Go.Proofs.YtjleembfocghlaaGreatDoor
