/- The walk of the package's named: numbers that rise and stand among others. -/
import Derived.Test.YtleiapljnjaloaaGreatDoorCLeftP
import Derived.Test.YtleiapljnjaloaaGreatDoorCPathP
set_option linter.unusedSimpArgs false
set_option linter.unusedVariables false
namespace Go.Proofs.YtleiapljnjaloaaGreatDoor
open Go.RowKit Go.Shelf
def prevB (p : Option Int) (y : Int) : Bool := match p with
 | none => true
 | some z => decide (z < y)
def stepB (all : List Int) : Option Int → List Int → Bool
 | _, [] => true
 | p, y :: r => prevB p y && all.contains y && stepB all (some y) r
def namedB (ids all : List Int) : Bool := stepB all none ids
def prevO (ids : List Int) (k : Nat) : Option Int := if k = 0 then none else ids[k - 1]?
theorem named_from (ids all : List Int) : namedB ids all = stepB all (prevO ids 0) (ids.drop 0) := rfl
theorem named_step {ids : List Int} (all : List Int) {k : Nat} {y : Int} (h : ids[k]? = some y) : stepB all (prevO ids k) (ids.drop k) = (prevB (prevO ids k) y && all.contains y && stepB all (prevO ids (k + 1)) (ids.drop (k + 1))) := by
 obtain ⟨hlt, hy⟩ := List.getElem?_eq_some_iff.1 h
 rw [List.drop_eq_getElem_cons hlt, hy]
 have : prevO ids (k + 1) = some y := by unfold prevO; rw [if_neg (by omega)]; simpa using h
 rw [this]
 rfl
theorem named_end {ids : List Int} (all : List Int) {k : Nat} (h : ids.length ≤ k) (p : Option Int) : stepB all p (ids.drop k) = true := by
 rw [List.drop_eq_nil_of_le h]; rfl
theorem prevO_succ {ids : List Int} {m : Nat} {z : Int} (h : ids[m]? = some z) : prevO ids (m + 1) = some z := by
 unfold prevO; rw [if_neg (by omega)]; simpa using h
set_option maxRecDepth 100000 in
set_option maxHeartbeats 4000000 in
theorem named_any (a : Option Addr) (n cap : Nat) (ids : List Int) (b : Option Addr) (m c : Nat) (all : List Int) (w : World) (h : Rd ints 1 w a n ids) (hb : Rd ints 1 w b m all) :
 Calls Tryz.prog 69 #[.slice a n cap, .slice b m c] w fun e w' => e = .returned (.bool (namedB ids all)) ∧ w' = w := by
 have hn := h.cap
 unfold maxLen at hn
 have HR := Hd h
 have CC := Hd (fun y => contains_any b m c all y w hb)
 clear h hb
 obtain ⟨R, hR⟩ : ∃ r, namedB ids all = r := ⟨_, rfl⟩
 rw [hR]
 have HRv := Hd hR
 clear hR
 go_enter Tryz.func69, Tryz.ntmps69
 go_wp2_with fail
 go_loopw [9] (fun i wr => ∃ k : Nat, k ≤ n ∧ i = .int .i64 k ∧ R = stepB all (prevO ids k) (ids.drop k) ∧ wr = w) (fun i _ => n - (intOf i).toNat)
 case atStart => exact ⟨0, Nat.zero_le _, rfl, by rw [← HRv.out]; rfl, rfl⟩
 case round =>
  obtain ⟨k, hk, rfl, hst, hw⟩ := hrel
  obtain rfl := hw.symm
  clear hw
  have HSt := Hd hst
  clear hst
  by_cases hlt : k < n
  · have hlt' : (k : Int) < (n : Int) := by omega
    obtain ⟨bb, off, y, rfl, _, hy, hc⟩ := HR.out.int hlt
    have HS := Hd (named_step all hy)
    have CY := Hd (CC.out y)
    obtain ⟨C, hC⟩ : ∃ r, all.contains y = r := ⟨_, rfl⟩
    have HS2 := Hd (HSt.out.trans HS.out)
    rw [hC] at CY HS2
    clear hC hy
    by_cases hz : k = 0
    · subst hz
      rw [Nat.add_zero] at hc
      have HP := Hd (show prevB (prevO ids 0) y = true from rfl)
      cases C with
      | true =>
        have HN := Hd (show R = stepB all (prevO ids (0 + 1)) (ids.drop (0 + 1)) from by rw [HS2.out, HP.out]; rfl)
        go_wp2_with (go_at_call 121; refine CY.out.mono ?_; rintro e w2 ⟨rfl, rfl⟩)
        exact ⟨⟨0 + 1, by omega, by go_num, HN.out, by trivial⟩, by simp [intOf]; omega⟩
      | false =>
        have HN := Hd (show R = false from by rw [HS2.out, HP.out]; rfl)
        go_wp2_with (go_at_call 121; refine CY.out.mono ?_; rintro e w2 ⟨rfl, rfl⟩)
        go_ret
        exact ⟨by rw [HN.out] <;> rfl, rfl⟩
    · obtain ⟨q, hq⟩ : ∃ q, k = q + 1 := ⟨k - 1, by omega⟩
      subst hq
      obtain ⟨b2, off2, z, hb2, _, hz2, hc2⟩ := HR.out.int (i := q) (by omega)
      cases hb2
      have g0 : (0 : Int) < ((q + 1 : Nat) : Int) := by omega
      have hq1 : ((q + 1 : Nat) : Int) - 1 = (q : Int) := by omega
      have HP := Hd (show prevB (prevO ids (q + 1)) y = decide (z < y) from by rw [prevO_succ hz2]; rfl)
      clear hz2 hz
      by_cases hzy : z < y
      · have g1 : ¬ y ≤ z := by omega
        have HP2 := Hd (show prevB (prevO ids (q + 1)) y = true from by rw [HP.out]; exact decide_eq_true hzy)
        cases C with
        | true =>
          have HN := Hd (show R = stepB all (prevO ids (q + 1 + 1)) (ids.drop (q + 1 + 1)) from by rw [HS2.out, HP2.out]; rfl)
          go_wp2_with (go_at_call 121; refine CY.out.mono ?_; rintro e w2 ⟨rfl, rfl⟩)
          exact ⟨⟨q + 1 + 1, by omega, by go_num, HN.out, by trivial⟩, by simp [intOf]; omega⟩
        | false =>
          have HN := Hd (show R = false from by rw [HS2.out, HP2.out]; rfl)
          go_wp2_with (go_at_call 121; refine CY.out.mono ?_; rintro e w2 ⟨rfl, rfl⟩)
          go_ret
          exact ⟨by rw [HN.out] <;> rfl, rfl⟩
      · have g1 : y ≤ z := by omega
        have HN := Hd (show R = false from by rw [HS2.out, HP.out, decide_eq_false hzy]; rfl)
        clear hzy
        go_wp2_with fail
        go_ret
        exact ⟨by rw [HN.out] <;> rfl, rfl⟩
  · have hltg : ¬ (k : Int) < (n : Int) := by omega
    have HE := Hd (show R = true from by rw [HSt.out]; exact named_end all (by rw [HR.out.len]; omega) _)
    clear hlt
    go_wp2_with fail
    go_ret
    exact ⟨by rw [HE.out] <;> rfl, rfl⟩
def ckDoubtV (xs : List Pa) (known loss : Int) (ids : List Int) : Bool := decide (rootE xs known loss true = 0) && (namedB ids (idsM (papersL xs known loss) (totalsL xs known loss) xs) && doubtB (papersL xs known loss) (totalsL xs known loss) ids)
def CkPost (w : World) (V : Bool) (E : Int) (e : Ending) (w' : World) : Prop := e = .returned (.tuple #[.bool V, .int .i64 E]) ∧ Below w.heap.size w w'
end Go.Proofs.YtleiapljnjaloaaGreatDoor
