/- The walk of the reference's digits. -/
import Derived.Test.YtjleembfocghlaaGreatDoorBase
import Derived.Test.YtjleembfocghlaaGreatDoorChecked
import Derived.Lib.ItoaNum
import Derived.Laws.IdiomStrings
set_option linter.unusedSimpArgs false
set_option linter.unusedVariables false
namespace Go.Proofs.YtjleembfocghlaaGreatDoor
open Go.RowKit

/-- a string of these bytes -/
abbrev str (l : List UInt8) : Value := .string ⟨l.toArray⟩
theorem str_append (a b : List UInt8) : (⟨a.toArray⟩ : ByteArray) ++ ⟨b.toArray⟩ = ⟨(a ++ b).toArray⟩ := by
  apply ByteArray.ext
  simp

theorem decDigits_step {u : Nat} (h : ¬ u < 10) : Lib.decDigits u = Lib.decDigits (u / 10) ++ Lib.decDigits (u % 10) := by
  rw [Lib.decDigits, dif_neg h, Lib.decDigits_one (show u % 10 < 10 by omega)]
theorem decDigits_le : ∀ (k u : Nat), u < 10 ^ (k + 1) → (Lib.decDigits u).length ≤ k + 1
  | 0, u, h => by rw [Lib.decDigits_one (by simpa using h)]; simp
  | k + 1, u, h => by
    by_cases h1 : u < 10
    · rw [Lib.decDigits_one h1]; simp
    · rw [decDigits_step h1, List.length_append, Lib.decDigits_one (show u % 10 < 10 by omega)]
      have := decDigits_le k (u / 10) (by rw [Nat.pow_succ] at h; omega)
      simp only [List.length_cons, List.length_nil]
      omega

set_option maxRecDepth 100000 in
set_option maxHeartbeats 2000000 in
theorem digits_small (n : Int) (h0 : 0 ≤ n) (h1 : n < 10) (w : World) :
    Calls Tryz.prog 22 #[.int .i64 n] w fun e w' => e = .returned (str (Lib.decDigits n.toNat)) ∧ Below w.heap.size w w' := by
  have hw : IntKind.u8.wrap (48 + n) = 48 + n := by unfold IntKind.wrap; simp [IntKind.bits, IntKind.signed]; omega
  have hconv : (convert 100 9 (.slice (some ⟨w.heap.size, 0, none⟩) 1 1)).run Tryz.prog (w.alloc (.cells #[.int .u8 (48 + n)] 5)) = .ok (str (Lib.decDigits n.toNat)) (w.alloc (.cells #[.int .u8 (48 + n)] 5)) := by
    have := run_convert_bytes_back (P := Tryz.prog) (w.alloc (.cells #[.int .u8 (48 + n)] 5)) 100 9 5 ⟨w.heap.size, 0, none⟩ 1 [UInt8.ofNat (48 + n.toNat)] Tryz.underlying100 Tryz.underlying5 Tryz.underlying9 (fun j hj => by
      have hj0 : j = 0 := by have : j < 1 := hj; omega
      subst hj0
      have e : ((UInt8.ofNat (48 + n.toNat)).toNat : Int) = 48 + n := by rw [UInt8.toNat_ofNat']; omega
      show (World.alloc _ _).cell? _ = some (Value.int .u8 ((UInt8.ofNat (48 + n.toNat)).toNat : Int))
      rw [e]
      simp [Addr.add])
    rw [Lib.decDigits_one (by omega)]
    exact this
  have hb := (Below.refl w.heap.size w).alloc (Nat.le_refl _) (.cells #[.int .u8 (48 + n)] 5)
  have HB := Lib.hid hb
  clear hb
  go_enter Tryz.func22, Tryz.ntmps22
  go_wp2_with fail
  go_ret
  exact ⟨rfl, HB.out⟩

set_option maxRecDepth 100000 in
set_option maxHeartbeats 2000000 in
theorem digits_any : ∀ (m : Nat) (n : Int) (w : World), n.toNat ≤ m → 0 ≤ n → n ≤ 1000000000000 →
    Calls Tryz.prog 22 #[.int .i64 n] w fun e w' => e = .returned (str (Lib.decDigits n.toNat)) ∧ Below w.heap.size w w'
  | m, n, w, hm, h0, h2 => by
    by_cases h1 : n < 10
    · exact digits_small n h0 h1 w
    · obtain ⟨u, rfl⟩ := Int.eq_ofNat_of_zero_le h0
      have hu : ¬ u < 10 := by omega
      have e1 : ((u : Int) / 10).toNat = u / 10 := by omega
      have e2 : ((u : Int) % 10).toNat = u % 10 := by omega
      have l1 := decDigits_le 12 (u / 10) (by omega)
      have l2 := decDigits_le 0 (u % 10) (by omega)
      have C1 := digits_any (m - 1) ((u : Int) / 10) w (by omega) (by omega) (by omega)
      rw [e1] at C1
      have C2 := fun W => digits_small ((u : Int) % 10) (by omega) (by omega) W
      rw [e2] at C2
      have HS := Lib.hid (decDigits_step hu)
      obtain ⟨A, hA⟩ : ∃ A, Lib.decDigits (u / 10) = A := ⟨_, rfl⟩
      obtain ⟨B, hB⟩ : ∃ B, Lib.decDigits (u % 10) = B := ⟨_, rfl⟩
      rw [hA] at C1 HS l1
      rw [hB] at C2 HS l2
      have hadd : A.length + B.length ≤ 9223372036854775807 := by omega
      have hn : ¬ 9223372036854775807 < A.length + B.length := by omega
      have happ := str_append A B
      clear hA hB e1 e2
      go_enter Tryz.func22, Tryz.ntmps22
      go_wp2_with fail
      refine C1.mono ?_
      rintro e w1 ⟨rfl, hB⟩
      have HB := Lib.hid hB
      clear hB C1
      go_wp2_with fail
      refine (C2 w1).mono ?_
      rintro e w2 ⟨rfl, hB⟩
      have HB2 := Lib.hid (below_then HB.out hB (Nat.le_refl _))
      clear hB C2
      go_wp2_with fail
      go_ret
      exact ⟨by show _ = Ending.returned (str (Lib.decDigits u)); rw [HS.out]; rfl, HB2.out⟩
end Go.Proofs.YtjleembfocghlaaGreatDoor
