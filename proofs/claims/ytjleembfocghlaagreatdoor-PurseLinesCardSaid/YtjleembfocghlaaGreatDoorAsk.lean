/- The walks of Held, asked, Has, HeldOf. -/
import Derived.Test.YtjleembfocghlaaGreatDoorHeld
set_option linter.unusedSimpArgs false
set_option linter.unusedVariables false
namespace Go.Proofs.YtjleembfocghlaaGreatDoor
open Go.RowKit Go.Shelf

def HeldPost (w : World) (xs : List Po) (e : Ending) (w' : World) : Prop :=
  Below w.heap.size w w' ∧ ((¬ (checkL xs).2 = 0 ∧ e = .returned (.tuple #[.int .i64 0, .int .i64 (checkL xs).2])) ∨ ((checkL xs).2 = 0 ∧ e = .returned (.tuple #[.int .i64 (totL xs), .int .i64 0])))

set_option maxRecDepth 100000 in
set_option maxHeartbeats 2000000 in
theorem held_all (a : Option Addr) (n cap : Nat) (xs : List Po) (w : World) (h : Rd Po.vals 8 w a n xs) (hw : ∀ p ∈ xs, p.Wf) :
    Calls Tryz.prog 10 #[.slice a n cap] w (HeldPost w xs) := by
  go_enter Tryz.func10, Tryz.ntmps10
  go_wp2_with fail
  refine (opened_any a n cap xs _ h hw).mono ?_
  rintro e w1 ⟨hB, ⟨hc, L, s, rfl, hch, hbk, hL⟩ | ⟨hc, rfl⟩⟩
  · obtain ⟨c0, c1, c2, c3, c4, c5, c6⟩ := hch.cs
    have Hch := Lib.hid hch
    have Hbk := Lib.hid hbk
    have HB := Lib.hid hB
    have Hc := Lib.hid hc
    clear hch hbk hB hc h
    go_wp2_with fail
    refine (values_any _ _).mono ?_
    rintro e w2 ⟨rfl, rfl⟩
    have hb1 := (Below.refl w1.heap.size w1).alloc (Nat.le_refl _) (.cells #[.map (some L.held)] 72)
    have hcell := (Boxed.new w1 72 (.map (some L.held))).cell
    have hmap := Hch.out.held.alloc (.cells #[.map (some L.held)] 72)
    have Hb1 := Lib.hid (below_then HB.out hb1 (Nat.le_refl _))
    have Hvals := Lib.hid (Hbk.out.heldVals Hch.out.held.nodup)
    have Hlen := Lib.hid (Hbk.out.heldLen Hch.out.held.nodup)
    have Hl4 := Lib.hid Hbk.out.len
    have Htot := Lib.hid Hbk.out.tot
    go_wp2_with fail
    refine (collectInt_any 63 _ (enters_of Tryz.func63 (by kernel_rfl) rfl) _ _ s.held.length (by have := Hlen.out; have := Hl4.out; omega) _ _ (Below.refl _ _)
      (values_stops 4 (by omega) w1.heap.size L.held s.held _ hcell hmap)).mono ?_
    rintro e w3 ⟨v, ys, rfl, hS, hrow, hB3⟩
    have hylen : ys.length ≤ 400 := by have := hS.length_eq; rw [List.length_map] at this; have := Hlen.out; have := Hl4.out; omega
    obtain ⟨a3, cap3, rfl, hcap, hrd, hlow⟩ := Rd.of_own hrow ints_length (by omega) rfl (by unfold maxLen; omega)
    have HB3 := Lib.hid (below_then Hb1.out hB3 (Nat.le_refl _))
    have HS := Lib.hid hS
    clear hB3 hrow hS hb1 hcell hmap hlow
    go_wp2_with fail
    refine (sum_any a3 ys.length cap3 ys _ hrd (by omega) (fun x hx => by have := Hvals.out x (HS.out.mem_iff.1 hx); omega)).mono ?_
    rintro e w4 ⟨rfl, rfl⟩
    go_wp2_with fail
    go_ret2
    exact ⟨HB3.out, .inr ⟨Hc.out, ret_two_int ((perm_sum HS.out).trans Htot.out) rfl⟩⟩
  · have HB := Lib.hid hB
    have Hc := Lib.hid hc
    have hc1 : ((checkL xs).2 != 0) = true := by simp [hc]
    clear hB hc
    go_wp2_with fail
    go_ret2
    exact ⟨HB.out, .inl ⟨Hc.out, rfl⟩⟩

/-- numbers of a parcel and of a party -/
def okAsk (parcel party : Int) : Prop := (10 ≤ parcel ∧ parcel ≤ 10000007) ∧ (0 ≤ party ∧ party ≤ 40)
instance (a b : Int) : Decidable (okAsk a b) := by unfold okAsk; infer_instance
def askE (xs : List Po) (parcel party : Int) : Int := if (checkL xs).2 = 0 then (if okAsk parcel party then 0 else 1) else (checkL xs).2
theorem askE_0 {xs : List Po} {parcel party : Int} (h : askE xs parcel party = 0) : (checkL xs).2 = 0 ∧ okAsk parcel party := by
  unfold askE at h
  by_cases h1 : (checkL xs).2 = 0
  · rw [if_pos h1] at h
    by_cases h2 : okAsk parcel party
    · exact ⟨h1, h2⟩
    · rw [if_neg h2] at h; omega
  · rw [if_neg h1] at h; exact absurd h h1
def AskedPost (w : World) (xs : List Po) (parcel party : Int) (e : Ending) (w' : World) : Prop :=
  Below w.heap.size w w' ∧ ((¬ askE xs parcel party = 0 ∧ e = .returned (.tuple #[.pointer none, .int .i64 (askE xs parcel party)])) ∨
    (askE xs parcel party = 0 ∧ ∃ L s, e = .returned (.tuple #[.pointer (some ⟨L.c, 0, none⟩), .int .i64 0]) ∧ ChAt w' L s ∧ Bk s xs ∧ L.From w.heap.size))

theorem ret_nil_int {k : IntKind} {a b : Int} (h : a = b) : Ending.returned (.tuple #[.pointer none, .int k a]) = .returned (.tuple #[.pointer none, .int k b]) := by rw [h]
set_option maxRecDepth 100000 in
set_option maxHeartbeats 4000000 in
theorem asked_any (a : Option Addr) (n cap : Nat) (xs : List Po) (parcel party : Int) (w : World) (h : Rd Po.vals 8 w a n xs) (hw : ∀ p ∈ xs, p.Wf) :
    Calls Tryz.prog 32 #[.slice a n cap, .int .i64 parcel, .int .i64 party] w (AskedPost w xs parcel party) := by
  go_enter Tryz.func32, Tryz.ntmps32
  go_wp2_with fail
  refine (opened_any a n cap xs _ h hw).mono ?_
  rintro e w1 ⟨hB, ⟨hc, L, s, rfl, hch, hbk, hL⟩ | ⟨hc, rfl⟩⟩
  · have Hch := Lib.hid hch
    have Hbk := Lib.hid hbk
    have HL := Lib.hid hL
    have HB := Lib.hid hB
    have Hc := Lib.hid hc
    clear hch hbk hB hc h hL hw
    by_cases ho : okAsk parcel party
    · have HE := Lib.hid (show askE xs parcel party = 0 by unfold askE; rw [if_pos Hc.out, if_pos ho])
      obtain ⟨⟨o1, o2⟩, o3, o4⟩ := ho
      go_wp2
      go_ret2
      exact ⟨HB.out, .inr ⟨HE.out, _, _, rfl, Hch.out, Hbk.out, HL.out⟩⟩
    · have HE := Lib.hid (show askE xs parcel party = 1 by unfold askE; rw [if_pos Hc.out, if_neg ho])
      have Ho := Lib.hid ho
      clear ho
      go_wp2
      all_goals first
        | (exfalso; refine Ho.out ⟨⟨?_, ?_⟩, ?_, ?_⟩ <;> (simp at *; omega))
        | (exfalso; refine Ho.out ⟨⟨?_, ?_⟩, ?_, ?_⟩ <;> omega)
        | (go_ret2; refine ⟨HB.out, .inl ⟨?_, ret_nil_int HE.out.symm⟩⟩; rw [HE.out]; omega)
  · have HB := Lib.hid hB
    have Hc := Lib.hid hc
    have hc1 : ((checkL xs).2 != 0) = true := by simp [hc]
    clear hB hc
    go_wp2_with fail
    go_ret2
    exact ⟨HB.out, .inl ⟨by unfold askE; rw [if_neg Hc.out]; exact Hc.out, ret_nil_int (by unfold askE; rw [if_neg Hc.out])⟩⟩

def HasPost (w : World) (xs : List Po) (party parcel : Int) (e : Ending) (w' : World) : Prop :=
  Below w.heap.size w w' ∧ e = .returned (.tuple #[.int .i64 (if askE xs parcel party = 0 then hasL xs party parcel else 0), .int .i64 (askE xs parcel party)])

set_option maxRecDepth 100000 in
set_option maxHeartbeats 2000000 in
theorem has_all (a : Option Addr) (n cap : Nat) (xs : List Po) (party parcel : Int) (w : World) (h : Rd Po.vals 8 w a n xs) (hw : ∀ p ∈ xs, p.Wf) (hp1 : I64 party) (hp2 : I64 parcel) :
    Calls Tryz.prog 11 #[.slice a n cap, .int .i64 party, .int .i64 parcel] w (HasPost w xs party parcel) := by
  go_enter Tryz.func11, Tryz.ntmps11
  go_wp2_with fail
  refine (asked_any a n cap xs parcel party _ h hw).mono ?_
  rintro e w1 ⟨hB, ⟨hc, rfl⟩ | ⟨hc, L, s, rfl, hch, hbk, hL⟩⟩
  · have HB := Lib.hid hB
    have Hc := Lib.hid hc
    have hc1 : (askE xs parcel party != 0) = true := by simp [hc]
    clear hB hc h
    go_wp2_with fail
    go_ret2
    exact ⟨HB.out, ret_two_int (by rw [if_neg Hc.out]) rfl⟩
  · obtain ⟨c0, c1, c2, c3, c4, c5, c6⟩ := hch.cs
    have l1 : (Instr.lookup 74 (.map (some L.has)) (.agg #[.int .i64 parcel, .int .i64 party]) false).run Tryz.prog w1 = .ok (.int .i64 (hasL xs party parcel)) w1 := by
      rw [look_acc hch.has hp2 hp1, hbk.has]
    have HB := Lib.hid hB
    have Hc := Lib.hid hc
    clear hB hc h hch hbk
    go_wp2_with fail
    go_ret2
    exact ⟨HB.out, ret_two_int (by rw [Hc.out, if_pos rfl]) Hc.out.symm⟩

def HeldOfPost (w : World) (xs : List Po) (parcel : Int) (e : Ending) (w' : World) : Prop :=
  Below w.heap.size w w' ∧ e = .returned (.tuple #[.int .i64 (if askE xs parcel 0 = 0 then heldL xs parcel else 0), .int .i64 (askE xs parcel 0)])

set_option maxRecDepth 100000 in
set_option maxHeartbeats 2000000 in
theorem heldOf_all (a : Option Addr) (n cap : Nat) (xs : List Po) (parcel : Int) (w : World) (h : Rd Po.vals 8 w a n xs) (hw : ∀ p ∈ xs, p.Wf) (hp2 : I64 parcel) :
    Calls Tryz.prog 12 #[.slice a n cap, .int .i64 parcel] w (HeldOfPost w xs parcel) := by
  go_enter Tryz.func12, Tryz.ntmps12
  go_wp2_with fail
  refine (asked_any a n cap xs parcel 0 _ h hw).mono ?_
  rintro e w1 ⟨hB, ⟨hc, rfl⟩ | ⟨hc, L, s, rfl, hch, hbk, hL⟩⟩
  · have HB := Lib.hid hB
    have Hc := Lib.hid hc
    have hc1 : (askE xs parcel 0 != 0) = true := by simp [hc]
    clear hB hc h
    go_wp2_with fail
    go_ret2
    exact ⟨HB.out, ret_two_int (by rw [if_neg Hc.out]) rfl⟩
  · obtain ⟨c0, c1, c2, c3, c4, c5, c6⟩ := hch.cs
    have l1 : (Instr.lookup 72 (.map (some L.held)) (.int .i64 parcel) false).run Tryz.prog w1 = .ok (.int .i64 (heldL xs parcel)) w1 := by
      rw [look_int hch.held hp2, hbk.held]
    have HB := Lib.hid hB
    have Hc := Lib.hid hc
    clear hB hc h hch hbk
    go_wp2_with fail
    go_ret2
    exact ⟨HB.out, ret_two_int (by rw [Hc.out, if_pos rfl]) Hc.out.symm⟩
end Go.Proofs.YtjleembfocghlaaGreatDoor
