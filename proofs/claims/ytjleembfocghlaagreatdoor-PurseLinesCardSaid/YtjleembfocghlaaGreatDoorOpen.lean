/- Arguments of the laws opened: slices of structs of integers, such a struct by value. -/
import Derived.Test.YtjleembfocghlaaGreatDoorPurses
import Derived.ProofKit
import Derived.OpenShut
import Derived.Deep.Slices
import Derived.Deep.Fields
import Derived.ChangeSame
set_option linter.unusedSimpArgs false
set_option linter.unusedVariables false
namespace Go.Proofs.YtjleembfocghlaaGreatDoor
open Go.ChangeShapes Go.WideShapes Go.Deep Go.RowKit

/-- all fields are integers of these kinds -/
def intFields (P : Program) (fs : Array Field) (ks : List IntKind) : Bool := decide (fs.size = ks.length) && (List.range fs.size).all fun i => match fs[i]?, ks[i]? with
  | some f, some k => match P.underlying f.type with
    | some (.int k') => decide (k' = k)
    | _ => false
  | _, _ => false
theorem intFields_of {P : Program} {fs : Array Field} {ks : List IntKind} (h : intFields P fs ks = true) : fs.size = ks.length ∧ ∀ (j : Nat) (f : Field), fs[j]? = some f → ∃ k, ks[j]? = some k ∧ P.underlying f.type = some (.int k) := by
  unfold intFields at h
  simp only [Bool.and_eq_true, decide_eq_true_eq] at h
  refine ⟨h.1, fun j f hj => ?_⟩
  have hlt : j < fs.size := (Array.getElem?_eq_some_iff.1 hj).1
  have := List.all_eq_true.1 h.2 j (List.mem_range.2 hlt)
  rw [hj, List.getElem?_eq_getElem (show j < ks.length by omega)] at this
  dsimp only at this
  split at this
  · rename_i k' hk'
    exact ⟨_, List.getElem?_eq_getElem (by omega), by rw [hk', of_decide_eq_true this]⟩
  · cases this

section
variable {H : Type} {enc : TypeId × Value → H} {P : Program} {w : World} {base : Nat} {spare : Nat → Bool} {held : Bool}
theorem struct_ints {e : TypeId} {fs : Array Field} {ks : List IntKind} {fuel : Nat} {cs : List Value} {x : DataW H × List MemPlace} (he : P.underlying e = some (.struct fs)) (hone : oneCellFields P fs = true) (hC : P.cellsOf e = fs.size) (hk : intFields P fs ks = true)
    (h : DataW.trod enc P w base spare held fuel e cs = some x) : ∃ z : Nat → Int, cs.length = ks.length ∧ ∀ j k, ks[j]? = some k → cs[j]? = some (Value.int k (z j)) ∧ (Lit.int k (z j)).wf = true := by
  obtain ⟨hs, hf⟩ := intFields_of hk
  obtain ⟨ys, n', _, _, hlen, _, hat⟩ := DataW.trod_struct he h
  have key : ∀ j, ∃ z : Int, ∀ k, ks[j]? = some k → cs[j]? = some (Value.int k z) ∧ (Lit.int k z).wf = true := fun j => by
    by_cases hj : j < fs.size
    · obtain ⟨k, hkj, hu⟩ := hf j fs[j] (Array.getElem?_eq_getElem hj)
      obtain ⟨ho, hc⟩ := hone_of hone j fs[j] (Array.getElem?_eq_getElem hj)
      have h1 := hat j fs[j] (Array.getElem?_eq_getElem hj)
      rw [ho, hc] at h1
      have hjl : j < cs.length := by rw [hlen, hC]; exact hj
      have h2 : (cs.drop j).take 1 = [cs[j]] := by rw [List.drop_eq_getElem_cons hjl]; rfl
      rw [h2] at h1
      have hy : ∃ y, ys[j]? = some y := by
        rcases hys : ys[j]? with _ | y
        · rename_i hl _
          have := List.getElem?_eq_none_iff.1 hys
          omega
        · exact ⟨y, rfl⟩
      obtain ⟨y, hy⟩ := hy
      obtain ⟨z, hz, _, hw⟩ := DataW.trod_int hu (h1.trans hy)
      refine ⟨z, fun k' hk' => ?_⟩
      rw [hkj] at hk'
      cases hk'
      exact ⟨by rw [List.getElem?_eq_getElem hjl]; exact congrArg some (List.cons.inj hz).1, hw⟩
    · exact ⟨0, fun k hk => absurd (List.getElem?_eq_some_iff.1 hk).1 (by omega)⟩
  exact ⟨fun j => Classical.choose (key j), by rw [hlen, hC, hs], fun j k hjk => Classical.choose_spec (key j) k hjk⟩

theorem open_rows {t e : TypeId} {fs : Array Field} {ks : List IntKind} {fuel : Nat} {cs : List Value} {x : DataW H × List MemPlace} (ht : P.underlying t = some (.slice e)) (he : P.underlying e = some (.struct fs))
    (hone : oneCellFields P fs = true) (hC : P.cellsOf e = fs.size) (hk : intFields P fs ks = true) (h : DataW.trod enc P w base spare held fuel t cs = some x) :
    cs = [.slice none 0 0] ∨ ∃ (a : Addr) (len cap : Nat) (z : Nat → Nat → Int), cs = [.slice (some a) len cap] ∧ len ≤ cap ∧ cap ≤ maxLen ∧
      ∀ i, i < len → ∀ j k, ks[j]? = some k → w.cell? (a.add (i * ks.length + j)) = some (Value.int k (z i j)) ∧ (Lit.int k (z i j)).wf = true := by
  have hs := (intFields_of hk).1
  rcases open_slice ht h with h0 | ⟨a, len, cap, m, n, D, Pl, hcs, hb, hl, hm, hmm, hx, hi⟩
  · exact .inl h0.1
  · have key : ∀ i, ∃ z : Nat → Int, i < len → ∀ j k, ks[j]? = some k → w.cell? (a.add (i * ks.length + j)) = some (Value.int k (z j)) ∧ (Lit.int k (z j)).wf = true := fun i => by
      by_cases hil : i < len
      · have him : i < m := by rw [hmm]; split <;> omega
        obtain ⟨cs', hc, ht'⟩ := hi i him
        obtain ⟨z, _, hz⟩ := struct_ints he hone hC hk ht'
        rw [hC, hs] at hc
        obtain ⟨_, hcl, hat⟩ := World.cells?_some hc
        refine ⟨z, fun _ j k hjk => ?_⟩
        have hjl : j < ks.length := (List.getElem?_eq_some_iff.1 hjk).1
        refine ⟨?_, (hz j k hjk).2⟩
        rw [← Go.Deep.add_add, hat j (by omega)]
        exact (hz j k hjk).1
      · exact ⟨fun _ => 0, fun h => absurd h hil⟩
    exact .inr ⟨a, len, cap, fun i => Classical.choose (key i), hcs, hl, hm, fun i hil => Classical.choose_spec (key i) hil⟩
end

/-- What a row of structs says as a list. -/
theorem rd_of_rows {α : Type} {E : α → List Value} {w : World} {a : Addr} {len cap : Nat} {k : Nat} (f : Nat → α) (hk : 0 < k) (hm : cap ≤ maxLen) (hl : len ≤ cap) (hE : ∀ x, (E x).length = k)
    (h : ∀ i, i < len → ∀ j, j < k → w.cell? (a.add (i * k + j)) = (E (f i))[j]?) : Rd E k w (some a) len ((List.range len).map f) := by
  refine ⟨by simp, Nat.le_trans hl hm, fun i hi => ?_⟩
  obtain ⟨b, off, spot⟩ := a
  have h0 := h i hi 0 hk
  rw [List.getElem?_eq_getElem (by rw [hE]; exact hk)] at h0
  have hspot : spot = none := by
    have h1 := h 0 (by omega) 0 hk
    rw [List.getElem?_eq_getElem (by rw [hE]; exact hk)] at h1
    simpa [Addr.add] using World.cell?_spot h1
  subst hspot
  have hb := World.block_lt_of_cell? _ _ h0
  rw [Go.WideShapes.add_plain] at hb
  refine ⟨b, off, f i, rfl, hb, by simp [hi], fun j hj => ?_⟩
  rw [← h i hi j hj, Go.WideShapes.add_plain, Nat.add_assoc]

theorem wf_i64' {x : Int} (h : (Lit.int .i64 x).wf = true) : I64 x := by
  unfold I64; simpa [Lit.wf, IntKind.min, IntKind.max, IntKind.signed, IntKind.bits] using h
theorem wf_u8' {x : Int} (h : (Lit.int .u8 x).wf = true) : 0 ≤ x ∧ x ≤ 255 := by
  simpa [Lit.wf, IntKind.min, IntKind.max, IntKind.signed, IntKind.bits] using h
def poOf (z : Nat → Int) : Po := ⟨z 0, z 1, z 2, z 3, z 4, z 5, z 6, z 7⟩
def poKs : List IntKind := [.i64, .i64, .u8, .i64, .i64, .i64, .i64, .i64]
def duOf (z : Nat → Int) : Du := ⟨z 0, z 1, z 2⟩
def caOf (z : Nat → Int) : Ca := ⟨z 0, z 1, z 2⟩
def threeKs : List IntKind := [.i64, .i64, .i64]
theorem poOf_wf {z : Nat → Int} (h : ∀ j k, poKs[j]? = some k → (Lit.int k (z j)).wf = true) : (poOf z).Wf :=
  ⟨wf_i64' (h 0 _ rfl), wf_i64' (h 1 _ rfl), wf_u8' (h 2 _ rfl), wf_i64' (h 3 _ rfl), wf_i64' (h 4 _ rfl), wf_i64' (h 5 _ rfl), wf_i64' (h 6 _ rfl), wf_i64' (h 7 _ rfl)⟩
theorem cells_po : Tryz.prog.cellsOf 23 = 8 := by kernel_rfl
theorem cells_du : Tryz.prog.cellsOf 41 = 3 := by kernel_rfl
theorem cells_ca : Tryz.prog.cellsOf 45 = 3 := by kernel_rfl
section
variable {H : Type} {enc : TypeId × Value → H} {w : World} {base : Nat} {spare : Nat → Bool} {held : Bool}
theorem open_pos {fuel : Nat} {cs : List Value} {x : DataW H × List MemPlace} (h : DataW.trod enc Tryz.prog w base spare held fuel 31 cs = some x) :
    ∃ a n cap xs, cs = [.slice a n cap] ∧ Rd Po.vals 8 w a n xs ∧ (∀ p ∈ xs, p.Wf) ∧ n ≤ cap ∧ (a = none → cap = 0) := by
  rcases open_rows (ks := poKs) Tryz.underlying31 Tryz.underlying23 (by kernel_rfl) (by kernel_rfl) (by kernel_rfl) h with h0 | ⟨a, len, cap, z, hcs, hl, hm, hz⟩
  · exact ⟨none, 0, 0, [], h0, Rd.empty _ _, fun p hp => by simp at hp, Nat.le_refl _, fun _ => rfl⟩
  · refine ⟨some a, len, cap, (List.range len).map fun i => poOf (z i), hcs, rd_of_rows (fun i => poOf (z i)) (by decide) hm hl po_vals_length (fun i hi j hj => ?_), fun p hp => ?_, hl, fun e => by cases e⟩
    · have h8 : j = 0 ∨ j = 1 ∨ j = 2 ∨ j = 3 ∨ j = 4 ∨ j = 5 ∨ j = 6 ∨ j = 7 := by omega
      rcases h8 with rfl | rfl | rfl | rfl | rfl | rfl | rfl | rfl <;> exact (hz i hi _ _ rfl).1
    · obtain ⟨i, hi, rfl⟩ := List.mem_map.1 hp
      exact poOf_wf fun j k hjk => (hz i (List.mem_range.1 hi) j k hjk).2
theorem open_dus {fuel : Nat} {cs : List Value} {x : DataW H × List MemPlace} (h : DataW.trod enc Tryz.prog w base spare held fuel 42 cs = some x) :
    ∃ a n cap xs, cs = [.slice a n cap] ∧ Rd Du.vals 3 w a n xs ∧ n ≤ cap ∧ (a = none → cap = 0) := by
  rcases open_rows (ks := threeKs) Tryz.underlying42 Tryz.underlying41 (by kernel_rfl) (by kernel_rfl) (by kernel_rfl) h with h0 | ⟨a, len, cap, z, hcs, hl, hm, hz⟩
  · exact ⟨none, 0, 0, [], h0, Rd.empty _ _, Nat.le_refl _, fun _ => rfl⟩
  · refine ⟨some a, len, cap, (List.range len).map fun i => duOf (z i), hcs, rd_of_rows (fun i => duOf (z i)) (by decide) hm hl du_vals_length (fun i hi j hj => ?_), hl, fun e => by cases e⟩
    have h8 : j = 0 ∨ j = 1 ∨ j = 2 := by omega
    rcases h8 with rfl | rfl | rfl <;> exact (hz i hi _ _ rfl).1
theorem open_cas {fuel : Nat} {cs : List Value} {x : DataW H × List MemPlace} (h : DataW.trod enc Tryz.prog w base spare held fuel 46 cs = some x) :
    ∃ a n cap xs, cs = [.slice a n cap] ∧ Rd Ca.vals 3 w a n xs ∧ n ≤ cap ∧ (a = none → cap = 0) := by
  rcases open_rows (ks := threeKs) Tryz.underlying46 Tryz.underlying45 (by kernel_rfl) (by kernel_rfl) (by kernel_rfl) h with h0 | ⟨a, len, cap, z, hcs, hl, hm, hz⟩
  · exact ⟨none, 0, 0, [], h0, Rd.empty _ _, Nat.le_refl _, fun _ => rfl⟩
  · refine ⟨some a, len, cap, (List.range len).map fun i => caOf (z i), hcs, rd_of_rows (fun i => caOf (z i)) (by decide) hm hl ca_vals_length (fun i hi j hj => ?_), hl, fun e => by cases e⟩
    have h8 : j = 0 ∨ j = 1 ∨ j = 2 := by omega
    rcases h8 with rfl | rfl | rfl <;> exact (hz i hi _ _ rfl).1
set_option maxRecDepth 100000 in
theorem open_po {r : Reach} {b0 : Nat} {v : Value} {d : DataW H} {ps : List MemPlace} (hv : Value.okWide Tryz.prog w r b0 23 v) (h : DataW.Trod enc Tryz.prog w base spare held 23 v d ps) :
    ∃ p : Po, p.Wf ∧ v = .agg #[.int .i64 p.id, .int .i64 p.hour, .int .u8 p.kind, .int .i64 p.party, .int .i64 p.parcel, .int .i64 p.amount, .int .i64 p.reason, .int .i64 p.known] := by
  obtain ⟨cs, rfl, hsz⟩ := okWide_struct Tryz.underlying23 hv
  obtain ⟨l⟩ := cs
  obtain ⟨fuel, hf⟩ := h
  obtain ⟨z, hl, hz⟩ := struct_ints (ks := poKs) Tryz.underlying23 (by kernel_rfl) (by kernel_rfl) (by kernel_rfl) hf
  have hl8 : l.length = 8 := by simpa [Value.cells, poKs] using hl
  have e : ∀ j k, poKs[j]? = some k → l[j]? = some (Value.int k (z j)) := fun j k hjk => by simpa [Value.cells] using (hz j k hjk).1
  match l, hl8, e with
  | [c0, c1, c2, c3, c4, c5, c6, c7], _, e =>
    have e0 := e 0 _ rfl
    have e1 := e 1 _ rfl
    have e2 := e 2 _ rfl
    have e3 := e 3 _ rfl
    have e4 := e 4 _ rfl
    have e5 := e 5 _ rfl
    have e6 := e 6 _ rfl
    have e7 := e 7 _ rfl
    simp at e0 e1 e2 e3 e4 e5 e6 e7
    subst e0 e1 e2 e3 e4 e5 e6 e7
    exact ⟨poOf z, poOf_wf fun j k hjk => (hz j k hjk).2, rfl⟩
end
end Go.Proofs.YtjleembfocghlaaGreatDoor
