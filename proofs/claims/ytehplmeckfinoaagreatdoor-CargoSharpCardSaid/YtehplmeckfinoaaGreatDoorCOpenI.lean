/- Arguments of the laws opened: papers, lists of papers, numbers and weights. -/
import Derived.Test.YtehplmeckfinoaaGreatDoorCAppend
import Derived.Test.YtehplmeckfinoaaGreatDoorCCountIt
import Derived.Test.YtehplmeckfinoaaGreatDoorCSort
import Derived.ProofKit
import Derived.OpenShut
import Derived.Deep.Slices
import Derived.Deep.Fields
import Derived.ChangeSame
set_option linter.unusedSimpArgs false
set_option linter.unusedVariables false
namespace Go.Proofs.YtehplmeckfinoaaGreatDoor
open Go.ChangeShapes Go.WideShapes Go.Deep Go.RowKit
theorem wf_i64' {x : Int} (h : (Lit.int .i64 x).wf = true) : I64 x := by
 unfold I64; simpa [Lit.wf, IntKind.min, IntKind.max, IntKind.signed, IntKind.bits] using h
theorem wf_u8' {x : Int} (h : (Lit.int .u8 x).wf = true) : 0 ≤ x ∧ x ≤ 255 := by
 simpa [Lit.wf, IntKind.min, IntKind.max, IntKind.signed, IntKind.bits] using h
theorem rd_of_rows {α : Type} {E : α → List Value} {w : World} {a : Addr} {len cap : Nat} {k : Nat} (f : Nat → α) (hk : 0 < k) (hm : cap ≤ maxLen) (hl : len ≤ cap) (hE : ∀ x, (E x).length = k)
 (h : ∀ i, i < len → ∀ j, j < k → w.cell? (a.add (i * k + j)) = (E (f i))[j]?) : Rd E k w (some a) len ((List.range len).map f) := by
 refine ⟨by simp, Nat.le_trans hl hm, fun i hi => ?_⟩
 obtain ⟨b, off, spot⟩ := a
 have h0 := h i hi 0 hk
 rw [List.getElem?_eq_getElem (by rw [hE]; exact hk)] at h0
 have hspot : spot = none := by
  have h1 := h 0 (by omega) 0 hk
  rw [List.getElem?_eq_getElem (by rw [hE]; exact hk)] at h1
  simpa [Addr.add] using World.cell?_spot h1
 subst hspot
 have hb := World.block_lt_of_cell? _ _ h0
 rw [Go.WideShapes.add_plain] at hb
 refine ⟨b, off, f i, rfl, hb, by simp [hi], fun j hj => ?_⟩
 rw [← h i hi j hj, Go.WideShapes.add_plain, Nat.add_assoc]
section
variable {H : Type} {enc : TypeId × Value → H} {P : Program} {w : World} {base : Nat} {spare : Nat → Bool} {held : Bool}
theorem one_cell {cs : List Value} {c : Value} {i : Nat} (h : cs[i]? = some c) : (cs.drop i).take 1 = [c] := by
 have hi := (List.getElem?_eq_some_iff.1 h).1
 rw [List.drop_eq_getElem_cons hi, (List.getElem?_eq_some_iff.1 h).2]; rfl
theorem fld_int {k : IntKind} {T : TypeId} {cs : List Value} {c : Value} {i n m : Nat} {ys : List (DataW H × List MemPlace)} (h : DataW.trod enc P w base spare held n T ((cs.drop i).take (P.cellsOf T)) = ys[m]?) (hm : m < ys.length) (hc : P.cellsOf T = 1) (hu : P.underlying T = some (.int k)) (hcs : cs[i]? = some c) :
 ∃ z, c = .int k z ∧ (Lit.int k z).wf = true := by
 rw [hc, one_cell hcs, List.getElem?_eq_getElem hm] at h
 obtain ⟨z, hz, _, hw⟩ := DataW.trod_int hu h
 exact ⟨z, (List.cons.inj hz).1, hw⟩
theorem fld_str {T : TypeId} {cs : List Value} {c : Value} {i n m : Nat} {ys : List (DataW H × List MemPlace)} (h : DataW.trod enc P w base spare held n T ((cs.drop i).take (P.cellsOf T)) = ys[m]?) (hm : m < ys.length) (hc : P.cellsOf T = 1) (hu : P.underlying T = some .string) (hcs : cs[i]? = some c) :
 ∃ l : List UInt8, c = .string ⟨l.toArray⟩ ∧ l.length ≤ 9223372036854775807 := by
 rw [hc, one_cell hcs, List.getElem?_eq_getElem hm] at h
 obtain ⟨s, hs, _, hw⟩ := DataW.trod_string hu h
 unfold maxLen at hw
 refine ⟨s.data.toList, by rw [(List.cons.inj hs).1], ?_⟩
 have e : s.data.toList.length = s.size := Array.length_toList
 omega
theorem fld_two {T : TypeId} {cs : List Value} {c d : Value} {i n m : Nat} {ys : List (DataW H × List MemPlace)} (h : DataW.trod enc P w base spare held n T ((cs.drop i).take (P.cellsOf T)) = ys[m]?) (hm : m < ys.length) (hc : P.cellsOf T = 2) (hcs : cs[i]? = some c) (hcs' : cs[i + 1]? = some d) :
 ∃ y, DataW.trod enc P w base spare held n T [c, d] = some y := by
 have hi := (List.getElem?_eq_some_iff.1 hcs).1
 have hi' := (List.getElem?_eq_some_iff.1 hcs').1
 have e : (cs.drop i).take 2 = [c, d] := by
  rw [List.drop_eq_getElem_cons hi, List.drop_eq_getElem_cons hi', (List.getElem?_eq_some_iff.1 hcs).2, (List.getElem?_eq_some_iff.1 hcs').2]; rfl
 rw [hc, e, List.getElem?_eq_getElem hm] at h
 exact ⟨_, h⟩
theorem open_rowsG {α : Type} [Inhabited α] {E : α → List Value} {Q : α → Prop} {k : Nat} {t e : TypeId} {fuel : Nat} {cs : List Value} {x : DataW H × List MemPlace} (ht : P.underlying t = some (.slice e)) (hk : P.cellsOf e = k) (hk0 : 0 < k)
 (hdec : ∀ fuel cs x, DataW.trod enc P w base spare held fuel e cs = some x → ∃ p : α, Q p ∧ cs = E p) (hE : ∀ p, (E p).length = k) (h : DataW.trod enc P w base spare held fuel t cs = some x) :
 ∃ a n cap xs, cs = [.slice a n cap] ∧ Rd E k w a n xs ∧ ((∀ p ∈ xs, Q p) ∧ (a = none → cap = 0)) ∧ n ≤ cap := by
 rcases open_slice ht h with h0 | ⟨a, len, cap, m, n, D, Pl, hcs, hb, hl, hm, hmm, hx, hi⟩
 · exact ⟨none, 0, 0, [], h0.1, Rd.empty _ _, ⟨fun p hp => by simp at hp, fun _ => rfl⟩, Nat.le_refl _⟩
 · have key : ∀ i, ∃ p : α, i < len → Q p ∧ ∀ j, j < k → w.cell? (a.add (i * k + j)) = (E p)[j]? := fun i => by
    by_cases hil : i < len
    · have him : i < m := by rw [hmm]; split <;> omega
      obtain ⟨cs', hc, ht'⟩ := hi i him
      obtain ⟨p, hq, rfl⟩ := hdec _ _ _ ht'
      rw [hk] at hc
      obtain ⟨_, hcl, hat⟩ := World.cells?_some hc
      refine ⟨p, fun _ => ⟨hq, fun j hj => ?_⟩⟩
      rw [← Go.Deep.add_add, hat j (by omega)]
    · exact ⟨default, fun h => absurd h hil⟩
   refine ⟨some a, len, cap, (List.range len).map fun i => Classical.choose (key i), hcs, rd_of_rows (fun i => Classical.choose (key i)) hk0 hm hl hE (fun i hil => (Classical.choose_spec (key i) hil).2), ⟨fun p hp => ?_, fun e => by cases e⟩, hl⟩
   obtain ⟨i, hi', rfl⟩ := List.mem_map.1 hp
   exact (Classical.choose_spec (key i) (List.mem_range.1 hi')).1
end
def PaW (p : Pa) : Prop := (p.mark.length ≤ 9223372036854775807 ∧ p.goods.length ≤ 9223372036854775807) ∧ 0 ≤ p.kind ∧ p.kind ≤ 255
def CkPost (w : World) (V : Bool) (E : Int) (e : Ending) (w' : World) : Prop := e = .returned (.tuple #[.bool V, .int .i64 E]) ∧ Below w.heap.size w w'
def weiV (p : Int × Int) : List Value := [.int .i64 p.1, .int .i64 p.2]
theorem cells_pa : Tryz.prog.cellsOf 42 = 14 := by kernel_rfl
theorem cells_span : Tryz.prog.cellsOf 32 = 2 := by kernel_rfl
theorem cells_int : Tryz.prog.cellsOf 3 = 1 := by kernel_rfl
theorem cells_u8 : Tryz.prog.cellsOf 5 = 1 := by kernel_rfl
theorem cells_str : Tryz.prog.cellsOf 9 = 1 := by kernel_rfl
section
variable {H : Type} {enc : TypeId × Value → H} {w : World} {base : Nat} {spare : Nat → Bool} {held : Bool}
set_option maxRecDepth 100000 in
theorem pa_trod {fuel : Nat} {cs : List Value} {x : DataW H × List MemPlace} (h : DataW.trod enc Tryz.prog w base spare held fuel 42 cs = some x) : ∃ p : Pa, PaW p ∧ cs = p.vals := by
 obtain ⟨ys, n, _, _, hlen, hyl, hat⟩ := DataW.trod_struct Tryz.underlying42 h
 rw [cells_pa] at hlen
 have hy : ys.length = 13 := hyl
 match cs, hlen, hat with
 | [A0, A1, A2, A3, A4, A5, A6, A7, A8, A9, A10, A11, A12, A13], _, hat =>
   obtain ⟨x0, rfl, e0⟩ := (fld_int (hat 0 _ rfl) (by omega) cells_int Tryz.underlying3 (c := A0) rfl)
   obtain ⟨x1, rfl, e1⟩ := (fld_int (hat 1 _ rfl) (by omega) cells_int Tryz.underlying3 (c := A1) rfl)
   obtain ⟨x2, rfl, e2⟩ := (fld_int (hat 2 _ rfl) (by omega) cells_u8 Tryz.underlying5 (c := A2) rfl)
   obtain ⟨x3, rfl, e3⟩ := (fld_int (hat 3 _ rfl) (by omega) cells_int Tryz.underlying3 (c := A3) rfl)
   obtain ⟨x4, rfl, e4⟩ := (fld_int (hat 4 _ rfl) (by omega) cells_int Tryz.underlying3 (c := A4) rfl)
   obtain ⟨x5, rfl, e5⟩ := (fld_int (hat 5 _ rfl) (by omega) cells_int Tryz.underlying3 (c := A5) rfl)
   obtain ⟨x6, rfl, e6⟩ := (fld_str (hat 6 _ rfl) (by omega) cells_str Tryz.underlying9 (c := A6) rfl)
   obtain ⟨x7, rfl, e7⟩ := (fld_str (hat 7 _ rfl) (by omega) cells_str Tryz.underlying9 (c := A7) rfl)
   obtain ⟨y8, h8⟩ := fld_two (hat 8 _ rfl) (show 8 < ys.length by omega) cells_span (c := A8) (d := A9) rfl rfl
   obtain ⟨zs, n2, _, _, _, hzl, hat2⟩ := DataW.trod_struct Tryz.underlying32 h8
   have hz : zs.length = 2 := hzl
   obtain ⟨x8, rfl, e8⟩ := fld_int (hat2 0 _ rfl) (by omega) cells_int Tryz.underlying3 (c := A8) rfl
   obtain ⟨x9, rfl, e9⟩ := fld_int (hat2 1 _ rfl) (by omega) cells_int Tryz.underlying3 (c := A9) rfl
   obtain ⟨x10, rfl, e10⟩ := (fld_int (hat 9 _ rfl) (by omega) cells_int Tryz.underlying3 (c := A10) rfl)
   obtain ⟨x11, rfl, e11⟩ := (fld_int (hat 10 _ rfl) (by omega) cells_int Tryz.underlying3 (c := A11) rfl)
   obtain ⟨x12, rfl, e12⟩ := (fld_int (hat 11 _ rfl) (by omega) cells_int Tryz.underlying3 (c := A12) rfl)
   obtain ⟨x13, rfl, e13⟩ := (fld_int (hat 12 _ rfl) (by omega) cells_int Tryz.underlying3 (c := A13) rfl)
   exact ⟨⟨x0, x1, x2, x3, x4, x5, x6, x7, x8, x9, x10, x11, x12, x13⟩, ⟨⟨e6, e7⟩, wf_u8' e2⟩, rfl⟩
theorem open_pas {fuel : Nat} {cs : List Value} {x : DataW H × List MemPlace} (h : DataW.trod enc Tryz.prog w base spare held fuel 22 cs = some x) :
 ∃ a n cap xs, cs = [.slice a n cap] ∧ Rd Pa.vals 14 w a n xs ∧ ((∀ p ∈ xs, PaW p) ∧ (a = none → cap = 0)) ∧ n ≤ cap :=
 open_rowsG Tryz.underlying22 cells_pa (by decide) (fun _ _ _ h => pa_trod h) Pa.vals_length h
set_option maxRecDepth 100000 in
theorem open_pa {r : Reach} {b0 : Nat} {v : Value} {d : DataW H} {ps : List MemPlace} (hv : Value.okWide Tryz.prog w r b0 42 v) (h : DataW.Trod enc Tryz.prog w base spare held 42 v d ps) :
 ∃ p : Pa, PaW p ∧ v = .agg #[.int .i64 p.id, .int .i64 p.known, .int .u8 p.kind, .int .i64 p.loss, .int .i64 p.pack, .int .i64 p.inn, .string ⟨p.mark.toArray⟩, .string ⟨p.goods.toArray⟩, .int .i64 p.low, .int .i64 p.high, .int .i64 p.pieces, .int .i64 p.owner, .int .i64 p.count, .int .i64 p.of] := by
 obtain ⟨cs, rfl, hsz⟩ := okWide_struct Tryz.underlying42 hv
 obtain ⟨l⟩ := cs
 obtain ⟨fuel, hf⟩ := h
 obtain ⟨p, hp, he⟩ := pa_trod hf
 have he' : l = p.vals := by simpa [Value.cells] using he
 subst he'
 exact ⟨p, hp, rfl⟩
end
section
variable {H : Type} {enc : TypeId × Value → H} {w : World} {base : Nat} {spare : Nat → Bool} {held : Bool}
theorem int_trod {fuel : Nat} {cs : List Value} {x : DataW H × List MemPlace} (h : DataW.trod enc Tryz.prog w base spare held fuel 3 cs = some x) : ∃ p : Int, True ∧ cs = ints p := by
 obtain ⟨z, hz, _, _⟩ := DataW.trod_int Tryz.underlying3 h
 exact ⟨z, trivial, hz⟩
theorem open_ints {fuel : Nat} {cs : List Value} {x : DataW H × List MemPlace} (h : DataW.trod enc Tryz.prog w base spare held fuel 43 cs = some x) :
 ∃ a n cap xs, cs = [.slice a n cap] ∧ Rd ints 1 w a n xs ∧ ((∀ p ∈ xs, True) ∧ (a = none → cap = 0)) ∧ n ≤ cap :=
 open_rowsG Tryz.underlying43 cells_int (by decide) (fun _ _ _ h => int_trod h) ints_length h
end
end Go.Proofs.YtehplmeckfinoaaGreatDoor
