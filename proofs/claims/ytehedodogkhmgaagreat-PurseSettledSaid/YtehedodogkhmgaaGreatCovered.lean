/- The walks of slices.IndexFunc and slices.DeleteFunc of numbers. -/
import Derived.Test.YtehedodogkhmgaaGreatDelete
import Derived.Test.YtehedodogkhmgaaGreatParcels
import Derived.Test.YtehedodogkhmgaaGreatRefP
import Derived.Test.YtehedodogkhmgaaGreatRefH
set_option linter.unusedSimpArgs false
set_option linter.unusedVariables false
namespace Go.Proofs.YtehedodogkhmgaaGreat
open Go.RowKit Go.Shelf

set_option maxRecDepth 100000 in
set_option maxHeartbeats 4000000 in
theorem indexInt_any (g : Nat) (cb : Array Value) (eg : ∀ args w, (callFunc g args).run Tryz.prog w = .ok (.enter g args) w) (p : Int → Bool) (a : Option Addr) (n cap : Nat) (xs : List (Int)) (w : World) (h : Rd ints 1 w a n xs)
    (hp : ∀ W x, x ∈ xs → Below w.heap.size w W → Calls Tryz.prog g (#[Value.int .i64 x] ++ cb) W fun e W' => e = .returned (.bool (p x)) ∧ Below W.heap.size W W') :
    Calls Tryz.prog 125 #[.slice a n cap, .func (.func g) #[] cb] w fun e w' => e = .returned (.int .i64 (idxI p xs)) ∧ Below w.heap.size w w' := by
  have Hl := Lib.hid h.len
  have hm := h.cap
  unfold maxLen at hm
  have HP := Lib.hid hp
  clear hp
  go_enter Tryz.func125, Tryz.ntmps125
  go_wp2_with fail
  go_loopw [8] (fun i wr => ∃ k : Nat, k ≤ n ∧ i = .int .i64 k ∧ (xs.take k).any p = false ∧ Below w.heap.size w wr) (fun i _ => n - (intOf i).toNat)
  case atStart => exact ⟨0, Nat.zero_le _, rfl, rfl, Below.refl _ _⟩
  case round =>
    obtain ⟨k, hk, rfl, hno, hB⟩ := hrel
    have h1 := h.below' hB
    have HB := Lib.hid hB
    have Hno := Lib.hid hno
    clear hno hB h
    by_cases hlt : k < n
    · obtain ⟨b, off, x, rfl, hb, hx, x0⟩ := h1.int hlt
      have Hx := Lib.hid hx
      have hcall := HP.out wr x (List.mem_of_getElem? hx) HB.out
      clear hx
      cases hpx : p x with
      | true =>
        rw [hpx] at hcall
        have HE := Lib.hid (idxI_at Hx.out Hno.out hpx)
        clear hpx
        go_wp2_with (go_at_fn g; refine hcall.mono ?_; rintro e w' ⟨rfl, hB2⟩)
        go_ret
        exact ⟨ret_int HE.out.symm, below_then HB.out hB2 (Nat.le_refl _)⟩
      | false =>
        rw [hpx] at hcall
        have HE := Lib.hid (show (xs.take (k + 1)).any p = false by rw [any_take_snoc Hx.out, Hno.out, hpx]; rfl)
        clear hpx
        go_wp2_with (go_at_fn g; refine hcall.mono ?_; rintro e w' ⟨rfl, hB2⟩)
        exact ⟨⟨k + 1, by omega, by go_num, HE.out, below_then HB.out hB2 (Nat.le_refl _)⟩, by simp [intOf]; omega⟩
    · go_wp2_with fail
      go_ret
      exact ⟨ret_int (by rw [idxI_none (by have := Hno.out; rwa [List.take_of_length_le (by rw [Hl.out]; omega)] at this)]), HB.out⟩

section
variable {W W' : World} {base g cap n m : Nat} {e : TypeId} {k : Nat}
theorem ownI_set {cs : List Int} (h : W.ownsRow base e 1 (.slice (some ⟨g, 0, none⟩) n cap) n (cs.flatMap ints)) (hl : cs.length = n) {i : Nat} (hi : i < n) (x : Int) :
    (W.setCell ⟨g, i, none⟩ (.int .i64 x)).ownsRow base e 1 (.slice (some ⟨g, 0, none⟩) n cap) n ((cs.set i x).flatMap ints) := by
  rcases h.2 with ⟨h1, _⟩ | ⟨g', cap', cur, hv, hb, hg, hc, hx, hs, ht⟩
  · cases h1
  · injection hv with h1 h2 h3
    cases h1; cases h3
    have hf := flat_length ints_length (cs.set i x)
    rw [List.length_set, hl] at hf
    refine ⟨hf, .inr ⟨g, cap, cur.setIfInBounds i (.int .i64 x), rfl, hb, ?_, hc, hx, by simp [hs], ?_⟩⟩
    · simp [World.setCell, Array.getElem?_modify, hg]
    · apply List.ext_getElem?
      intro t
      by_cases htn : t < n * 1
      · have hcur : t < cur.size := by rw [hs]; omega
        have hset : t < (cs.set i x).length := by rw [List.length_set, hl]; omega
        have hcs : t < cs.length := by omega
        have e1 := flat_at ints_length (cs.set i x) t _ 0 (List.getElem?_eq_getElem hset) (by omega)
        have e2 := flat_at ints_length cs t _ 0 (List.getElem?_eq_getElem hcs) (by omega)
        rw [show t * 1 + 0 = t by omega] at e1 e2
        have e3 : (cur.toList.take (n * 1))[t]? = (cs.flatMap ints)[t]? := by rw [ht]
        rw [List.getElem?_take_of_lt htn, Array.getElem?_toList] at e3
        rw [List.getElem?_take_of_lt htn, Array.getElem?_toList, e1, Array.getElem?_setIfInBounds, List.getElem_set]
        by_cases hti : i = t
        · subst hti
          rw [if_pos rfl]; simp [ints, show i < cur.size by omega]
        · rw [if_neg hti, if_neg (by omega), e3, e2]
      · rw [List.getElem?_take_eq_none (by omega), List.getElem?_eq_none (by rw [hf]; omega)]
theorem ownI_cell {cs : List Int} (h : W.ownsRow base e 1 (.slice (some ⟨g, 0, none⟩) n cap) n (cs.flatMap ints)) (hl : cs.length = n) {i : Nat} (hi : i < n) :
    (∃ x, cs[i]? = some x ∧ W.cell? ⟨g, i, none⟩ = some (.int .i64 x)) ∧ (∀ j, W.frozen? ⟨g, j, none⟩ = false) ∧ base ≤ g ∧ g < W.heap.size ∧ n ≤ cap := by
  have h0 := h
  rcases h.2 with ⟨h1, _⟩ | ⟨g', cap', cur, hv, hb, hg, hc, hx, hs, ht⟩
  · cases h1
  · injection hv with h1 h2 h3
    cases h1; cases h3
    refine ⟨⟨cs[i], List.getElem?_eq_getElem (by omega), ?_⟩, fun j => by simp [World.frozen?, hg], hb, (Array.getElem?_eq_some_iff.1 hg).1, hc⟩
    have := h0.cells (g := g) rfl (i * 1 + 0) (.int .i64 cs[i]) (by rw [flat_at ints_length cs i _ 0 (List.getElem?_eq_getElem (by omega)) (by omega)]; rfl)
    rw [Addr.add_lit] at this; simpa using this
end
theorem zeroCellsI_one (n : Nat) : ∀ v ∈ (Builtin.zeroCells #[Value.int .i64 0] n).toList, v.oneCell' = true := by
  intro v hv
  simp [Builtin.zeroCells] at hv
  obtain ⟨a, _, ha⟩ := hv
  rw [show a % 1 = 0 by omega] at ha; subst ha; rfl
theorem zeroCellsI_len (n : Nat) : (Builtin.zeroCells #[Value.int .i64 0] n).toList.length = n * 1 := by simp [Builtin.zeroCells]
theorem run_clear_int (w : World) (ty : TypeId) (b o n c : Nat) (hn : 0 < n) (hc : ∀ j, j < n * 1 → (w.cell? ⟨b, o + j, none⟩).isSome = true) (hf : ∀ j, j < n * 1 → w.frozen? ⟨b, o + j, none⟩ = false) :
    (Builtin.clear_ #[39] ty #[.slice (some ⟨b, o, none⟩) n c]).run Tryz.prog w = .ok (.tuple #[]) (w.setCells b o (Builtin.zeroCells #[Value.int .i64 0] n).toList) := by
  have hst := run_storeCells_cells (P := Tryz.prog) b o (Builtin.zeroCells #[Value.int .i64 0] n).toList 0 w (by rw [zeroCellsI_len]; simpa using hc) (by rw [zeroCellsI_len]; simpa using hf) (zeroCellsI_one n)
  simp only [Nat.add_zero] at hst
  obtain ⟨m, rfl⟩ : ∃ m, n = m + 1 := ⟨n - 1, by omega⟩
  simp [Builtin.clear_, run_underlying Tryz.underlying39, zeroInt, Value.cells, hst]

set_option maxRecDepth 100000 in
set_option maxHeartbeats 4000000 in
theorem deleteInt_any (g : Nat) (cb : Array Value) (eg : ∀ args w, (callFunc g args).run Tryz.prog w = .ok (.enter g args) w) (p : Int → Bool) (base : Nat) (v : Value) (ss : List (Int)) (w : World)
    (hrow : w.ownsRow base 3 1 v ss.length (ss.flatMap ints)) (hn : ss.length ≤ 1000000)
    (hp : ∀ W x, x ∈ ss → w.grownBy W v.ownBlock → Calls Tryz.prog g (#[Value.int .i64 x] ++ cb) W fun e W' => e = .returned (.bool (p x)) ∧ Below W.heap.size W W') :
    Calls Tryz.prog 102 #[v, .func (.func g) #[] cb] w fun e w' => ∃ v', e = .returned v' ∧
      w'.ownsRow base 3 1 v' (ss.filter (fun x => !p x)).length ((ss.filter (fun x => !p x)).flatMap ints) ∧ w.grownBy w' v.ownBlock := by
  obtain ⟨a, cap, rfl, hcap, hrd, hlow⟩ := Rd.of_own hrow ints_length (by omega) rfl (by unfold maxLen; omega)
  have hidx := indexInt_any g cb eg p a ss.length cap ss w hrd (fun W x hx hB => hp W x hx ⟨hB.os, hB.tape, hB.output, hB.size, fun k hk _ => hB.block k hk⟩)
  rcases findIdx_facts (p := p) (xs := ss) with ⟨e1, e2⟩ | ⟨i0, hi0, e1, e2⟩
  · rw [e1] at hidx
    rw [e2]
    clear e1 e2
    have HR := Lib.hid hrow
    clear hp hrow hrd hlow
    go_enter Tryz.func102, Tryz.ntmps102
    go_wp2_with (go_at_call 125; refine hidx.mono ?_; rintro e w' ⟨rfl, hB⟩)
    go_ret
    exact ⟨_, rfl, HR.out.kept (grown_of_below hB) (by cases a with | none => exact .inl rfl | some q => exact .inr (by simp [Value.ownBlock])), ⟨hB.os, hB.tape, hB.output, hB.size, fun k hk _ => hB.block k hk⟩⟩
  · rw [e1] at hidx
    obtain ⟨b, off, x00, rfl, _⟩ := hrd.int hi0
    have hoff : off = 0 := by
      rcases hrow.2 with ⟨h1, _⟩ | ⟨g', cap', cur, hv, _⟩
      · cases h1
      · injection hv with h1; injection h1 with h1; injection h1
    subst hoff
    have HP := Lib.hid hp
    have HE2 := Lib.hid e2
    have hn9 : ss.length ≤ 9223372036854775807 := by omega
    have hne1 : ((i0 : Int) == -1) = false := beq_eq_false_iff_ne.2 (by omega)
    obtain ⟨hbase, hblt⟩ := hlow _ rfl
    have HR := Lib.hid hrow
    clear hp e1 e2 hrd hlow hrow
    obtain ⟨N, hN⟩ : ∃ N, ss.length = N := ⟨_, rfl⟩
    rw [hN] at hidx HR hn9 hcap hi0 hn
    have HNl := Lib.hid hN
    rw [hN]
    clear hN
    go_enter Tryz.func102, Tryz.ntmps102
    go_wp2_with (go_at_call 125; refine hidx.mono ?_; rintro e w' ⟨rfl, hB⟩)
    have HB := Lib.hid hB
    clear hB hidx
    have HR1 := Lib.hid (HR.out.kept (grown_of_below HB.out) (.inr (by simp [Value.ownBlock])))
    have Hg1 := Lib.hid (show w.grownBy w' (some b) from ⟨HB.out.os, HB.out.tape, HB.out.output, HB.out.size, fun k hk _ => HB.out.block k hk⟩)
    go_loopw [5, 6, 7] (fun si sj _ wr => ∃ (i j : Nat) (cs : List (Int)), si = .int .i64 i ∧ sj = .int .i64 j ∧ i < j ∧ j ≤ N ∧ cs.length = N ∧ wr.ownsRow base 3 1 (.slice (some ⟨b, 0, none⟩) N cap) N (cs.flatMap ints) ∧
      cs.take i = (ss.take j).filter (fun x => !p x) ∧ cs.drop j = ss.drop j ∧ w.grownBy wr (some b)) (fun _ sj _ _ => N - (intOf sj).toNat)
    case atStart => exact ⟨i0, i0 + 1, ss, rfl, by go_num, by omega, by omega, HNl.out, HR1.out, HE2.out.symm, rfl, Hg1.out⟩
    case round =>
      obtain ⟨i, j, cs, rfl, rfl, hij, hjn, hcl, hown, htk, hdr, hgr⟩ := hrel
      have HO := Lib.hid hown
      have HTk := Lib.hid htk
      have HDr := Lib.hid hdr
      have HGr := Lib.hid hgr
      have HCl := Lib.hid hcl
      clear hown htk hdr hgr HR1 Hg1 HB
      by_cases hlt : j < N
      · obtain ⟨⟨x, hx, x0⟩, hfz, _, hbw, _⟩ := ownI_cell HO.out HCl.out hlt
        obtain ⟨⟨y, hy, y0⟩, _⟩ := ownI_cell HO.out HCl.out (show i < N by omega)
        have hj0 : (0 : Int) ≤ (j : Int) := by omega
        have hsx : ss[j]? = some x := by
          have h1 : (cs.drop j)[0]? = (ss.drop j)[0]? := by rw [HDr.out]
          rw [List.getElem?_drop, List.getElem?_drop] at h1
          simpa [hx] using h1.symm
        have hdr' : cs.drop (j + 1) = ss.drop (j + 1) := by rw [← List.drop_drop, ← List.drop_drop, HDr.out]
        have HDr' := Lib.hid hdr'
        have Hsx := Lib.hid hsx
        have hcall := HP.out wr x (List.mem_of_getElem? hsx) HGr.out
        clear hdr' hsx hx hy
        cases hpx : p x with
        | true =>
          rw [hpx] at hcall
          have HF := Lib.hid (show (ss.take (j + 1)).filter (fun x => !p x) = (ss.take j).filter (fun x => !p x) by rw [take_succ_snoc Hsx.out]; simp [hpx])
          clear hpx
          go_wp2_with (go_at_fn g; refine hcall.mono ?_; rintro e w2 ⟨rfl, hB2⟩)
          refine ⟨⟨i, j + 1, cs, rfl, by go_num, by omega, by omega, HCl.out, ?_, ?_, HDr'.out, ?_⟩, by simp [intOf]; omega⟩
          · exact HO.out.kept (grown_of_below hB2) (.inr (by simp [Value.ownBlock]))
          · rw [HF.out]; exact HTk.out
          · exact HGr.out.trans (grown_of_below hB2 |>.but _)
        | false =>
          rw [hpx] at hcall
          have HF := Lib.hid (show (ss.take (j + 1)).filter (fun x => !p x) = (ss.take j).filter (fun x => !p x) ++ [x] by rw [take_succ_snoc Hsx.out]; simp [hpx])
          clear hpx
          go_wp2_with (go_at_fn g; refine hcall.mono ?_; rintro e w2 ⟨rfl, hB2⟩; have HO2 := Lib.hid (HO.out.kept (grown_of_below hB2) (.inr (by simp [Value.ownBlock]))); obtain ⟨⟨y2, _, v0⟩, hfz2, _, hbw2, _⟩ := ownI_cell HO2.out HCl.out (show i < N by omega); have hfa := hfz2 i; clear hfz2)
          have HG2 := Lib.hid (HGr.out.trans ((grown_of_below hB2).but (some b)))
          refine ⟨⟨i + 1, j + 1, cs.set i x, by go_num, by go_num, by omega, by omega, by rw [List.length_set]; exact HCl.out, ownI_set HO2.out HCl.out (by omega) x, ?_, ?_, ?_⟩, by simp [intOf]; omega⟩
          · rw [HF.out, ← HTk.out]
            have hil : i < cs.length := by rw [HCl.out]; omega
            rw [List.take_add_one, List.take_set_of_le (Nat.le_refl _)]
            simp [hil]
          · rw [List.drop_set_of_lt (by omega)]; exact HDr'.out
          · exact HG2.out.trans (grownBy_setCell'' _ _ _ _)
      · obtain rfl : j = N := by omega
        obtain ⟨⟨y, hy, y0⟩, hfz, _, hbw, hcap2⟩ := ownI_cell HO.out HCl.out (show i < j by omega)
        have hclr : ∀ ty, (Builtin.clear_ #[39] ty #[.slice (some ⟨b, i, none⟩) (j - i) (cap - i)]).run Tryz.prog wr = .ok (.tuple #[]) (wr.setCells b i (Builtin.zeroCells #[Value.int .i64 0] (j - i)).toList) := fun ty =>
          run_clear_int wr ty b i (j - i) (cap - i) (by omega) (fun t ht => by
            obtain ⟨⟨z, _, z0⟩, _⟩ := ownI_cell HO.out HCl.out (show i + t < j by omega)
            rw [z0]; rfl) (fun t ht => hfz _)
        have hi1 : (0 : Int) ≤ (i : Int) := by omega
        have hi2 : (i : Int) ≤ (j : Int) := by omega
        have hi3 : (j : Int) ≤ (cap : Int) := by omega
        have hcne : cap ≠ i := by omega
        clear hfz hbw hy y0
        go_wp2
        go_ret
        have HF := HTk.out
        rw [List.take_of_length_le (show ss.length ≤ j by rw [HNl.out]; omega)] at HF
        have hfl : (ss.filter (fun x => !p x)).length = i := by rw [← HF, List.length_take, HCl.out]; omega
        refine ⟨_, rfl, ?_, HGr.out.trans (grown_setCells _ _ _)⟩
        rw [hfl, ← HF]
        have hc1 := own_cut HO.out (show i ≤ j by omega)
        have hc2 : (cs.flatMap ints).take (i * 1) = (cs.take i).flatMap ints := flat_take ints_length cs i
        rw [hc2] at hc1
        exact own_past_cells _ _ _ hc1 (by omega)
end Go.Proofs.YtehedodogkhmgaaGreat

/- The walk of the reference's Covered. -/
set_option linter.unusedSimpArgs false
set_option linter.unusedVariables false
namespace Go.Proofs.YtehedodogkhmgaaGreat
open Go.RowKit Go.Shelf

/-- what is due for a parcel -/
def dueStep (what n : Int) (x : Du) : Int := if x.parcel = what then n + x.amount else n
def dueSum (d : List Du) (what : Int) : Int := d.foldl (dueStep what) 0
theorem dueSum_snoc (d : List Du) (x : Du) (what : Int) : dueSum (d ++ [x]) what = dueStep what (dueSum d what) x := by simp [dueSum]
theorem dueSum_bd {d : List Du} (h : ∀ x ∈ d, okDu x = true) (what : Int) : 0 ≤ dueSum d what ∧ dueSum d what ≤ 1000000000 * (d.length : Int) := by
  suffices H : ∀ (l : List Du) (n : Int), (∀ x ∈ l, okDu x = true) → n ≤ l.foldl (dueStep what) n ∧ l.foldl (dueStep what) n ≤ n + 1000000000 * (l.length : Int) by
    have := H d 0 h
    unfold dueSum
    omega
  intro l
  induction l with
  | nil => intro n _; simp
  | cons x r ih =>
    intro n hx
    have h1 := (okDu_facts (hx x (by simp))).2.2
    have := ih (dueStep what n x) (fun y hy => hx y (by simp [hy]))
    simp only [List.foldl_cons, List.length_cons]
    have hs : n ≤ dueStep what n x ∧ dueStep what n x ≤ n + 1000000000 := by unfold dueStep; split <;> omega
    push_cast
    omega
def covStep (xs : List Po) (d : List Du) (l : List Int) (x : Du) : List Int := if soldL xs x.parcel < dueSum d x.parcel then putL l x.parcel else l
def covR (xs : List Po) (d : List Du) : List Int := d.foldl (covStep xs d) []
theorem covFold_sorted (xs : List Po) (d : List Du) : ∀ (l : List Du) (m : List Int), m.Pairwise (· < ·) → (l.foldl (covStep xs d) m).Pairwise (· < ·)
  | [], m, h => h
  | x :: r, m, h => by
    rw [List.foldl_cons]
    refine covFold_sorted xs d r _ ?_
    unfold covStep
    split
    · exact putL_sorted h _
    · exact h
theorem covFold_len (xs : List Po) (d : List Du) : ∀ (l : List Du) (m : List Int), (l.foldl (covStep xs d) m).length ≤ m.length + l.length
  | [], m => by simp
  | x :: r, m => by
    rw [List.foldl_cons, List.length_cons]
    have h1 := covFold_len xs d r (covStep xs d m x)
    have h2 : (covStep xs d m x).length ≤ m.length + 1 := by
      unfold covStep
      split
      · exact putL_len m x.parcel
      · omega
    omega
theorem covFold_mem (xs : List Po) (d : List Du) (k : Int) : ∀ (l : List Du) (m : List Int), k ∈ l.foldl (covStep xs d) m ↔ k ∈ m ∨ ((∃ x ∈ l, x.parcel = k) ∧ soldL xs k < dueSum d k)
  | [], m => by simp
  | x :: r, m => by
    rw [List.foldl_cons, covFold_mem xs d k r]
    unfold covStep
    by_cases h : soldL xs x.parcel < dueSum d x.parcel
    · rw [if_pos h, putL_mem]
      constructor
      · rintro ((e | e) | ⟨⟨y, hy, e⟩, h2⟩)
        · right; exact ⟨⟨x, by simp, e.symm⟩, by rw [e]; exact h⟩
        · exact .inl e
        · exact .inr ⟨⟨y, by simp [hy], e⟩, h2⟩
      · rintro (e | ⟨⟨y, hy, e⟩, h2⟩)
        · exact .inl (.inr e)
        · rcases List.mem_cons.1 hy with rfl | hy
          · exact .inl (.inl e.symm)
          · exact .inr ⟨⟨y, hy, e⟩, h2⟩
    · rw [if_neg h]
      constructor
      · rintro (e | ⟨⟨y, hy, e⟩, h2⟩)
        · exact .inl e
        · exact .inr ⟨⟨y, by simp [hy], e⟩, h2⟩
      · rintro (e | ⟨⟨y, hy, e⟩, h2⟩)
        · exact .inl e
        · rcases List.mem_cons.1 hy with rfl | hy
          · rw [← e] at h2; exact absurd h2 h
          · exact .inr ⟨⟨y, hy, e⟩, h2⟩

def CoveredPost (w : World) (xs : List Po) (d : List Du) (e : Ending) (w' : World) : Prop :=
  Below w.heap.size w w' ∧ ∃ a n cap, e = .returned (.tuple #[.slice a n cap, .int .i64 (cmpE xs d)]) ∧ Rd ints 1 w' a n (if cmpE xs d = 0 then covR xs d else [])

set_option maxRecDepth 100000 in
set_option maxHeartbeats 8000000 in
theorem rCovered_any (a : Option Addr) (n cap : Nat) (xs : List Po) (a' : Option Addr) (n' cap' : Nat) (d : List Du) (w : World) (h : Rd Po.vals 8 w a n xs) (hn : n ≤ 1000) (hcap : n ≤ cap) (h' : Rd Du.vals 3 w a' n' d) :
    Calls Tryz.prog 41 #[.slice a n cap, .slice a' n' cap'] w (CoveredPost w xs d) := by
  have H := Lib.hid h
  have H' := Lib.hid h'
  have Hl := Lib.hid h.len
  have Hl' := Lib.hid h'.len
  clear h h'
  go_enter Tryz.func41, Tryz.ntmps41
  go_wp2_with fail
  refine (rcompared_any a n cap xs a' n' cap' d _ H.out hn hcap H'.out).mono ?_
  rintro e w1 ⟨rfl, hB⟩
  have HB := Lib.hid hB
  by_cases hc : cmpE xs d = 0
  case neg =>
    have hc1 : (cmpE xs d == 0) = false := by simp [hc]
    have HC := Lib.hid hc
    clear hc hB
    go_wp2_with fail
    go_loopw [7, 8] (fun v i wr => v = .slice none 0 0 ∧ i = .int .i64 0 ∧ wr = w1) (fun _ i _ => (intOf i).toNat)
    case atStart => exact ⟨rfl, rfl, rfl⟩
    case round =>
      obtain ⟨rfl, rfl, rfl⟩ := hrel
      by_cases hn0 : 0 < n'
      · have hn1 : (0 : Int) < (n' : Int) := by omega
        go_wp2_with fail
        go_ret2
        exact ⟨HB.out, none, 0, 0, rfl, by rw [if_neg HC.out]; exact Rd.empty _ _⟩
      · have hn1 : ¬ (0 : Int) < (n' : Int) := by omega
        go_wp2_with fail
        go_ret2
        exact ⟨HB.out, none, 0, 0, rfl, by rw [if_neg HC.out]; exact Rd.empty _ _⟩
  have HC := Lib.hid hc
  obtain ⟨h1, h2⟩ := cmpE_0 hc
  have HA := Lib.hid (checkL_okl h1).am
  have HD := Lib.hid (goodB_all (chkDu_ok h2).2)
  have hdl : n' ≤ 400 := by rw [← Hl'.out]; exact (chkDu_ok h2).1
  have H1 := Lib.hid (H.out.below' hB)
  have H1' := Lib.hid (H'.out.below' hB)
  rw [hc]
  clear hB hc h1 h2
  go_wp2_with fail
  go_loopw [7, 8] (fun v i wr => ∃ k : Nat, k ≤ n' ∧ i = .int .i64 k ∧ PutPost w1 ((d.take k).foldl (covStep xs d) []) (.returned v) wr) (fun _ i _ => n' - (intOf i).toNat)
  case atStart => exact ⟨0, Nat.zero_le _, rfl, none, 0, 0, rfl, Rd.empty _ _, Nat.le_refl _, fun _ => rfl, (fun q e => by cases e), Below.refl _ _⟩
  case round =>
    obtain ⟨k, hk, rfl, pa, pm, pc, he, hpr, hpc, hpz, hpq, hB⟩ := hrel
    cases he
    obtain ⟨wo, rfl⟩ : ∃ wo : World, wo = wr := ⟨_, rfl⟩
    have HPr := Lib.hid hpr
    have HPz := Lib.hid hpz
    have HPq := Lib.hid hpq
    have HB2 := Lib.hid hB
    have H2 := Lib.hid (H1.out.below' hB)
    have H2' := Lib.hid (H1'.out.below' hB)
    have hpm : pm ≤ 400 := by
      have h1 := hpr.len
      have h2 := covFold_len xs d (d.take k) []
      rw [List.length_take] at h2
      simp at h2
      omega
    clear hpr hpz hpq hB
    by_cases hlt : k < n'
    case neg =>
      have hlt' : ¬ (k : Int) < (n' : Int) := by omega
      have hke : d.take k = d := List.take_of_length_le (by rw [Hl'.out]; omega)
      rw [hke] at HPr
      clear hke
      go_wp2_with fail
      go_ret2
      exact ⟨below_then HB.out HB2.out (Nat.le_refl _), pa, pm, pc, by rw [HC.out]; rfl, by rw [if_pos HC.out]; exact HPr.out⟩
    have hlt' : (k : Int) < (n' : Int) := by omega
    obtain ⟨b, off, x, rfl, hb, hx, x0, x1, x2⟩ := H2'.out.du hlt
    have HS := Lib.hid (show (d.take (k + 1)).foldl (covStep xs d) [] = covStep xs d ((d.take k).foldl (covStep xs d) []) x from foldl_take_snoc hx)
    have Hk := Lib.hid (And.intro x1 hb)
    clear hx x0 x2
    go_upto_region 8 with (fail)
    go_loopw [9, 10] (fun s i wr => ∃ j : Nat, j ≤ n' ∧ i = .int .i64 j ∧ s = .int .i64 (dueSum (d.take j) x.parcel) ∧ Below wo.heap.size wo wr) (fun _ i _ => n' - (intOf i).toNat)
    case atStart => exact ⟨0, Nat.zero_le _, rfl, rfl, Below.refl _ _⟩
    case round =>
      obtain ⟨j, hj, rfl, rfl, hB⟩ := hrel
      have hbd := dueSum_bd (d := d.take j) (fun y hy => HD.out y (List.mem_of_mem_take hy)) x.parcel
      have hlj : (d.take j).length ≤ 400 := by rw [List.length_take]; omega
      have hbd' : 0 ≤ dueSum (d.take j) x.parcel ∧ dueSum (d.take j) x.parcel ≤ 1000000000000 := by omega
      have z1 := cell_keep Hk.out.1 hB
      have zb : b < wr.heap.size := Nat.lt_of_lt_of_le Hk.out.2 hB.size
      have H3' := Lib.hid (H2'.out.below' hB)
      have H3 := Lib.hid (H2.out.below' hB)
      have HBi := Lib.hid hB
      clear hbd hlj hB
      by_cases hjl : j < n'
      · have hjl' : (j : Int) < (n' : Int) := by omega
        obtain ⟨b', off', y, hbe, hb', hy, y0, y1, y2⟩ := H3'.out.du hjl
        cases hbe
        have hyo := (okDu_facts (HD.out y (List.mem_of_getElem? hy))).2.2
        have HN := Lib.hid (show dueSum (d.take (j + 1)) x.parcel = dueStep x.parcel (dueSum (d.take j) x.parcel) y by rw [take_succ_snoc hy, dueSum_snoc])
        obtain ⟨S, hS⟩ : ∃ S, dueSum (d.take j) x.parcel = S := ⟨_, rfl⟩
        rw [hS] at HN hbd' ⊢
        have k1 : ∀ z : Later wr, z.w.cell? ⟨b, off + j * 3 + 1, none⟩ = some (.int .i64 y.parcel) := fun z => z.cell y1
        have k2 : ∀ z : Later wr, z.w.cell? ⟨b, off + k * 3 + 1, none⟩ = some (.int .i64 x.parcel) := fun z => z.cell z1
        by_cases hp : y.parcel = x.parcel
        · have hp1 : (y.parcel == x.parcel) = true := by simp [hp]
          have HNe := Lib.hid (show dueStep x.parcel S y = S + y.amount by unfold dueStep; rw [if_pos hp])
          clear hp hS hy
          go_upto_region 10 with (fail)
          refine wp_region_later (by kernel_rfl) (by kernel_rfl) ?_
          repeat (go_big_quiet_step (fail))
          refine wpQuiet_nil ?_
          intro wz hw'
          obtain ⟨⟨W, hW⟩, hw''⟩ := hw'
          obtain rfl : W = wz := hw''.symm
          clear hw'' k1 k2
          have v2 := cell_keep y2 hW
          have vb : b < W.heap.size := Nat.lt_of_lt_of_le zb hW.size
          have HBW := Lib.hid (below_then HBi.out hW (Nat.le_refl _))
          clear hW y0 y1 y2 z1
          go_wp2_with fail
          exact ⟨⟨j + 1, by omega, by go_num, by rw [HN.out, HNe.out], HBW.out⟩, by simp [intOf]; omega⟩
        · have hp1 : (y.parcel == x.parcel) = false := by simp [hp]
          have HNe := Lib.hid (show dueStep x.parcel S y = S by unfold dueStep; rw [if_neg hp])
          clear hp hS hy
          go_upto_region 10 with (fail)
          refine wp_region_later (by kernel_rfl) (by kernel_rfl) ?_
          repeat (go_big_quiet_step (fail))
          refine wpQuiet_nil ?_
          intro wz hw'
          obtain ⟨⟨W, hW⟩, hw''⟩ := hw'
          obtain rfl : W = wz := hw''.symm
          clear hw'' k1 k2
          have HBW := Lib.hid (below_then HBi.out hW (Nat.le_refl _))
          clear hW y0 y1 y2 z1
          go_wp2_with fail
          exact ⟨⟨j + 1, by omega, by go_num, by rw [HN.out, HNe.out], HBW.out⟩, by simp [intOf]; omega⟩
      · have hjl' : ¬ (j : Int) < (n' : Int) := by omega
        have hje : d.take j = d := List.take_of_length_le (by rw [Hl'.out]; omega)
        rw [hje] at hbd' ⊢
        obtain ⟨S, hS⟩ : ∃ S, dueSum d x.parcel = S := ⟨_, rfl⟩
        obtain ⟨sv, hsv⟩ : ∃ sv, soldL xs x.parcel = sv := ⟨_, rfl⟩
        have HCs := Lib.hid (show ∀ m, covStep xs d m x = if sv < S then putL m x.parcel else m from fun m => by unfold covStep; rw [hS, hsv])
        have C1 := Lib.hid (show ∀ W, Rd Po.vals 8 W a n xs → Calls Tryz.prog 75 #[.slice a n cap, .int .i64 x.parcel] W fun e w' => e = .returned (.int .i64 sv) ∧ w' = W from fun W h => by rw [← hsv]; exact sold_any a n cap xs x.parcel W h hn HA.out)
        rw [hS] at hbd' ⊢
        clear hS hsv hje
        go_wp2_with fail
        refine (C1.out _ H3.out).mono ?_
        rintro e w5 ⟨rfl, rfl⟩
        have HP5 := Lib.hid (HPr.out.below' HBi.out)
        have HB5 := Lib.hid (below_then HB2.out HBi.out (Nat.le_refl _))
        by_cases hcv : sv < S
        · rw [show covStep xs d ((d.take k).foldl (covStep xs d) []) x = putL ((d.take k).foldl (covStep xs d) []) x.parcel by rw [HCs.out, if_pos hcv]] at HS
          go_wp2_with fail
          refine (put_any pa pm pc _ x.parcel _ HP5.out (covFold_sorted xs d _ [] List.Pairwise.nil) hpc HPz.out HPq.out (by omega)).mono ?_
          rintro e w6 ⟨a6, m6, c6, rfl, hr6, hmc6, hz6, hq6, hB6⟩
          have HF := Lib.hid (show PutPost w1 ((d.take (k + 1)).foldl (covStep xs d) []) (.returned (.slice a6 m6 c6)) w6 from ⟨a6, m6, c6, rfl, by rw [HS.out]; exact hr6, hmc6, hz6, hq6, below_then HB5.out hB6 (Nat.le_refl _)⟩)
          clear hr6 hz6 hq6 hB6
          go_wp2_with fail
          exact ⟨⟨k + 1, by omega, by go_num, HF.out⟩, by simp [intOf]; omega⟩
        · rw [show covStep xs d ((d.take k).foldl (covStep xs d) []) x = (d.take k).foldl (covStep xs d) [] by rw [HCs.out, if_neg hcv]] at HS
          have HF := Lib.hid (show PutPost w1 ((d.take (k + 1)).foldl (covStep xs d) []) (.returned (.slice pa pm pc)) _ from ⟨pa, pm, pc, rfl, by rw [HS.out]; exact HP5.out, hpc, HPz.out, HPq.out, HB5.out⟩)
          go_wp2_with fail
          exact ⟨⟨k + 1, by omega, by go_num, HF.out⟩, by simp [intOf]; omega⟩
end Go.Proofs.YtehedodogkhmgaaGreat

/- The walk of purse's Covered. -/
set_option linter.unusedSimpArgs false
set_option linter.unusedVariables false
namespace Go.Proofs.YtehedodogkhmgaaGreat
open Go.RowKit Go.Shelf Go.Sort

def dueP (d : List Du) : List (Int × Int) := d.foldl (fun m x => mput m x.parcel (getI m x.parcel + x.amount)) []
theorem dueP_snoc (d : List Du) (x : Du) : dueP (d ++ [x]) = mput (dueP d) x.parcel (getI (dueP d) x.parcel + x.amount) := by simp [dueP]
theorem dueP_fold (k : Int) : ∀ (l : List Du) (m : List (Int × Int)), getI (l.foldl (fun m x => mput m x.parcel (getI m x.parcel + x.amount)) m) k = l.foldl (dueStep k) (getI m k)
  | [], m => rfl
  | x :: r, m => by
    rw [List.foldl_cons, List.foldl_cons, dueP_fold k r, getI_mput']
    congr 1
    unfold dueStep
    by_cases h : x.parcel = k
    · rw [if_pos h, if_pos h, h]
    · rw [if_neg h, if_neg h]
theorem dueP_get (d : List Du) (k : Int) : getI (dueP d) k = dueSum d k := by unfold dueP dueSum; rw [dueP_fold]; rfl
theorem dueP_mem (k : Int) : ∀ (l : List Du) (m : List (Int × Int)), k ∈ (l.foldl (fun m x => mput m x.parcel (getI m x.parcel + x.amount)) m).map (·.1) ↔ k ∈ m.map (·.1) ∨ ∃ x ∈ l, x.parcel = k
  | [], m => by simp
  | x :: r, m => by
    rw [List.foldl_cons, dueP_mem k r, ← mget_some_iff, mget_mput, ← mget_some_iff (m := m)]
    by_cases h : x.parcel = k
    · rw [if_pos h]
      exact ⟨fun _ => .inr ⟨x, by simp, h⟩, fun _ => .inl rfl⟩
    · rw [if_neg h]
      constructor
      · rintro (e | ⟨y, hy, e⟩)
        · exact .inl e
        · exact .inr ⟨y, by simp [hy], e⟩
      · rintro (e | ⟨y, hy, e⟩)
        · exact .inl e
        · rcases List.mem_cons.1 hy with rfl | hy
          · exact absurd e h
          · exact .inr ⟨y, hy, e⟩
theorem dueP_keys (d : List Du) (k : Int) : k ∈ (dueP d).map (·.1) ↔ ∃ x ∈ d, x.parcel = k := by
  unfold dueP; rw [dueP_mem]; simp
theorem Bk.soldGet {s : Ch} {xs : List Po} (h : Bk s xs) (k : Int) : getI s.sold k = soldL xs k := by
  unfold getI
  rw [h.sold]
  have := (soldL_bound h.okl.am k).1
  by_cases hk : 0 < soldL xs k
  · rw [if_pos hk]; rfl
  · rw [if_neg hk]
    show (0 : Int) = _
    omega

set_option maxRecDepth 100000 in
set_option maxHeartbeats 2000000 in
theorem covered1_any (p : Int) (Ba Bc b : Nat) (m : List (Int × Int)) (L : Lay) (s : Ch) (w : World) (ha : w.cell? ⟨Ba, 0, none⟩ = some (.map (some b))) (hc : w.cell? ⟨Bc, 0, none⟩ = some (.pointer (some ⟨L.c, 0, none⟩)))
    (hm : MapT Tryz.prog 3 kInt vInt w b m) (h : ChAt w L s) (hp : I64 p) :
    Calls Tryz.prog 103 #[.int .i64 p, .pointer (some ⟨Ba, 0, none⟩), .pointer (some ⟨Bc, 0, none⟩)] w fun e w' => e = .returned (.bool (decide (getI m p ≤ getI s.sold p))) ∧ Below w.heap.size w w' := by
  obtain ⟨c0, c1, c2, c3, c4, c5, c6⟩ := h.cs
  have HB := Lib.hid (Below.refl w.heap.size w)
  have l1 : ∀ n, (Instr.lookup 77 (.map (some b)) (.int .i64 p) false).run Tryz.prog (w.drewN n) = .ok (.int .i64 (getI m p)) (w.drewN n) := fun n => look_int (hm.drewN n) hp
  have l2 : ∀ n, (Instr.lookup 77 (.map (some L.sold)) (.int .i64 p) false).run Tryz.prog (w.drewN n) = .ok (.int .i64 (getI s.sold p)) (w.drewN n) := fun n => look_int (h.sold.drewN n) hp
  clear hm h
  go_enter Tryz.func103, Tryz.ntmps103
  go_wp2_with fail
  go_quiet (fail)
  go_wp2_with fail
  go_ret
  exact ⟨rfl, below_drewN HB.out _⟩

theorem msort_strict {ys : List Int} (hn : ys.Nodup) : (ys.mergeSort (fun x y => decide (x ≤ y))).Pairwise (· < ·) := by
  have hp := List.mergeSort_perm ys (fun x y : Int => decide (x ≤ y))
  have hs := List.pairwise_mergeSort (le := fun x y : Int => decide (x ≤ y)) (fun a b c h1 h2 => by simp at *; omega) (fun a b => by simp; omega) ys
  exact (hs.and (hp.nodup_iff.2 hn)).imp (fun {a b} hab => by
    have h1 := hab.1
    have h2 := hab.2
    simp at h1
    omega)

def CovPost (w : World) (xs : List Po) (d : List Du) (e : Ending) (w' : World) : Prop :=
  Below w.heap.size w w' ∧ ((¬ cmpE xs d = 0 ∧ e = .returned (.tuple #[.slice none 0 0, .int .i64 (cmpE xs d)])) ∨
    (cmpE xs d = 0 ∧ ∃ v, e = .returned (.tuple #[v, .int .i64 0]) ∧ w'.ownsRow w.heap.size 3 1 v (covR xs d).length ((covR xs d).flatMap ints)))

set_option maxRecDepth 100000 in
set_option maxHeartbeats 4000000 in
theorem covered_all (a : Option Addr) (n cap : Nat) (xs : List Po) (a' : Option Addr) (n' cap' : Nat) (d : List Du) (w : World) (h : Rd Po.vals 8 w a n xs) (hw : ∀ p ∈ xs, p.Wf) (h' : Rd Du.vals 3 w a' n' d) :
    Calls Tryz.prog 40 #[.slice a n cap, .slice a' n' cap'] w (CovPost w xs d) := by
  have hmm := @run_makeMap Tryz.prog
  go_enter Tryz.func40, Tryz.ntmps40
  go_wp2_with fail
  refine (dues_any a n cap xs a' n' cap' d _ h hw h').mono ?_
  rintro e w1 ⟨hB, ⟨hc, rfl⟩ | ⟨hc, hd, rfl⟩ | ⟨hc, hd, L, s, rfl, hch, hbk, hL⟩⟩
  · have hc1 : ((checkL xs).2 != 0) = true := by simp [hc]
    have Hc := Lib.hid hc
    have HB := Lib.hid hB
    clear hc hB hmm
    go_wp2_with fail
    go_ret2
    exact ⟨HB.out.alloc HB.out.size _, .inl ⟨by rw [cmpE_a Hc.out]; exact Hc.out, ret_slice_int (cmpE_a Hc.out).symm⟩⟩
  · have hc1 : (chkDu d != 0) = true := by simp [hd]
    have Hc := Lib.hid hc
    have Hd := Lib.hid hd
    have HB := Lib.hid hB
    clear hc hB hd hmm
    go_wp2_with fail
    go_ret2
    exact ⟨HB.out.alloc HB.out.size _, .inl ⟨by rw [cmpE_b Hc.out]; exact Hd.out, ret_slice_int (cmpE_b Hc.out).symm⟩⟩
  · have Hl' := Lib.hid h'.len
    have hnc := h'.cap
    have h1 := Lib.hid ((h'.below' hB).below' ((Below.refl w1.heap.size w1).alloc (Nat.le_refl _) (.cells #[.pointer (some ⟨L.c, 0, none⟩)] 72)))
    have Hc := Lib.hid hc
    have Hd := Lib.hid hd
    have Hbk := Lib.hid hbk
    have bc := Boxed.new w1 72 (.pointer (some ⟨L.c, 0, none⟩))
    have hch1 := hch.alloc (.cells #[.pointer (some ⟨L.c, 0, none⟩)] 72)
    have HBo := Lib.hid (hB.alloc hB.size (.cells #[.pointer (some ⟨L.c, 0, none⟩)] 72))
    have hs0 : (w1.alloc (.cells #[.pointer (some ⟨L.c, 0, none⟩)] 72)).heap.size = w1.heap.size + 1 := by simp
    have HD := Lib.hid (goodB_all (chkDu_ok hd).2)
    have hdl : n' ≤ 400 := by rw [← Hl'.out]; exact (chkDu_ok hd).1
    clear hc hd hbk hB h h'
    go_wp2_with fail
    generalize w1.alloc (.cells #[.pointer (some ⟨L.c, 0, none⟩)] 72) = W0 at *
    have hm0 := MapT.made (P := Tryz.prog) (K := 3) (ke := kInt) (ve := vInt) W0
    have hb0 := Boxed.new (W0.alloc (.map #[] 0)) 77 (.map (some (w1.heap.size + 1)))
    have hm1 := hm0.alloc (.cells #[.map (some (w1.heap.size + 1))] 77)
    rw [show (W0.alloc (.map #[] 0)).heap.size = w1.heap.size + 1 + 1 by simp [hs0]] at hb0
    rw [hs0] at hm1
    have Hm1 := Lib.hid hm1
    have Hb0 := Lib.hid hb0.cell
    have HB0 := Lib.hid (((Below.refl W0.heap.size W0).alloc (Nat.le_refl _) (.map #[] 0)).alloc (by simp) (.cells #[.map (some (w1.heap.size + 1))] 77))
    have Hch1 := Lib.hid hch1
    have Hbc := Lib.hid bc.cell
    obtain ⟨B, hBe⟩ : ∃ B, w1.heap.size = B := ⟨_, rfl⟩
    rw [hBe] at hs0 Hm1 Hb0 HB0 Hbc ⊢
    clear hmm hm0 hb0 hm1 hch1 bc
    go_loopw [23] (fun i wr => ∃ k : Nat, k ≤ n' ∧ i = .int .i64 k ∧ MapT Tryz.prog 3 kInt vInt wr (B + 1) (dueP (d.take k)) ∧ wr.cell? ⟨B + 1 + 1, 0, none⟩ = some (.map (some (B + 1))) ∧ Below W0.heap.size W0 wr) (fun i _ => n' - (intOf i).toNat)
    case atStart => exact ⟨0, Nat.zero_le _, rfl, Hm1.out, Hb0.out, HB0.out⟩
    case round =>
      obtain ⟨k, hk, rfl, hm, hbx, hB⟩ := hrel
      clear Hm1 Hb0 HB0
      by_cases hlt : k < n'
      · have h2 := h1.out.below' hB
        obtain ⟨b, off, x, rfl, hb, hx, x0, x1, x2⟩ := h2.du hlt
        have hsn := Lib.hid (show dueP (d.take (k + 1)) = mput (dueP (d.take k)) x.parcel (getI (dueP (d.take k)) x.parcel + x.amount) by rw [take_succ_snoc hx, dueP_snoc])
        obtain ⟨o1, o2, o3⟩ := okDu_facts (HD.out x (List.mem_of_getElem? hx))
        have ip : I64 x.parcel := by unfold I64; omega
        have hbd := dueSum_bd (d := d.take k) (fun y hy => HD.out y (List.mem_of_mem_take hy)) x.parcel
        have hlk : (d.take k).length ≤ 400 := by rw [List.length_take]; omega
        rw [← dueP_get] at hbd
        have hma := hm.alloc (.cells #[.int .i64 x.party, .int .i64 x.parcel, .int .i64 x.amount] 53)
        have l1 := look_int hma ip
        obtain ⟨S, hS⟩ : ∃ S, getI (dueP (d.take k)) x.parcel = S := ⟨_, rfl⟩
        rw [hS] at hbd l1 hsn
        have hbd' : 0 ≤ S ∧ S ≤ 1000000000000 := by omega
        have HBa := Lib.hid (hB.alloc hB.size (.cells #[.int .i64 x.party, .int .i64 x.parcel, .int .i64 x.amount] 53))
        have e3 := du3_new wr x 53
        have hbx1 : (wr.alloc (.cells #[.int .i64 x.party, .int .i64 x.parcel, .int .i64 x.amount] 53)).cell? ⟨B + 1 + 1, 0, none⟩ = some (.map (some (B + 1))) := by rw [World.cell?_alloc_lt _ _ _ (World.block_lt_of_cell? _ _ hbx)]; exact hbx
        have hbxl := World.block_lt_of_cell? _ _ hbx1
        obtain ⟨w2, eu, mu, gu, zu⟩ := update_int hma ip (S + x.amount)
        have HM := Lib.hid mu
        have HX := Lib.hid ((gu.cell_far ⟨B + 1 + 1, 0, none⟩ hbxl (by intro e; injection e with e; simp at e)).trans hbx1)
        have HG := Lib.hid (HBa.out.grown gu HBa.out.size (fun k e => by cases e; omega))
        obtain ⟨e0, e1, e2⟩ := e3
        clear hx hm hB hbx hma hS hbd hlk h2 mu gu zu hbxl
        go_wp2_with fail
        exact ⟨⟨k + 1, by omega, by go_num, by rw [hsn.out]; exact HM.out, HX.out, HG.out⟩, by simp [intOf]; omega⟩
      · have hke : d.take k = d := List.take_of_length_le (by rw [Hl'.out]; omega)
        rw [hke] at hm
        have HM := Lib.hid hm
        have HX := Lib.hid hbx
        have HB := Lib.hid hB
        clear hm hB hke
        go_wp2_with fail
        refine (keysI_any _ _).mono ?_
        rintro e w2 ⟨rfl, rfl⟩
        have bk := Boxed.new wr 77 (.map (some (B + 1)))
        have hm1 := HM.out.alloc (.cells #[.map (some (B + 1))] 77)
        have HB1 := Lib.hid (HB.out.alloc HB.out.size (.cells #[.map (some (B + 1))] 77))
        have hx1 : (wr.alloc (.cells #[.map (some (B + 1))] 77)).cell? ⟨B + 1 + 1, 0, none⟩ = some (.map (some (B + 1))) := by rw [World.cell?_alloc_lt _ _ _ (World.block_lt_of_cell? _ _ HX.out)]; exact HX.out
        generalize hW1 : wr.alloc (.cells #[.map (some (B + 1))] 77) = W1 at *
        have hnd := hm1.nodup
        have hlen : (dueP d).length ≤ 400 := by
          have h1 : ((dueP d).map (·.1)).length ≤ (d.map (·.parcel)).length := hnd.length_le_of_subset fun k hk => by
            obtain ⟨p, hp, e⟩ := (dueP_keys d k).1 hk
            exact List.mem_map.2 ⟨p, hp, e⟩
          rw [List.length_map, List.length_map, Hl'.out] at h1
          omega
        have Hlen := Lib.hid hlen
        have Hnd := Lib.hid hnd
        have Hch2 := Lib.hid (Hch1.out.below' HB1.out)
        have Hbc2 := Lib.hid ((HB1.out.cell (World.block_lt_of_cell? _ _ Hbc.out)).trans Hbc.out)
        have Hm1 := Lib.hid hm1
        have Hx1 := Lib.hid hx1
        clear hnd hlen hbx
        go_wp2_with fail
        refine (sortedI_any 122 _ (enters_of Tryz.func122 (by kernel_rfl) rfl) _ _ (dueP d).length (by have := Hlen.out; omega) (fun ys hS => by have := hS.length_eq; rw [List.length_map] at this; have := Hlen.out; omega) _ _ (Below.refl _ _)
          (keysI_stops 4 (by omega) wr.heap.size (B + 1) (dueP d) _ bk.cell Hm1.out)).mono ?_
        rintro e w3 ⟨v, ys, rfl, hS, hrow, hB3⟩
        have Hnd2 := Lib.hid (hS.nodup_iff.2 Hnd.out)
        obtain ⟨ts, hts⟩ : ∃ ts, ys.mergeSort (fun x y => decide (x ≤ y)) = ts := ⟨_, rfl⟩
        have Htp := Lib.hid (show ts.Perm ys from hts ▸ List.mergeSort_perm ys _)
        have Hst := Lib.hid (show ts.Pairwise (· < ·) from hts ▸ msort_strict Hnd2.out)
        have htl : ts.length ≤ 1000000 := by rw [Htp.out.length_eq, hS.length_eq, List.length_map]; have := Hlen.out; omega
        rw [hts, ← Htp.out.length_eq] at hrow
        have HK := Lib.hid (show ∀ k, k ∈ ts ↔ ∃ x ∈ d, x.parcel = k from fun k => by rw [Htp.out.mem_iff, hS.mem_iff]; exact dueP_keys d k)
        have HR := Lib.hid hrow
        have HS2 := Lib.hid hB3
        have HB3 := Lib.hid (below_then HB1.out hB3 (Nat.le_refl _))
        clear hS hrow hB3 hts hW1 bk hm1 hx1
        go_wp2_with fail
        refine (deleteInt_any 103 #[.pointer (some ⟨B + 1 + 1, 0, none⟩), .pointer (some ⟨B, 0, none⟩)] (enters_of Tryz.func103 (by kernel_rfl) rfl) (fun a => decide (getI (dueP d) a ≤ getI s.sold a)) W1.heap.size v ts w3 HR.out htl ?_).mono ?_
        · intro W' x hx hg
          have hlo : Below W1.heap.size W1 W' := HS2.out.grown hg HS2.out.size (fun k e => (HR.out.lt k e).1)
          have hpi : I64 x := by
            obtain ⟨y, hy, rfl⟩ := (HK.out x).1 hx
            have := okDu_facts (HD.out y hy)
            unfold I64; omega
          exact covered1_any x (B + 1 + 1) B (B + 1) (dueP d) L s W' (cell_keep Hx1.out hlo) (cell_keep Hbc2.out hlo) (Hm1.out.below' hlo) (Hch2.out.below' hlo) hpi
        · rintro e w4 ⟨v', rfl, hrow4, hg4⟩
          have hE : ts.filter (fun x => !decide (getI (dueP d) x ≤ getI s.sold x)) = covR xs d := ints_unique (Hst.out.filter _) (covFold_sorted xs d d [] List.Pairwise.nil) (fun k => by
            unfold covR
            rw [covFold_mem, List.mem_filter, HK.out, dueP_get, Hbk.out.soldGet]
            simp)
          rw [hE] at hrow4
          have HR4 := Lib.hid hrow4
          have HG4 := Lib.hid hg4
          clear hrow4 hg4 hE
          go_wp2_with fail
          go_ret2
          have hcz : cmpE xs d = 0 := by rw [cmpE_b Hc.out]; exact Hd.out
          have hW01 : w.heap.size ≤ W0.heap.size := HBo.out.size
          exact ⟨below_then HBo.out (HB3.out.grown HG4.out HB3.out.size (fun k e => Nat.le_trans HB1.out.size (HR.out.lt k e).1)) (Nat.le_refl _), .inr ⟨hcz, v', rfl, ownsRow_mono HR4.out (Nat.le_trans hW01 HB1.out.size)⟩⟩
end Go.Proofs.YtehedodogkhmgaaGreat
