/- The walks of slices.IndexFunc, slices.DeleteFunc and slices.Clone of balances (a balance is read as a due). -/
import Derived.Test.YtehedodogkhmgaaGreatDelete
import Derived.Test.YtehedodogkhmgaaGreatOver
set_option linter.unusedSimpArgs false
set_option linter.unusedVariables false
namespace Go.Proofs.YtehedodogkhmgaaGreat
open Go.RowKit Go.Shelf

def vDu (x : Du) : Value := .agg #[.int .i64 x.party, .int .i64 x.parcel, .int .i64 x.amount]
theorem flat_set {α : Type} {E : α → List Value} {k : Nat} (hk : ∀ x, (E x).length = k) : ∀ (xs : List α) (i j : Nat) (x x' : α) (v : Value), xs[i]? = some x → j < k → E x' = (E x).set j v → (xs.flatMap E).set (i * k + j) v = (xs.set i x').flatMap E
  | [], i, j, x, x', v, h, _, _ => by simp at h
  | y :: r, 0, j, x, x', v, h, hj, he => by
    simp at h
    subst h
    rw [List.flatMap_cons, List.set_append_left _ _ (by rw [hk]; omega), List.set_cons_zero, List.flatMap_cons, he]
    simp
  | y :: r, i + 1, j, x, x', v, h, hj, he => by
    simp at h
    rw [List.flatMap_cons, List.set_append_right _ _ (by rw [hk, Nat.succ_mul]; omega), hk, show (i + 1) * k + j - k = i * k + j from by rw [Nat.succ_mul]; omega, flat_set hk r i j x x' v h hj he]
    simp
section
variable {W : World} {base g cap n : Nat} {e : TypeId}
theorem own_set1 {α : Type} {E : α → List Value} {k : Nat} (hk : ∀ x, (E x).length = k) {cs : List α} (h : W.ownsRow base e k (.slice (some ⟨g, 0, none⟩) n cap) n (cs.flatMap E)) {i j : Nat} {x x' : α} {v : Value} (hi : cs[i]? = some x) (hj : j < k) (he : E x' = (E x).set j v) :
    (W.setCell ⟨g, i * k + j, none⟩ v).ownsRow base e k (.slice (some ⟨g, 0, none⟩) n cap) n ((cs.set i x').flatMap E) := by
  rcases h.2 with ⟨h1, _⟩ | ⟨g', cap', cur, hv, hb, hg, hc, hx, hs, ht⟩
  · cases h1
  · injection hv with h1 h2 h3
    cases h1; cases h3
    refine ⟨by rw [← flat_set hk cs i j x x' v hi hj he, List.length_set]; exact h.1, .inr ⟨g, cap, cur.setIfInBounds (i * k + j) v, rfl, hb, ?_, hc, hx, by simp [hs], ?_⟩⟩
    · simp [World.setCell, Array.getElem?_modify, hg]
    · rw [Array.toList_setIfInBounds, List.take_set, ht, flat_set hk cs i j x x' v hi hj he]
theorem own_setD {cs : List Du} (h : W.ownsRow base e 3 (.slice (some ⟨g, 0, none⟩) n cap) n (cs.flatMap Du.vals)) (hl : cs.length = n) {i : Nat} (hi : i < n) (x : Du) :
    (((W.setCell ⟨g, i * 3, none⟩ (.int .i64 x.party)).setCell ⟨g, i * 3 + 1, none⟩ (.int .i64 x.parcel)).setCell ⟨g, i * 3 + 2, none⟩ (.int .i64 x.amount)).ownsRow base e 3 (.slice (some ⟨g, 0, none⟩) n cap) n ((cs.set i x).flatMap Du.vals) := by
  obtain ⟨y, hy⟩ : ∃ y, cs[i]? = some y := ⟨cs[i], List.getElem?_eq_getElem (by omega)⟩
  have h1 := own_set1 du_vals_length h (j := 0) (x' := ⟨x.party, y.parcel, y.amount⟩) (v := .int .i64 x.party) hy (by omega) rfl
  have h2 := own_set1 du_vals_length h1 (i := i) (j := 1) (x := ⟨x.party, y.parcel, y.amount⟩) (x' := ⟨x.party, x.parcel, y.amount⟩) (v := .int .i64 x.parcel) (List.getElem?_set_self (by omega)) (by omega) rfl
  have h3 := own_set1 du_vals_length h2 (i := i) (j := 2) (x := ⟨x.party, x.parcel, y.amount⟩) (x' := x) (v := .int .i64 x.amount) (List.getElem?_set_self (by rw [List.length_set]; omega)) (by omega) rfl
  rw [List.set_set, List.set_set] at h3
  simpa using h3
theorem own_cellD {cs : List Du} (h : W.ownsRow base e 3 (.slice (some ⟨g, 0, none⟩) n cap) n (cs.flatMap Du.vals)) (hl : cs.length = n) {i : Nat} (hi : i < n) :
    (∃ x, cs[i]? = some x ∧ W.cell? ⟨g, i * 3, none⟩ = some (.int .i64 x.party) ∧ W.cell? ⟨g, i * 3 + 1, none⟩ = some (.int .i64 x.parcel) ∧ W.cell? ⟨g, i * 3 + 2, none⟩ = some (.int .i64 x.amount)) ∧ (∀ j, W.frozen? ⟨g, j, none⟩ = false) ∧ base ≤ g ∧ g < W.heap.size ∧ n ≤ cap := by
  have h0 := h
  rcases h.2 with ⟨h1, _⟩ | ⟨g', cap', cur, hv, hb, hg, hc, hx, hs, ht⟩
  · cases h1
  · injection hv with h1 h2 h3
    cases h1; cases h3
    have hat := fun j hj => flat_at du_vals_length cs i cs[i] j (List.getElem?_eq_getElem (by omega)) hj
    refine ⟨⟨cs[i], List.getElem?_eq_getElem (by omega), ?_, ?_, ?_⟩, fun j => by simp [World.frozen?, hg], hb, (Array.getElem?_eq_some_iff.1 hg).1, hc⟩
    · have := h0.cells (g := g) rfl (i * 3 + 0) (.int .i64 cs[i].party) (by rw [hat 0 (by omega)]; rfl)
      rw [Addr.add_lit] at this; simpa using this
    · have := h0.cells (g := g) rfl (i * 3 + 1) (.int .i64 cs[i].parcel) (by rw [hat 1 (by omega)]; rfl)
      rw [Addr.add_lit] at this; simpa using this
    · have := h0.cells (g := g) rfl (i * 3 + 2) (.int .i64 cs[i].amount) (by rw [hat 2 (by omega)]; rfl)
      rw [Addr.add_lit] at this; simpa using this
end
theorem zeroBa (w : World) : (zeroValue 59).run Tryz.prog w = .ok (.agg #[.int .i64 0, .int .i64 0, .int .i64 0]) w := by kernel_rfl
theorem zeroCells3_one (n : Nat) : ∀ v ∈ (Builtin.zeroCells #[Value.int .i64 0, Value.int .i64 0, Value.int .i64 0] n).toList, v.oneCell' = true := by
  intro v hv
  simp [Builtin.zeroCells] at hv
  obtain ⟨a, _, ha⟩ := hv
  have h3 : a % 3 = 0 ∨ a % 3 = 1 ∨ a % 3 = 2 := by omega
  rcases h3 with h | h | h <;> (rw [h] at ha; subst ha; rfl)
theorem zeroCells3_len (n : Nat) : (Builtin.zeroCells #[Value.int .i64 0, Value.int .i64 0, Value.int .i64 0] n).toList.length = n * 3 := by simp [Builtin.zeroCells]
theorem run_clear_ba (w : World) (ty : TypeId) (b o n c : Nat) (hn : 0 < n) (hc : ∀ j, j < n * 3 → (w.cell? ⟨b, o + j, none⟩).isSome = true) (hf : ∀ j, j < n * 3 → w.frozen? ⟨b, o + j, none⟩ = false) :
    (Builtin.clear_ #[56] ty #[.slice (some ⟨b, o, none⟩) n c]).run Tryz.prog w = .ok (.tuple #[]) (w.setCells b o (Builtin.zeroCells #[Value.int .i64 0, Value.int .i64 0, Value.int .i64 0] n).toList) := by
  have hst := run_storeCells_cells (P := Tryz.prog) b o (Builtin.zeroCells #[Value.int .i64 0, Value.int .i64 0, Value.int .i64 0] n).toList 0 w (by rw [zeroCells3_len]; simpa using hc) (by rw [zeroCells3_len]; simpa using hf) (zeroCells3_one n)
  simp only [Nat.add_zero] at hst
  obtain ⟨m, rfl⟩ : ∃ m, n = m + 1 := ⟨n - 1, by omega⟩
  simp [Builtin.clear_, run_underlying Tryz.underlying56, zeroBa, Value.cells, hst]

set_option maxRecDepth 100000 in
set_option maxHeartbeats 4000000 in
theorem indexBa_any (g : Nat) (cb : Array Value) (eg : ∀ args w, (callFunc g args).run Tryz.prog w = .ok (.enter g args) w) (p : Du → Bool) (a : Option Addr) (n cap : Nat) (xs : List Du) (w : World) (h : Rd Du.vals 3 w a n xs)
    (hp : ∀ W x, x ∈ xs → Below w.heap.size w W → Calls Tryz.prog g (#[vDu x] ++ cb) W fun e W' => e = .returned (.bool (p x)) ∧ Below W.heap.size W W') :
    Calls Tryz.prog 130 #[.slice a n cap, .func (.func g) #[] cb] w fun e w' => e = .returned (.int .i64 (idxI p xs)) ∧ Below w.heap.size w w' := by
  have Hl := Lib.hid h.len
  have hm := h.cap
  unfold maxLen at hm
  have HP := Lib.hid hp
  clear hp
  go_enter Tryz.func130, Tryz.ntmps130
  go_wp2_with fail
  go_loopw [8] (fun i wr => ∃ k : Nat, k ≤ n ∧ i = .int .i64 k ∧ (xs.take k).any p = false ∧ Below w.heap.size w wr) (fun i _ => n - (intOf i).toNat)
  case atStart => exact ⟨0, Nat.zero_le _, rfl, rfl, Below.refl _ _⟩
  case round =>
    obtain ⟨k, hk, rfl, hno, hB⟩ := hrel
    have h1 := h.below' hB
    have HB := Lib.hid hB
    have Hno := Lib.hid hno
    clear hno hB h
    by_cases hlt : k < n
    · obtain ⟨b, off, x, rfl, hb, hx, x0, x1, x2⟩ := h1.du hlt
      have Hx := Lib.hid hx
      have hcall := HP.out wr x (List.mem_of_getElem? hx) HB.out
      clear hx
      cases hpx : p x with
      | true =>
        rw [hpx] at hcall
        have HE := Lib.hid (idxI_at Hx.out Hno.out hpx)
        clear hpx
        go_wp2_with (go_at_fn g; refine hcall.mono ?_; rintro e w' ⟨rfl, hB2⟩)
        go_ret
        exact ⟨ret_int HE.out.symm, below_then HB.out hB2 (Nat.le_refl _)⟩
      | false =>
        rw [hpx] at hcall
        have HE := Lib.hid (show (xs.take (k + 1)).any p = false by rw [any_take_snoc Hx.out, Hno.out, hpx]; rfl)
        clear hpx
        go_wp2_with (go_at_fn g; refine hcall.mono ?_; rintro e w' ⟨rfl, hB2⟩)
        exact ⟨⟨k + 1, by omega, by go_num, HE.out, below_then HB.out hB2 (Nat.le_refl _)⟩, by simp [intOf]; omega⟩
    · go_wp2_with fail
      go_ret
      exact ⟨ret_int (by rw [idxI_none (by have := Hno.out; rwa [List.take_of_length_le (by rw [Hl.out]; omega)] at this)]), HB.out⟩

set_option maxRecDepth 100000 in
set_option maxHeartbeats 4000000 in
theorem deleteBa_any (g : Nat) (cb : Array Value) (eg : ∀ args w, (callFunc g args).run Tryz.prog w = .ok (.enter g args) w) (p : Du → Bool) (base : Nat) (v : Value) (ss : List Du) (w : World)
    (hrow : w.ownsRow base 59 3 v ss.length (ss.flatMap Du.vals)) (hn : ss.length ≤ 1000000)
    (hp : ∀ W x, x ∈ ss → w.grownBy W v.ownBlock → Calls Tryz.prog g (#[vDu x] ++ cb) W fun e W' => e = .returned (.bool (p x)) ∧ Below W.heap.size W W') :
    Calls Tryz.prog 107 #[v, .func (.func g) #[] cb] w fun e w' => ∃ v', e = .returned v' ∧
      w'.ownsRow base 59 3 v' (ss.filter (fun x => !p x)).length ((ss.filter (fun x => !p x)).flatMap Du.vals) ∧ w.grownBy w' v.ownBlock := by
  obtain ⟨a, cap, rfl, hcap, hrd, hlow⟩ := Rd.of_own hrow du_vals_length (by omega) rfl (by unfold maxLen; omega)
  have hidx := indexBa_any g cb eg p a ss.length cap ss w hrd (fun W x hx hB => hp W x hx ⟨hB.os, hB.tape, hB.output, hB.size, fun k hk _ => hB.block k hk⟩)
  rcases findIdx_facts (p := p) (xs := ss) with ⟨e1, e2⟩ | ⟨i0, hi0, e1, e2⟩
  · rw [e1] at hidx
    rw [e2]
    clear e1 e2
    have HR := Lib.hid hrow
    clear hp hrow hrd hlow
    go_enter Tryz.func107, Tryz.ntmps107
    go_wp2_with (go_at_call 130; refine hidx.mono ?_; rintro e w' ⟨rfl, hB⟩)
    go_ret
    exact ⟨_, rfl, HR.out.kept (grown_of_below hB) (by cases a with | none => exact .inl rfl | some q => exact .inr (by simp [Value.ownBlock])), ⟨hB.os, hB.tape, hB.output, hB.size, fun k hk _ => hB.block k hk⟩⟩
  · rw [e1] at hidx
    obtain ⟨b, off, x00, rfl, _⟩ := hrd.du hi0
    have hoff : off = 0 := by
      rcases hrow.2 with ⟨h1, _⟩ | ⟨g', cap', cur, hv, _⟩
      · cases h1
      · injection hv with h1; injection h1 with h1; injection h1
    subst hoff
    have HP := Lib.hid hp
    have HE2 := Lib.hid e2
    have hn9 : ss.length ≤ 9223372036854775807 := by omega
    have hne1 : ((i0 : Int) == -1) = false := beq_eq_false_iff_ne.2 (by omega)
    obtain ⟨hbase, hblt⟩ := hlow _ rfl
    have HR := Lib.hid hrow
    clear hp e1 e2 hrd hlow hrow
    obtain ⟨N, hN⟩ : ∃ N, ss.length = N := ⟨_, rfl⟩
    rw [hN] at hidx HR hn9 hcap hi0 hn
    have HNl := Lib.hid hN
    rw [hN]
    clear hN
    go_enter Tryz.func107, Tryz.ntmps107
    go_wp2_with (go_at_call 130; refine hidx.mono ?_; rintro e w' ⟨rfl, hB⟩)
    have HB := Lib.hid hB
    clear hB hidx
    have HR1 := Lib.hid (HR.out.kept (grown_of_below HB.out) (.inr (by simp [Value.ownBlock])))
    have Hg1 := Lib.hid (show w.grownBy w' (some b) from ⟨HB.out.os, HB.out.tape, HB.out.output, HB.out.size, fun k hk _ => HB.out.block k hk⟩)
    go_loopw [5, 6] (fun si sj wr => ∃ (i j : Nat) (cs : List Du), si = .int .i64 i ∧ sj = .int .i64 j ∧ i < j ∧ j ≤ N ∧ cs.length = N ∧ wr.ownsRow base 59 3 (.slice (some ⟨b, 0, none⟩) N cap) N (cs.flatMap Du.vals) ∧
      cs.take i = (ss.take j).filter (fun x => !p x) ∧ cs.drop j = ss.drop j ∧ w.grownBy wr (some b)) (fun _ sj _ => N - (intOf sj).toNat)
    case atStart => exact ⟨i0, i0 + 1, ss, rfl, by go_num, by omega, by omega, HNl.out, HR1.out, HE2.out.symm, rfl, Hg1.out⟩
    case round =>
      obtain ⟨i, j, cs, rfl, rfl, hij, hjn, hcl, hown, htk, hdr, hgr⟩ := hrel
      have HO := Lib.hid hown
      have HTk := Lib.hid htk
      have HDr := Lib.hid hdr
      have HGr := Lib.hid hgr
      have HCl := Lib.hid hcl
      clear hown htk hdr hgr HR1 Hg1 HB
      by_cases hlt : j < N
      · obtain ⟨⟨x, hx, x0, x1, x2⟩, hfz, _, hbw, _⟩ := own_cellD HO.out HCl.out hlt
        obtain ⟨⟨y, hy, y0, y1, y2⟩, _⟩ := own_cellD HO.out HCl.out (show i < N by omega)
        have hj0 : (0 : Int) ≤ (j : Int) := by omega
        have hsx : ss[j]? = some x := by
          have h1 : (cs.drop j)[0]? = (ss.drop j)[0]? := by rw [HDr.out]
          rw [List.getElem?_drop, List.getElem?_drop] at h1
          simpa [hx] using h1.symm
        have hdr' : cs.drop (j + 1) = ss.drop (j + 1) := by rw [← List.drop_drop, ← List.drop_drop, HDr.out]
        have HDr' := Lib.hid hdr'
        have Hsx := Lib.hid hsx
        have hga : w.grownBy (wr.alloc (.cells #[.int .i64 x.party, .int .i64 x.parcel, .int .i64 x.amount] 59)) (some b) := HGr.out.trans (World.grownBy_alloc _ _ _)
        have hcall := HP.out _ x (List.mem_of_getElem? hsx) hga
        have hba := (Below.refl wr.heap.size wr).alloc (Nat.le_refl _) (.cells #[.int .i64 x.party, .int .i64 x.parcel, .int .i64 x.amount] 59)
        have hoa := HO.out.alloc (.cells #[.int .i64 x.party, .int .i64 x.parcel, .int .i64 x.amount] 59)
        have HOa := Lib.hid hoa
        have HGa := Lib.hid hga
        have Hcl' := Lib.hid HCl.out
        clear hdr' hsx hga hba hoa hx hy
        cases hpx : p x with
        | true =>
          rw [hpx] at hcall
          have HF := Lib.hid (show (ss.take (j + 1)).filter (fun x => !p x) = (ss.take j).filter (fun x => !p x) by rw [take_succ_snoc Hsx.out]; simp [hpx])
          clear hpx
          go_wp2_with (go_at_fn g; refine hcall.mono ?_; rintro e w2 ⟨rfl, hB2⟩)
          refine ⟨⟨i, j + 1, cs, rfl, by go_num, by omega, by omega, HCl.out, ?_, ?_, HDr'.out, ?_⟩, by simp [intOf]; omega⟩
          · exact HOa.out.kept (grown_of_below hB2) (.inr (by simp [Value.ownBlock]))
          · rw [HF.out]; exact HTk.out
          · exact HGa.out.trans (grown_of_below hB2 |>.but _)
        | false =>
          rw [hpx] at hcall
          have HF := Lib.hid (show (ss.take (j + 1)).filter (fun x => !p x) = (ss.take j).filter (fun x => !p x) ++ [x] by rw [take_succ_snoc Hsx.out]; simp [hpx])
          clear hpx
          have hbx := du3_new wr x 59
          go_wp2_with (go_at_fn g; refine hcall.mono ?_; rintro e w2 ⟨rfl, hB2⟩; obtain ⟨z0, z1, z2⟩ := du3_later hbx hB2; have HO2 := Lib.hid (HOa.out.kept (grown_of_below hB2) (.inr (by simp [Value.ownBlock]))); obtain ⟨⟨y3, _, v0, v1, v2⟩, hfz2, _, hbw2, _⟩ := own_cellD HO2.out Hcl'.out (show i < N by omega); have hfa := hfz2 (i * 3); have hfb := hfz2 (i * 3 + 1); have hfc := hfz2 (i * 3 + 2); clear hfz2)
          have HG2 := Lib.hid (HGa.out.trans ((grown_of_below hB2).but (some b)))
          refine ⟨⟨i + 1, j + 1, cs.set i x, by go_num, by go_num, by omega, by omega, by rw [List.length_set]; exact HCl.out, own_setD HO2.out Hcl'.out (by omega) x, ?_, ?_, ?_⟩, by simp [intOf]; omega⟩
          · rw [HF.out, ← HTk.out]
            have hil : i < cs.length := by rw [HCl.out]; omega
            rw [List.take_add_one, List.take_set_of_le (Nat.le_refl _)]
            simp [hil]
          · rw [List.drop_set_of_lt (by omega)]; exact HDr'.out
          · exact ((HG2.out.trans (grownBy_setCell'' _ _ _ _)).trans (grownBy_setCell'' _ _ _ _)).trans (grownBy_setCell'' _ _ _ _)
      · obtain rfl : j = N := by omega
        obtain ⟨⟨y, hy, y0, y1, y2⟩, hfz, _, hbw, hcap2⟩ := own_cellD HO.out HCl.out (show i < j by omega)
        have hclr : ∀ ty, (Builtin.clear_ #[56] ty #[.slice (some ⟨b, i * 3, none⟩) (j - i) (cap - i)]).run Tryz.prog wr = .ok (.tuple #[]) (wr.setCells b (i * 3) (Builtin.zeroCells #[Value.int .i64 0, Value.int .i64 0, Value.int .i64 0] (j - i)).toList) := fun ty =>
          run_clear_ba wr ty b (i * 3) (j - i) (cap - i) (by omega) (fun t ht => by
            obtain ⟨⟨z, _, z0, z1, z2⟩, _⟩ := own_cellD HO.out HCl.out (show i + t / 3 < j by omega)
            have h3 : t % 3 = 0 ∨ t % 3 = 1 ∨ t % 3 = 2 := by omega
            rcases h3 with h | h | h
            · rw [show i * 3 + t = (i + t / 3) * 3 by omega, z0]; rfl
            · rw [show i * 3 + t = (i + t / 3) * 3 + 1 by omega, z1]; rfl
            · rw [show i * 3 + t = (i + t / 3) * 3 + 2 by omega, z2]; rfl) (fun t ht => hfz _)
        have hi1 : (0 : Int) ≤ (i : Int) := by omega
        have hi2 : (i : Int) ≤ (j : Int) := by omega
        have hi3 : (j : Int) ≤ (cap : Int) := by omega
        have hcne : cap ≠ i := by omega
        clear hfz hbw hy y0 y1 y2
        go_wp2
        go_ret
        have HF := HTk.out
        rw [List.take_of_length_le (show ss.length ≤ j by rw [HNl.out]; omega)] at HF
        have hfl : (ss.filter (fun x => !p x)).length = i := by rw [← HF, List.length_take, HCl.out]; omega
        refine ⟨_, rfl, ?_, HGr.out.trans (grown_setCells _ _ _)⟩
        rw [hfl, ← HF]
        have hc1 := own_cut HO.out (show i ≤ j by omega)
        have hc2 : (cs.flatMap Du.vals).take (i * 3) = (cs.take i).flatMap Du.vals := flat_take du_vals_length cs i
        rw [hc2] at hc1
        exact own_past_cells _ _ _ hc1 (Nat.le_refl _)

theorem info_ba : (Tryz.prog.info? 59).map (fun i => (i.zero, i.size, i.bytes)) = some (some (.agg #[.int .i64 0, .int .i64 0, .int .i64 0]), 3, 24) := by kernel_rfl
set_option maxHeartbeats 2000000 in
set_option maxRecDepth 100000 in
theorem cloneBa_any (a : Option Addr) (n cap : Nat) (xs : List Du) (w : World) (h : Rd Du.vals 3 w a n xs) (hn : n ≤ 1000000) :
    Calls Tryz.prog 108 #[.slice a n cap] w fun e w' => ∃ v, e = .returned v ∧ w'.ownsRow w.heap.size 59 3 v n (xs.flatMap Du.vals) ∧ Below w.heap.size w w' := by
  have q22 : ∀ (w : World) (a : Option Addr) (n c n' c' : Nat), (binOp .eql 56 (.slice a n c) (.slice none n' c')).run Tryz.prog w = .ok (.bool a.isNone) w := fun w a n c n' c' => Lib.run_eql_slice_nil w _ _ a n c n' c' Tryz.underlying56
  cases a with
  | none =>
    obtain ⟨rfl, rfl⟩ := h.nil_of
    go_enter Tryz.func108, Tryz.ntmps108
    go_wp2_with fail
    go_ret
    exact ⟨_, rfl, World.ownsRow_nil _ _ _ _, Below.refl _ _⟩
  | some ad =>
    obtain ⟨i0, hi, hz0, hz1, hz2⟩ := info_parts info_ba
    have H := Lib.hid h
    clear h
    go_enter Tryz.func108, Tryz.ntmps108
    go_wp2_with (at_builtin; refine wpList_append_own _ rfl _ _ 56 rfl w.heap.size 59 i0 _ 3 24 Tryz.underlying56 hi hz0 hz1 hz2 rfl (by decide) _ 0 [] rfl (World.ownsRow_made w #[] 0 (Nat.le_refl _) (Nat.zero_le _) (by simp)) ad n cap (xs.flatMap Du.vals) rfl ?qc1 ?qc2 ?qc3 ?qc4 ?qc5 ?qc6 ?_)
    case qc1 => rw [flat_length du_vals_length, H.out.len]
    case qc2 =>
      intro j u hj
      exact Rd.news (H.out.below' ((Below.refl _ w).alloc (Nat.le_refl _) _)) du_vals_length j u hj
    case qc3 => exact du_one xs
    case qc4 => unfold maxLen; omega
    case qc5 => omega
    case qc6 => simp
    intro v' w1 hown hgrow hnil
    go_wp2_with fail
    go_ret
    refine ⟨v', rfl, by simpa using hown, ?_⟩
    exact ((Below.refl _ w).alloc (Nat.le_refl _) _).grown hgrow (by simp) (by intro k hk; simp [Value.ownBlock] at hk; omega)
end Go.Proofs.YtehedodogkhmgaaGreat
