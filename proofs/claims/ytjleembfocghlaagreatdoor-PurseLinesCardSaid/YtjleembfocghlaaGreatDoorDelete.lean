/- The walks of slices.IndexFunc and slices.DeleteFunc of accounts. -/
import Derived.Test.YtjleembfocghlaaGreatDoorSort
import Derived.Lib.SliceRun
set_option linter.unusedSimpArgs false
set_option linter.unusedVariables false
namespace Go.Proofs.YtjleembfocghlaaGreatDoor
open Go.RowKit Go.Shelf

/-- the first place at which p holds; -1 if there is none -/
def idxI {α : Type} (p : α → Bool) (xs : List α) : Int := match xs.findIdx? p with | none => -1 | some i => i
theorem Rd.acc {w : World} {a : Option Addr} {n : Nat} {xs : List (Int × Int)} (h : Rd accs 2 w a n xs) {i : Nat} (hi : i < n) : ∃ b off x, a = some ⟨b, off, none⟩ ∧ b < w.heap.size ∧ xs[i]? = some x ∧ w.cell? ⟨b, off + i * 2, none⟩ = some (.int .i64 x.1) ∧ w.cell? ⟨b, off + i * 2 + 1, none⟩ = some (.int .i64 x.2) := by
  obtain ⟨b, off, x, h1, h2, h3, h4⟩ := h.read i hi
  exact ⟨b, off, x, h1, h2, h3, h4 0 (by omega), h4 1 (by omega)⟩
theorem any_take_snoc {α : Type} {p : α → Bool} {xs : List α} {k : Nat} {x : α} (h : xs[k]? = some x) : (xs.take (k + 1)).any p = ((xs.take k).any p || p x) := by rw [take_succ_snoc h]; simp
theorem idxI_at {α : Type} {p : α → Bool} {xs : List α} {k : Nat} {x : α} (h : xs[k]? = some x) (h1 : (xs.take k).any p = false) (h2 : p x = true) : idxI p xs = k := by
  have : xs.findIdx? p = some k := by
    rw [List.findIdx?_eq_some_iff_getElem]
    have hk := (List.getElem?_eq_some_iff.1 h)
    have hkl := hk.1
    refine ⟨hk.1, by rw [hk.2]; exact h2, fun j hj => ?_⟩
    rw [List.any_eq_false] at h1
    exact h1 _ (List.mem_of_getElem? (i := j) (by rw [List.getElem?_take_of_lt hj, List.getElem?_eq_getElem (by omega)]))
  unfold idxI; rw [this]
theorem idxI_none {α : Type} {p : α → Bool} {xs : List α} (h1 : xs.any p = false) : idxI p xs = -1 := by
  have : xs.findIdx? p = none := by rw [List.findIdx?_eq_none_iff]; intro x hx; rw [List.any_eq_false] at h1; simpa using h1 x hx
  unfold idxI; rw [this]

set_option maxRecDepth 100000 in
set_option maxHeartbeats 4000000 in
theorem indexAcc_any (g : Nat) (cb : Array Value) (eg : ∀ args w, (callFunc g args).run Tryz.prog w = .ok (.enter g args) w) (p : Int × Int → Bool) (a : Option Addr) (n cap : Nat) (xs : List (Int × Int)) (w : World) (h : Rd accs 2 w a n xs)
    (hp : ∀ W x, x ∈ xs → Below w.heap.size w W → Calls Tryz.prog g (#[kAcc x] ++ cb) W fun e W' => e = .returned (.bool (p x)) ∧ Below W.heap.size W W') :
    Calls Tryz.prog 114 #[.slice a n cap, .func (.func g) #[] cb] w fun e w' => e = .returned (.int .i64 (idxI p xs)) ∧ Below w.heap.size w w' := by
  have Hl := Lib.hid h.len
  have hm := h.cap
  unfold maxLen at hm
  have HP := Lib.hid hp
  clear hp
  go_enter Tryz.func114, Tryz.ntmps114
  go_wp2_with fail
  go_loopw [8] (fun i wr => ∃ k : Nat, k ≤ n ∧ i = .int .i64 k ∧ (xs.take k).any p = false ∧ Below w.heap.size w wr) (fun i _ => n - (intOf i).toNat)
  case atStart => exact ⟨0, Nat.zero_le _, rfl, rfl, Below.refl _ _⟩
  case round =>
    obtain ⟨k, hk, rfl, hno, hB⟩ := hrel
    have h1 := h.below' hB
    have HB := Lib.hid hB
    have Hno := Lib.hid hno
    clear hno hB h
    by_cases hlt : k < n
    · obtain ⟨b, off, x, rfl, hb, hx, x0, x1⟩ := h1.acc hlt
      have Hx := Lib.hid hx
      have hcall := HP.out wr x (List.mem_of_getElem? hx) HB.out
      clear hx
      cases hpx : p x with
      | true =>
        rw [hpx] at hcall
        have HE := Lib.hid (idxI_at Hx.out Hno.out hpx)
        clear hpx
        go_wp2_with (go_at_fn g; refine hcall.mono ?_; rintro e w' ⟨rfl, hB2⟩)
        go_ret
        exact ⟨ret_int HE.out.symm, below_then HB.out hB2 (Nat.le_refl _)⟩
      | false =>
        rw [hpx] at hcall
        have HE := Lib.hid (show (xs.take (k + 1)).any p = false by rw [any_take_snoc Hx.out, Hno.out, hpx]; rfl)
        clear hpx
        go_wp2_with (go_at_fn g; refine hcall.mono ?_; rintro e w' ⟨rfl, hB2⟩)
        exact ⟨⟨k + 1, by omega, by go_num, HE.out, below_then HB.out hB2 (Nat.le_refl _)⟩, by simp [intOf]; omega⟩
    · go_wp2_with fail
      go_ret
      exact ⟨ret_int (by rw [idxI_none (by have := Hno.out; rwa [List.take_of_length_le (by rw [Hl.out]; omega)] at this)]), HB.out⟩

section
variable {W W' : World} {base g cap n m : Nat} {e : TypeId} {k : Nat}
theorem own_cut {xs : List Value} (h : W.ownsRow base e k (.slice (some ⟨g, 0, none⟩) n cap) n xs) (hm : m ≤ n) : W.ownsRow base e k (.slice (some ⟨g, 0, none⟩) m cap) m (xs.take (m * k)) := by
  rcases h.2 with ⟨h1, _⟩ | ⟨g', cap', cur, hv, hb, hg, hc, hx, hs, ht⟩
  · cases h1
  · injection hv with h1 h2 h3
    cases h1; cases h3
    have hmk : m * k ≤ n * k := Nat.mul_le_mul_right k hm
    refine ⟨by rw [List.length_take, h.1]; omega, .inr ⟨g, cap, cur, rfl, hb, hg, by omega, hx, hs, ?_⟩⟩
    rw [← ht, List.take_take, Nat.min_eq_left hmk]
theorem own_past {xs : List Value} (h : W.ownsRow base e k (.slice (some ⟨g, 0, none⟩) m cap) m xs) {o : Nat} (ho : m * k ≤ o) (v : Value) : (W.setCell ⟨g, o, none⟩ v).ownsRow base e k (.slice (some ⟨g, 0, none⟩) m cap) m xs := by
  rcases h.2 with ⟨h1, _⟩ | ⟨g', cap', cur, hv, hb, hg, hc, hx, hs, ht⟩
  · cases h1
  · injection hv with h1 h2 h3
    cases h1; cases h3
    refine ⟨h.1, .inr ⟨g, cap, cur.setIfInBounds o v, rfl, hb, ?_, hc, hx, by simp [hs], ?_⟩⟩
    · simp [World.setCell, Array.getElem?_modify, hg]
    · rw [Array.toList_setIfInBounds, List.take_set_of_le ho, ht]
theorem own_past_cells {xs : List Value} : ∀ (vs : List Value) (o : Nat) (W : World), W.ownsRow base e k (.slice (some ⟨g, 0, none⟩) m cap) m xs → m * k ≤ o → (W.setCells g o vs).ownsRow base e k (.slice (some ⟨g, 0, none⟩) m cap) m xs
  | [], _, _, h, _ => h
  | v :: r, o, W, h, ho => own_past_cells r (o + 1) _ (own_past h ho v) (by omega)
theorem grown_setCells : ∀ (vs : List Value) (o : Nat) (W : World), W.grownBy (W.setCells g o vs) (some g)
  | [], _, W => ⟨rfl, rfl, rfl, Nat.le_refl _, fun _ _ _ => rfl⟩
  | v :: r, o, W => (show W.grownBy (W.setCell ⟨g, o, none⟩ v) (some g) from ⟨rfl, rfl, rfl, (KeepsWalks.setCell W _ v).size, fun k _ hk => Below.heap_setCell _ _ _ k (fun e => hk (by rw [e]))⟩).trans (grown_setCells r (o + 1) _)
theorem own_set {cs : List (Int × Int)} (h : W.ownsRow base e 2 (.slice (some ⟨g, 0, none⟩) n cap) n (cs.flatMap accs)) (hl : cs.length = n) {i : Nat} (hi : i < n) (x : Int × Int) :
    ((W.setCell ⟨g, i * 2, none⟩ (.int .i64 x.1)).setCell ⟨g, i * 2 + 1, none⟩ (.int .i64 x.2)).ownsRow base e 2 (.slice (some ⟨g, 0, none⟩) n cap) n ((cs.set i x).flatMap accs) := by
  rcases h.2 with ⟨h1, _⟩ | ⟨g', cap', cur, hv, hb, hg, hc, hx, hs, ht⟩
  · cases h1
  · injection hv with h1 h2 h3
    cases h1; cases h3
    have hf := flat_length accs_length (cs.set i x)
    rw [List.length_set, hl] at hf
    refine ⟨hf, .inr ⟨g, cap, (cur.setIfInBounds (i * 2) (.int .i64 x.1)).setIfInBounds (i * 2 + 1) (.int .i64 x.2), rfl, hb, ?_, hc, hx, by simp [hs], ?_⟩⟩
    · simp [World.setCell, Array.getElem?_modify, hg]
    · apply List.ext_getElem?
      intro t
      by_cases htn : t < n * 2
      · have hcur : t < cur.size := by rw [hs]; omega
        have hset : t / 2 < (cs.set i x).length := by rw [List.length_set, hl]; omega
        have hcs : t / 2 < cs.length := by omega
        have e1 := flat_at accs_length (cs.set i x) (t / 2) _ (t % 2) (List.getElem?_eq_getElem hset) (by omega)
        have e2 := flat_at accs_length cs (t / 2) _ (t % 2) (List.getElem?_eq_getElem hcs) (by omega)
        rw [show t / 2 * 2 + t % 2 = t by omega] at e1 e2
        have e3 : (cur.toList.take (n * 2))[t]? = (cs.flatMap accs)[t]? := by rw [ht]
        rw [List.getElem?_take_of_lt htn, Array.getElem?_toList] at e3
        rw [List.getElem?_take_of_lt htn, Array.getElem?_toList, e1, Array.getElem?_setIfInBounds, Array.getElem?_setIfInBounds, List.getElem_set]
        by_cases hti : i = t / 2
        · subst hti
          rw [if_pos rfl]
          rcases Nat.mod_two_eq_zero_or_one t with hz | hz
          · rw [if_neg (by omega), if_pos (by omega), hz]; simp [accs, show t / 2 * 2 < cur.size by omega]
          · rw [if_pos (by omega), hz]; simp [accs, show t / 2 * 2 + 1 < cur.size by omega]
        · rw [if_neg hti, if_neg (by omega), if_neg (by omega), e3, e2]
      · rw [List.getElem?_take_eq_none (by omega), List.getElem?_eq_none (by rw [hf]; omega)]
theorem own_cell {cs : List (Int × Int)} (h : W.ownsRow base e 2 (.slice (some ⟨g, 0, none⟩) n cap) n (cs.flatMap accs)) (hl : cs.length = n) {i : Nat} (hi : i < n) :
    (∃ x, cs[i]? = some x ∧ W.cell? ⟨g, i * 2, none⟩ = some (.int .i64 x.1) ∧ W.cell? ⟨g, i * 2 + 1, none⟩ = some (.int .i64 x.2)) ∧ (∀ j, W.frozen? ⟨g, j, none⟩ = false) ∧ base ≤ g ∧ g < W.heap.size ∧ n ≤ cap := by
  have h0 := h
  rcases h.2 with ⟨h1, _⟩ | ⟨g', cap', cur, hv, hb, hg, hc, hx, hs, ht⟩
  · cases h1
  · injection hv with h1 h2 h3
    cases h1; cases h3
    refine ⟨⟨cs[i], List.getElem?_eq_getElem (by omega), ?_, ?_⟩, fun j => by simp [World.frozen?, hg], hb, (Array.getElem?_eq_some_iff.1 hg).1, hc⟩
    · have := h0.cells (g := g) rfl (i * 2 + 0) (.int .i64 cs[i].1) (by rw [flat_at accs_length cs i _ 0 (List.getElem?_eq_getElem (by omega)) (by omega)]; rfl)
      rw [Addr.add_lit] at this; simpa using this
    · have := h0.cells (g := g) rfl (i * 2 + 1) (.int .i64 cs[i].2) (by rw [flat_at accs_length cs i _ 1 (List.getElem?_eq_getElem (by omega)) (by omega)]; rfl)
      rw [Addr.add_lit] at this; simpa using this
end
structure Boxed2 (W : World) (B : Nat) (x : Int × Int) : Prop where
  c0 : W.cell? ⟨B, 0, none⟩ = some (.int .i64 x.1)
  c1 : W.cell? ⟨B, 1, none⟩ = some (.int .i64 x.2)
theorem Boxed2.new (w : World) (x : Int × Int) : Boxed2 (w.alloc (.cells #[.int .i64 x.1, .int .i64 x.2] 81)) w.heap.size x := ⟨by simp, by simp⟩
theorem Boxed2.later {W W' : World} {B : Nat} {x : Int × Int} (h : Boxed2 W B x) (hB : Below W.heap.size W W') : W'.cell? ⟨B, 0, none⟩ = some (.int .i64 x.1) ∧ W'.cell? ⟨B, 1, none⟩ = some (.int .i64 x.2) :=
  ⟨(hB.cell (World.block_lt_of_cell? _ _ h.c0)).trans h.c0, (hB.cell (World.block_lt_of_cell? _ _ h.c1)).trans h.c1⟩
theorem grownBy_setCell'' (W : World) (b o : Nat) (v : Value) : W.grownBy (W.setCell ⟨b, o, none⟩ v) (some b) :=
  ⟨rfl, rfl, rfl, (KeepsWalks.setCell W _ v).size, fun k _ hk => Below.heap_setCell _ _ _ k (fun e => hk (by rw [e]))⟩
theorem flat_take {α : Type} {E : α → List Value} {k : Nat} (hk : ∀ x, (E x).length = k) : ∀ (xs : List α) (i : Nat), (xs.flatMap E).take (i * k) = (xs.take i).flatMap E
  | [], i => by simp
  | x :: r, 0 => by simp
  | x :: r, i + 1 => by
    rw [List.flatMap_cons, List.take_append, hk, List.take_of_length_le (by rw [hk, Nat.succ_mul]; omega), show (i + 1) * k - k = i * k by rw [Nat.succ_mul]; omega, flat_take hk r i]
    simp
theorem zeroAcc (w : World) : (zeroValue 81).run Tryz.prog w = .ok (.agg #[.int .i64 0, .int .i64 0]) w := by kernel_rfl
theorem zeroCells_one (n : Nat) : ∀ v ∈ (Builtin.zeroCells #[Value.int .i64 0, Value.int .i64 0] n).toList, v.oneCell' = true := by
  intro v hv
  simp [Builtin.zeroCells] at hv
  obtain ⟨a, _, ha⟩ := hv
  rcases Nat.mod_two_eq_zero_or_one a with h | h <;> (rw [h] at ha; subst ha; rfl)
theorem zeroCells_len (n : Nat) : (Builtin.zeroCells #[Value.int .i64 0, Value.int .i64 0] n).toList.length = n * 2 := by simp [Builtin.zeroCells]
theorem run_clear_acc (w : World) (ty : TypeId) (b o n c : Nat) (hn : 0 < n) (hc : ∀ j, j < n * 2 → (w.cell? ⟨b, o + j, none⟩).isSome = true) (hf : ∀ j, j < n * 2 → w.frozen? ⟨b, o + j, none⟩ = false) :
    (Builtin.clear_ #[124] ty #[.slice (some ⟨b, o, none⟩) n c]).run Tryz.prog w = .ok (.tuple #[]) (w.setCells b o (Builtin.zeroCells #[Value.int .i64 0, Value.int .i64 0] n).toList) := by
  have hst := run_storeCells_cells (P := Tryz.prog) b o (Builtin.zeroCells #[Value.int .i64 0, Value.int .i64 0] n).toList 0 w (by rw [zeroCells_len]; simpa using hc) (by rw [zeroCells_len]; simpa using hf) (zeroCells_one n)
  simp only [Nat.add_zero] at hst
  obtain ⟨m, rfl⟩ : ∃ m, n = m + 1 := ⟨n - 1, by omega⟩
  simp [Builtin.clear_, run_underlying Tryz.underlying124, zeroAcc, Value.cells, hst]

theorem findIdx_facts {α : Type} {p : α → Bool} {xs : List α} : (idxI p xs = -1 ∧ xs.filter (fun x => !p x) = xs) ∨ ∃ i, i < xs.length ∧ idxI p xs = (i : Int) ∧ (xs.take (i + 1)).filter (fun x => !p x) = xs.take i := by
  unfold idxI
  cases h : xs.findIdx? p with
  | none =>
    rw [List.findIdx?_eq_none_iff] at h
    exact .inl ⟨rfl, List.filter_eq_self.2 fun x hx => by simp [h x hx]⟩
  | some i =>
    rw [List.findIdx?_eq_some_iff_getElem] at h
    obtain ⟨hi, hp, hno⟩ := h
    refine .inr ⟨i, hi, rfl, ?_⟩
    rw [take_succ_snoc (List.getElem?_eq_getElem hi), List.filter_append]
    have h1 : (xs.take i).filter (fun x => !p x) = xs.take i := List.filter_eq_self.2 fun x hx => by
      obtain ⟨j, hj, rfl⟩ := List.getElem_of_mem hx
      rw [List.length_take] at hj
      have := hno j (by omega)
      simp only [List.getElem_take]
      simp [this]
    rw [h1]
    simp [hp]

set_option maxRecDepth 100000 in
set_option maxHeartbeats 4000000 in
theorem deleteAcc_any (g : Nat) (cb : Array Value) (eg : ∀ args w, (callFunc g args).run Tryz.prog w = .ok (.enter g args) w) (p : Int × Int → Bool) (base : Nat) (v : Value) (ss : List (Int × Int)) (w : World)
    (hrow : w.ownsRow base 81 2 v ss.length (ss.flatMap accs)) (hn : ss.length ≤ 1000000)
    (hp : ∀ W x, x ∈ ss → w.grownBy W v.ownBlock → Calls Tryz.prog g (#[kAcc x] ++ cb) W fun e W' => e = .returned (.bool (p x)) ∧ Below W.heap.size W W') :
    Calls Tryz.prog 96 #[v, .func (.func g) #[] cb] w fun e w' => ∃ v', e = .returned v' ∧
      w'.ownsRow base 81 2 v' (ss.filter (fun x => !p x)).length ((ss.filter (fun x => !p x)).flatMap accs) ∧ w.grownBy w' v.ownBlock := by
  obtain ⟨a, cap, rfl, hcap, hrd, hlow⟩ := Rd.of_own hrow accs_length (by omega) rfl (by unfold maxLen; omega)
  have hidx := indexAcc_any g cb eg p a ss.length cap ss w hrd (fun W x hx hB => hp W x hx ⟨hB.os, hB.tape, hB.output, hB.size, fun k hk _ => hB.block k hk⟩)
  rcases findIdx_facts (p := p) (xs := ss) with ⟨e1, e2⟩ | ⟨i0, hi0, e1, e2⟩
  · rw [e1] at hidx
    rw [e2]
    clear e1 e2
    have HR := Lib.hid hrow
    clear hp hrow hrd hlow
    go_enter Tryz.func96, Tryz.ntmps96
    go_wp2_with (go_at_call 114; refine hidx.mono ?_; rintro e w' ⟨rfl, hB⟩)
    go_ret
    exact ⟨_, rfl, HR.out.kept (grown_of_below hB) (by cases a with | none => exact .inl rfl | some q => exact .inr (by simp [Value.ownBlock])), ⟨hB.os, hB.tape, hB.output, hB.size, fun k hk _ => hB.block k hk⟩⟩
  · rw [e1] at hidx
    obtain ⟨b, off, x00, rfl, _⟩ := hrd.acc hi0
    have hoff : off = 0 := by
      rcases hrow.2 with ⟨h1, _⟩ | ⟨g', cap', cur, hv, _⟩
      · cases h1
      · injection hv with h1; injection h1 with h1; injection h1
    subst hoff
    have HP := Lib.hid hp
    have HE2 := Lib.hid e2
    have hn9 : ss.length ≤ 9223372036854775807 := by omega
    have hne1 : ((i0 : Int) == -1) = false := beq_eq_false_iff_ne.2 (by omega)
    obtain ⟨hbase, hblt⟩ := hlow _ rfl
    have HR := Lib.hid hrow
    clear hp e1 e2 hrd hlow hrow
    obtain ⟨N, hN⟩ : ∃ N, ss.length = N := ⟨_, rfl⟩
    rw [hN] at hidx HR hn9 hcap hi0 hn
    have HNl := Lib.hid hN
    rw [hN]
    clear hN
    go_enter Tryz.func96, Tryz.ntmps96
    go_wp2_with (go_at_call 114; refine hidx.mono ?_; rintro e w' ⟨rfl, hB⟩)
    have HB := Lib.hid hB
    clear hB hidx
    have HR1 := Lib.hid (HR.out.kept (grown_of_below HB.out) (.inr (by simp [Value.ownBlock])))
    have Hg1 := Lib.hid (show w.grownBy w' (some b) from ⟨HB.out.os, HB.out.tape, HB.out.output, HB.out.size, fun k hk _ => HB.out.block k hk⟩)
    go_loopw [5, 6] (fun si sj wr => ∃ (i j : Nat) (cs : List (Int × Int)), si = .int .i64 i ∧ sj = .int .i64 j ∧ i < j ∧ j ≤ N ∧ cs.length = N ∧ wr.ownsRow base 81 2 (.slice (some ⟨b, 0, none⟩) N cap) N (cs.flatMap accs) ∧
      cs.take i = (ss.take j).filter (fun x => !p x) ∧ cs.drop j = ss.drop j ∧ w.grownBy wr (some b)) (fun _ sj _ => N - (intOf sj).toNat)
    case atStart => exact ⟨i0, i0 + 1, ss, rfl, by go_num, by omega, by omega, HNl.out, HR1.out, HE2.out.symm, rfl, Hg1.out⟩
    case round =>
      obtain ⟨i, j, cs, rfl, rfl, hij, hjn, hcl, hown, htk, hdr, hgr⟩ := hrel
      have HO := Lib.hid hown
      have HTk := Lib.hid htk
      have HDr := Lib.hid hdr
      have HGr := Lib.hid hgr
      have HCl := Lib.hid hcl
      clear hown htk hdr hgr HR1 Hg1 HB
      by_cases hlt : j < N
      · obtain ⟨⟨x, hx, x0, x1⟩, hfz, _, hbw, _⟩ := own_cell HO.out HCl.out hlt
        obtain ⟨⟨y, hy, y0, y1⟩, _⟩ := own_cell HO.out HCl.out (show i < N by omega)
        have hj0 : (0 : Int) ≤ (j : Int) := by omega
        have hsx : ss[j]? = some x := by
          have h1 : (cs.drop j)[0]? = (ss.drop j)[0]? := by rw [HDr.out]
          rw [List.getElem?_drop, List.getElem?_drop] at h1
          simpa [hx] using h1.symm
        have hdr' : cs.drop (j + 1) = ss.drop (j + 1) := by rw [← List.drop_drop, ← List.drop_drop, HDr.out]
        have HDr' := Lib.hid hdr'
        have Hsx := Lib.hid hsx
        have hga : w.grownBy (wr.alloc (.cells #[.int .i64 x.1, .int .i64 x.2] 81)) (some b) := HGr.out.trans (World.grownBy_alloc _ _ _)
        have hcall := HP.out _ x (List.mem_of_getElem? hsx) hga
        have hba := (Below.refl wr.heap.size wr).alloc (Nat.le_refl _) (.cells #[.int .i64 x.1, .int .i64 x.2] 81)
        have hoa := HO.out.alloc (.cells #[.int .i64 x.1, .int .i64 x.2] 81)
        have HOa := Lib.hid hoa
        have HGa := Lib.hid hga
        have Hcl' := Lib.hid HCl.out
        clear hdr' hsx hga hba hoa hx hy
        cases hpx : p x with
        | true =>
          rw [hpx] at hcall
          have HF := Lib.hid (show (ss.take (j + 1)).filter (fun x => !p x) = (ss.take j).filter (fun x => !p x) by rw [take_succ_snoc Hsx.out]; simp [hpx])
          clear hpx
          go_wp2_with (go_at_fn g; refine hcall.mono ?_; rintro e w2 ⟨rfl, hB2⟩)
          refine ⟨⟨i, j + 1, cs, rfl, by go_num, by omega, by omega, HCl.out, ?_, ?_, HDr'.out, ?_⟩, by simp [intOf]; omega⟩
          · exact HOa.out.kept (grown_of_below hB2) (.inr (by simp [Value.ownBlock]))
          · rw [HF.out]; exact HTk.out
          · exact HGa.out.trans (grown_of_below hB2 |>.but _)
        | false =>
          rw [hpx] at hcall
          have HF := Lib.hid (show (ss.take (j + 1)).filter (fun x => !p x) = (ss.take j).filter (fun x => !p x) ++ [x] by rw [take_succ_snoc Hsx.out]; simp [hpx])
          clear hpx
          have hbx := Boxed2.new wr x
          go_wp2_with (go_at_fn g; refine hcall.mono ?_; rintro e w2 ⟨rfl, hB2⟩; obtain ⟨z0, z1⟩ := hbx.later hB2; have HO2 := Lib.hid (HOa.out.kept (grown_of_below hB2) (.inr (by simp [Value.ownBlock]))); obtain ⟨⟨y2, _, v0, v1⟩, hfz2, _, hbw2, _⟩ := own_cell HO2.out Hcl'.out (show i < N by omega); have hfa := hfz2 (i * 2); have hfb := hfz2 (i * 2 + 1); clear hfz2)
          have HG2 := Lib.hid (HGa.out.trans ((grown_of_below hB2).but (some b)))
          refine ⟨⟨i + 1, j + 1, cs.set i x, by go_num, by go_num, by omega, by omega, by rw [List.length_set]; exact HCl.out, own_set HO2.out Hcl'.out (by omega) x, ?_, ?_, ?_⟩, by simp [intOf]; omega⟩
          · rw [HF.out, ← HTk.out]
            have hil : i < cs.length := by rw [HCl.out]; omega
            rw [List.take_add_one, List.take_set_of_le (Nat.le_refl _)]
            simp [hil]
          · rw [List.drop_set_of_lt (by omega)]; exact HDr'.out
          · exact (HG2.out.trans (grownBy_setCell'' _ _ _ _)).trans (grownBy_setCell'' _ _ _ _)
      · obtain rfl : j = N := by omega
        obtain ⟨⟨y, hy, y0, y1⟩, hfz, _, hbw, hcap2⟩ := own_cell HO.out HCl.out (show i < j by omega)
        have hclr : ∀ ty, (Builtin.clear_ #[124] ty #[.slice (some ⟨b, i * 2, none⟩) (j - i) (cap - i)]).run Tryz.prog wr = .ok (.tuple #[]) (wr.setCells b (i * 2) (Builtin.zeroCells #[Value.int .i64 0, Value.int .i64 0] (j - i)).toList) := fun ty =>
          run_clear_acc wr ty b (i * 2) (j - i) (cap - i) (by omega) (fun t ht => by
            obtain ⟨⟨z, _, z0, z1⟩, _⟩ := own_cell HO.out HCl.out (show i + t / 2 < j by omega)
            rcases Nat.mod_two_eq_zero_or_one t with h | h
            · rw [show i * 2 + t = (i + t / 2) * 2 by omega, z0]; rfl
            · rw [show i * 2 + t = (i + t / 2) * 2 + 1 by omega, z1]; rfl) (fun t ht => hfz _)
        have hi1 : (0 : Int) ≤ (i : Int) := by omega
        have hi2 : (i : Int) ≤ (j : Int) := by omega
        have hi3 : (j : Int) ≤ (cap : Int) := by omega
        have hcne : cap ≠ i := by omega
        clear hfz hbw hy y0 y1
        go_wp2
        go_ret
        have HF := HTk.out
        rw [List.take_of_length_le (show ss.length ≤ j by rw [HNl.out]; omega)] at HF
        have hfl : (ss.filter (fun x => !p x)).length = i := by rw [← HF, List.length_take, HCl.out]; omega
        refine ⟨_, rfl, ?_, HGr.out.trans (grown_setCells _ _ _)⟩
        rw [hfl, ← HF]
        have hc1 := own_cut HO.out (show i ≤ j by omega)
        have hc2 : (cs.flatMap accs).take (i * 2) = (cs.take i).flatMap accs := flat_take accs_length cs i
        rw [hc2] at hc1
        exact own_past_cells _ _ _ hc1 (Nat.le_refl _)
end Go.Proofs.YtjleembfocghlaaGreatDoor
