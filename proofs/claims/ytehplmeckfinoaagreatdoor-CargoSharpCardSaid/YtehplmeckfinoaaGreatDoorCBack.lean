/- The walks of slices.IndexFunc and slices.DeleteFunc of numbers. -/
import Derived.Test.YtehplmeckfinoaaGreatDoorCThere
import Derived.Lib.SliceRun
import Derived.Lib.OwnBridge
import Derived.Sort.OwnSortedInts
import Derived.Test.YtehplmeckfinoaaGreatDoorCCountIt
set_option linter.unusedSimpArgs false
set_option linter.unusedVariables false
namespace Go.Proofs.YtehplmeckfinoaaGreatDoor
open Go.RowKit Go.Shelf
def idxI {α : Type} (p : α → Bool) (xs : List α) : Int := match xs.findIdx? p with | none => -1 | some i => i
theorem any_take_snoc {α : Type} {p : α → Bool} {xs : List α} {k : Nat} {x : α} (h : xs[k]? = some x) : (xs.take (k + 1)).any p = ((xs.take k).any p || p x) := by rw [take_succ_snoc h]; simp
theorem idxI_at {α : Type} {p : α → Bool} {xs : List α} {k : Nat} {x : α} (h : xs[k]? = some x) (h1 : (xs.take k).any p = false) (h2 : p x = true) : idxI p xs = k := by
 have : xs.findIdx? p = some k := by
  rw [List.findIdx?_eq_some_iff_getElem]
  have hk := (List.getElem?_eq_some_iff.1 h)
  have hkl := hk.1
  refine ⟨hk.1, by rw [hk.2]; exact h2, fun j hj => ?_⟩
  rw [List.any_eq_false] at h1
  exact h1 _ (List.mem_of_getElem? (i := j) (by rw [List.getElem?_take_of_lt hj, List.getElem?_eq_getElem (by omega)]))
 unfold idxI; rw [this]
theorem idxI_none {α : Type} {p : α → Bool} {xs : List α} (h1 : xs.any p = false) : idxI p xs = -1 := by
 have : xs.findIdx? p = none := by rw [List.findIdx?_eq_none_iff]; intro x hx; rw [List.any_eq_false] at h1; simpa using h1 x hx
 unfold idxI; rw [this]
section
variable {W W' : World} {base g cap n m : Nat} {e : TypeId} {k : Nat}
theorem own_cut {xs : List Value} (h : W.ownsRow base e k (.slice (some ⟨g, 0, none⟩) n cap) n xs) (hm : m ≤ n) : W.ownsRow base e k (.slice (some ⟨g, 0, none⟩) m cap) m (xs.take (m * k)) := by
 rcases h.2 with ⟨h1, _⟩ | ⟨g', cap', cur, hv, hb, hg, hc, hx, hs, ht⟩
 · cases h1
 · injection hv with h1 h2 h3
   cases h1; cases h3
   have hmk : m * k ≤ n * k := Nat.mul_le_mul_right k hm
   refine ⟨by rw [List.length_take, h.1]; omega, .inr ⟨g, cap, cur, rfl, hb, hg, by omega, hx, hs, ?_⟩⟩
   rw [← ht, List.take_take, Nat.min_eq_left hmk]
theorem own_past {xs : List Value} (h : W.ownsRow base e k (.slice (some ⟨g, 0, none⟩) m cap) m xs) {o : Nat} (ho : m * k ≤ o) (v : Value) : (W.setCell ⟨g, o, none⟩ v).ownsRow base e k (.slice (some ⟨g, 0, none⟩) m cap) m xs := by
 rcases h.2 with ⟨h1, _⟩ | ⟨g', cap', cur, hv, hb, hg, hc, hx, hs, ht⟩
 · cases h1
 · injection hv with h1 h2 h3
   cases h1; cases h3
   refine ⟨h.1, .inr ⟨g, cap, cur.setIfInBounds o v, rfl, hb, ?_, hc, hx, by simp [hs], ?_⟩⟩
   · simp [World.setCell, Array.getElem?_modify, hg]
   · rw [Array.toList_setIfInBounds, List.take_set_of_le ho, ht]
theorem own_past_cells {xs : List Value} : ∀ (vs : List Value) (o : Nat) (W : World), W.ownsRow base e k (.slice (some ⟨g, 0, none⟩) m cap) m xs → m * k ≤ o → (W.setCells g o vs).ownsRow base e k (.slice (some ⟨g, 0, none⟩) m cap) m xs
 | [], _, _, h, _ => h
 | v :: r, o, W, h, ho => own_past_cells r (o + 1) _ (own_past h ho v) (by omega)
theorem grown_setCells : ∀ (vs : List Value) (o : Nat) (W : World), W.grownBy (W.setCells g o vs) (some g)
 | [], _, W => ⟨rfl, rfl, rfl, Nat.le_refl _, fun _ _ _ => rfl⟩
 | v :: r, o, W => (show W.grownBy (W.setCell ⟨g, o, none⟩ v) (some g) from ⟨rfl, rfl, rfl, (KeepsWalks.setCell W _ v).size, fun k _ hk => Below.heap_setCell _ _ _ k (fun e => hk (by rw [e]))⟩).trans (grown_setCells r (o + 1) _)
end
theorem grown_set1 (W : World) (b o : Nat) (v : Value) : W.grownBy (W.setCell ⟨b, o, none⟩ v) (some b) :=
 ⟨rfl, rfl, rfl, (KeepsWalks.setCell W _ v).size, fun k _ hk => Below.heap_setCell _ _ _ k (fun e => hk (by rw [e]))⟩
theorem flat_take {α : Type} {E : α → List Value} {k : Nat} (hk : ∀ x, (E x).length = k) : ∀ (xs : List α) (i : Nat), (xs.flatMap E).take (i * k) = (xs.take i).flatMap E
 | [], i => by simp
 | x :: r, 0 => by simp
 | x :: r, i + 1 => by
   rw [List.flatMap_cons, List.take_append, hk, List.take_of_length_le (by rw [hk, Nat.succ_mul]; omega), show (i + 1) * k - k = i * k by rw [Nat.succ_mul]; omega, flat_take hk r i]
   simp
theorem findIdx_facts {α : Type} {p : α → Bool} {xs : List α} : (idxI p xs = -1 ∧ xs.filter (fun x => !p x) = xs) ∨ ∃ i, i < xs.length ∧ idxI p xs = (i : Int) ∧ (xs.take (i + 1)).filter (fun x => !p x) = xs.take i := by
 unfold idxI
 cases h : xs.findIdx? p with
 | none =>
   rw [List.findIdx?_eq_none_iff] at h
   exact .inl ⟨rfl, List.filter_eq_self.2 fun x hx => by simp [h x hx]⟩
 | some i =>
   rw [List.findIdx?_eq_some_iff_getElem] at h
   obtain ⟨hi, hp, hno⟩ := h
   refine .inr ⟨i, hi, rfl, ?_⟩
   rw [take_succ_snoc (List.getElem?_eq_getElem hi), List.filter_append]
   have h1 : (xs.take i).filter (fun x => !p x) = xs.take i := List.filter_eq_self.2 fun x hx => by
    obtain ⟨j, hj, rfl⟩ := List.getElem_of_mem hx
    rw [List.length_take] at hj
    have := hno j (by omega)
    simp only [List.getElem_take]
    simp [this]
   rw [h1]
   simp [hp]
theorem zeroInt (w : World) : (zeroValue 3).run Tryz.prog w = .ok (.int .i64 0) w := by kernel_rfl
set_option maxRecDepth 100000 in
set_option maxHeartbeats 4000000 in
theorem indexInt_any (g : Nat) (cb : Array Value) (eg : ∀ args w, (callFunc g args).run Tryz.prog w = .ok (.enter g args) w) (p : Int → Bool) (a : Option Addr) (n cap : Nat) (xs : List (Int)) (w : World) (h : Rd ints 1 w a n xs)
 (hp : ∀ W x, x ∈ xs → Below w.heap.size w W → Calls Tryz.prog g (#[Value.int .i64 x] ++ cb) W fun e W' => e = .returned (.bool (p x)) ∧ Below W.heap.size W W') :
 Calls Tryz.prog 111 #[.slice a n cap, .func (.func g) #[] cb] w fun e w' => e = .returned (.int .i64 (idxI p xs)) ∧ Below w.heap.size w w' := by
 have Hl := Hd h.len
 have hm := h.cap
 unfold maxLen at hm
 have HP := Hd hp
 clear hp
 go_enter Tryz.func111, Tryz.ntmps111
 go_wp2_with fail
 go_loopw [8] (fun i wr => ∃ k : Nat, k ≤ n ∧ i = .int .i64 k ∧ (xs.take k).any p = false ∧ Below w.heap.size w wr) (fun i _ => n - (intOf i).toNat)
 case atStart => exact ⟨0, Nat.zero_le _, rfl, rfl, Below.refl _ _⟩
 case round =>
  obtain ⟨k, hk, rfl, hno, hB⟩ := hrel
  have h1 := h.below' hB
  have HB := Hd hB
  have Hno := Hd hno
  clear hno hB h
  by_cases hlt : k < n
  · obtain ⟨b, off, x, rfl, hb, hx, x0⟩ := h1.int hlt
    have Hx := Hd hx
    have hcall := HP.out wr x (List.mem_of_getElem? hx) HB.out
    clear hx
    cases hpx : p x with
    | true =>
      rw [hpx] at hcall
      have HE := Hd (idxI_at Hx.out Hno.out hpx)
      clear hpx
      go_wp2_with (go_at_fn g; refine hcall.mono ?_; rintro e w' ⟨rfl, hB2⟩)
      go_ret
      exact ⟨ret_int HE.out.symm, below_then HB.out hB2 (Nat.le_refl _)⟩
    | false =>
      rw [hpx] at hcall
      have HE := Hd (show (xs.take (k + 1)).any p = false by rw [any_take_snoc Hx.out, Hno.out, hpx]; rfl)
      clear hpx
      go_wp2_with (go_at_fn g; refine hcall.mono ?_; rintro e w' ⟨rfl, hB2⟩)
      exact ⟨⟨k + 1, by omega, by go_num, HE.out, below_then HB.out hB2 (Nat.le_refl _)⟩, by simp [intOf]; omega⟩
  · go_wp2_with fail
    go_ret
    exact ⟨ret_int (by rw [idxI_none (by have := Hno.out; rwa [List.take_of_length_le (by rw [Hl.out]; omega)] at this)]), HB.out⟩
section
variable {W W' : World} {base g cap n m : Nat} {e : TypeId} {k : Nat}
theorem ownI_set {cs : List Int} (h : W.ownsRow base e 1 (.slice (some ⟨g, 0, none⟩) n cap) n (cs.flatMap ints)) (hl : cs.length = n) {i : Nat} (hi : i < n) (x : Int) :
 (W.setCell ⟨g, i, none⟩ (.int .i64 x)).ownsRow base e 1 (.slice (some ⟨g, 0, none⟩) n cap) n ((cs.set i x).flatMap ints) := by
 rcases h.2 with ⟨h1, _⟩ | ⟨g', cap', cur, hv, hb, hg, hc, hx, hs, ht⟩
 · cases h1
 · injection hv with h1 h2 h3
   cases h1; cases h3
   have hf := flat_length ints_length (cs.set i x)
   rw [List.length_set, hl] at hf
   refine ⟨hf, .inr ⟨g, cap, cur.setIfInBounds i (.int .i64 x), rfl, hb, ?_, hc, hx, by simp [hs], ?_⟩⟩
   · simp [World.setCell, Array.getElem?_modify, hg]
   · apply List.ext_getElem?
     intro t
     by_cases htn : t < n * 1
     · have hcur : t < cur.size := by rw [hs]; omega
       have hset : t < (cs.set i x).length := by rw [List.length_set, hl]; omega
       have hcs : t < cs.length := by omega
       have e1 := flat_at ints_length (cs.set i x) t _ 0 (List.getElem?_eq_getElem hset) (by omega)
       have e2 := flat_at ints_length cs t _ 0 (List.getElem?_eq_getElem hcs) (by omega)
       rw [show t * 1 + 0 = t by omega] at e1 e2
       have e3 : (cur.toList.take (n * 1))[t]? = (cs.flatMap ints)[t]? := by rw [ht]
       rw [List.getElem?_take_of_lt htn, Array.getElem?_toList] at e3
       rw [List.getElem?_take_of_lt htn, Array.getElem?_toList, e1, Array.getElem?_setIfInBounds, List.getElem_set]
       by_cases hti : i = t
       · subst hti
         rw [if_pos rfl]; simp [ints, show i < cur.size by omega]
       · rw [if_neg hti, if_neg (by omega), e3, e2]
     · rw [List.getElem?_take_eq_none (by omega), List.getElem?_eq_none (by rw [hf]; omega)]
theorem ownI_cell {cs : List Int} (h : W.ownsRow base e 1 (.slice (some ⟨g, 0, none⟩) n cap) n (cs.flatMap ints)) (hl : cs.length = n) {i : Nat} (hi : i < n) :
 (∃ x, cs[i]? = some x ∧ W.cell? ⟨g, i, none⟩ = some (.int .i64 x)) ∧ (∀ j, W.frozen? ⟨g, j, none⟩ = false) ∧ base ≤ g ∧ g < W.heap.size ∧ n ≤ cap := by
 have h0 := h
 rcases h.2 with ⟨h1, _⟩ | ⟨g', cap', cur, hv, hb, hg, hc, hx, hs, ht⟩
 · cases h1
 · injection hv with h1 h2 h3
   cases h1; cases h3
   refine ⟨⟨cs[i], List.getElem?_eq_getElem (by omega), ?_⟩, fun j => by simp [World.frozen?, hg], hb, (Array.getElem?_eq_some_iff.1 hg).1, hc⟩
   have := h0.cells (g := g) rfl (i * 1 + 0) (.int .i64 cs[i]) (by rw [flat_at ints_length cs i _ 0 (List.getElem?_eq_getElem (by omega)) (by omega)]; rfl)
   rw [Addr.add_lit] at this; simpa using this
end
theorem zeroCellsI_one (n : Nat) : ∀ v ∈ (Builtin.zeroCells #[Value.int .i64 0] n).toList, v.oneCell' = true := by
 intro v hv
 simp [Builtin.zeroCells] at hv
 obtain ⟨a, _, ha⟩ := hv
 rw [show a % 1 = 0 by omega] at ha; subst ha; rfl
theorem zeroCellsI_len (n : Nat) : (Builtin.zeroCells #[Value.int .i64 0] n).toList.length = n * 1 := by simp [Builtin.zeroCells]
theorem run_clear_int (w : World) (ty : TypeId) (b o n c : Nat) (hn : 0 < n) (hc : ∀ j, j < n * 1 → (w.cell? ⟨b, o + j, none⟩).isSome = true) (hf : ∀ j, j < n * 1 → w.frozen? ⟨b, o + j, none⟩ = false) :
 (Builtin.clear_ #[43] ty #[.slice (some ⟨b, o, none⟩) n c]).run Tryz.prog w = .ok (.tuple #[]) (w.setCells b o (Builtin.zeroCells #[Value.int .i64 0] n).toList) := by
 have hst := run_storeCells_cells (P := Tryz.prog) b o (Builtin.zeroCells #[Value.int .i64 0] n).toList 0 w (by rw [zeroCellsI_len]; simpa using hc) (by rw [zeroCellsI_len]; simpa using hf) (zeroCellsI_one n)
 simp only [Nat.add_zero] at hst
 obtain ⟨m, rfl⟩ : ∃ m, n = m + 1 := ⟨n - 1, by omega⟩
 simp [Builtin.clear_, run_underlying Tryz.underlying43, zeroInt, Value.cells, hst]
set_option maxRecDepth 100000 in
set_option maxHeartbeats 4000000 in
theorem deleteInt_any (g : Nat) (cb : Array Value) (eg : ∀ args w, (callFunc g args).run Tryz.prog w = .ok (.enter g args) w) (p : Int → Bool) (base : Nat) (v : Value) (ss : List (Int)) (w : World)
 (hrow : w.ownsRow base 3 1 v ss.length (ss.flatMap ints)) (hn : ss.length ≤ 1000000)
 (hp : ∀ W x, x ∈ ss → w.grownBy W v.ownBlock → Calls Tryz.prog g (#[Value.int .i64 x] ++ cb) W fun e W' => e = .returned (.bool (p x)) ∧ Below W.heap.size W W') :
 Calls Tryz.prog 82 #[v, .func (.func g) #[] cb] w fun e w' => ∃ v', e = .returned v' ∧
  w'.ownsRow base 3 1 v' (ss.filter (fun x => !p x)).length ((ss.filter (fun x => !p x)).flatMap ints) ∧ w.grownBy w' v.ownBlock := by
 obtain ⟨a, cap, rfl, hcap, hrd, hlow⟩ := Rd.of_own hrow ints_length (by omega) rfl (by unfold maxLen; omega)
 have hidx := indexInt_any g cb eg p a ss.length cap ss w hrd (fun W x hx hB => hp W x hx ⟨hB.os, hB.tape, hB.output, hB.size, fun k hk _ => hB.block k hk⟩)
 rcases findIdx_facts (p := p) (xs := ss) with ⟨e1, e2⟩ | ⟨i0, hi0, e1, e2⟩
 · rw [e1] at hidx
   rw [e2]
   clear e1 e2
   have HR := Hd hrow
   clear hp hrow hrd hlow
   go_enter Tryz.func82, Tryz.ntmps82
   go_wp2_with (go_at_call 111; refine hidx.mono ?_; rintro e w' ⟨rfl, hB⟩)
   go_ret
   exact ⟨_, rfl, HR.out.kept (grown_of_below hB) (by cases a with | none => exact .inl rfl | some q => exact .inr (by simp [Value.ownBlock])), ⟨hB.os, hB.tape, hB.output, hB.size, fun k hk _ => hB.block k hk⟩⟩
 · rw [e1] at hidx
   obtain ⟨b, off, x00, rfl, _⟩ := hrd.int hi0
   have hoff : off = 0 := by
    rcases hrow.2 with ⟨h1, _⟩ | ⟨g', cap', cur, hv, _⟩
    · cases h1
    · injection hv with h1; injection h1 with h1; injection h1
   subst hoff
   have HP := Hd hp
   have HE2 := Hd e2
   have hn9 : ss.length ≤ 9223372036854775807 := by omega
   have hne1 : ((i0 : Int) == -1) = false := beq_eq_false_iff_ne.2 (by omega)
   obtain ⟨hbase, hblt⟩ := hlow _ rfl
   have HR := Hd hrow
   clear hp e1 e2 hrd hlow hrow
   obtain ⟨N, hN⟩ : ∃ N, ss.length = N := ⟨_, rfl⟩
   rw [hN] at hidx HR hn9 hcap hi0 hn
   have HNl := Hd hN
   rw [hN]
   clear hN
   go_enter Tryz.func82, Tryz.ntmps82
   go_wp2_with (go_at_call 111; refine hidx.mono ?_; rintro e w' ⟨rfl, hB⟩)
   have HB := Hd hB
   clear hB hidx
   have HR1 := Hd (HR.out.kept (grown_of_below HB.out) (.inr (by simp [Value.ownBlock])))
   have Hg1 := Hd (show w.grownBy w' (some b) from ⟨HB.out.os, HB.out.tape, HB.out.output, HB.out.size, fun k hk _ => HB.out.block k hk⟩)
   go_loopw [5, 6, 7] (fun si sj _ wr => ∃ (i j : Nat) (cs : List (Int)), si = .int .i64 i ∧ sj = .int .i64 j ∧ i < j ∧ j ≤ N ∧ cs.length = N ∧ wr.ownsRow base 3 1 (.slice (some ⟨b, 0, none⟩) N cap) N (cs.flatMap ints) ∧
    cs.take i = (ss.take j).filter (fun x => !p x) ∧ cs.drop j = ss.drop j ∧ w.grownBy wr (some b)) (fun _ sj _ _ => N - (intOf sj).toNat)
   case atStart => exact ⟨i0, i0 + 1, ss, rfl, by go_num, by omega, by omega, HNl.out, HR1.out, HE2.out.symm, rfl, Hg1.out⟩
   case round =>
    obtain ⟨i, j, cs, rfl, rfl, hij, hjn, hcl, hown, htk, hdr, hgr⟩ := hrel
    have HO := Hd hown
    have HTk := Hd htk
    have HDr := Hd hdr
    have HGr := Hd hgr
    have HCl := Hd hcl
    clear hown htk hdr hgr HR1 Hg1 HB
    by_cases hlt : j < N
    · obtain ⟨⟨x, hx, x0⟩, hfz, _, hbw, _⟩ := ownI_cell HO.out HCl.out hlt
      obtain ⟨⟨y, hy, y0⟩, _⟩ := ownI_cell HO.out HCl.out (show i < N by omega)
      have hj0 : (0 : Int) ≤ (j : Int) := by omega
      have hsx : ss[j]? = some x := by
       have h1 : (cs.drop j)[0]? = (ss.drop j)[0]? := by rw [HDr.out]
       rw [List.getElem?_drop, List.getElem?_drop] at h1
       simpa [hx] using h1.symm
      have hdr' : cs.drop (j + 1) = ss.drop (j + 1) := by rw [← List.drop_drop, ← List.drop_drop, HDr.out]
      have HDr' := Hd hdr'
      have Hsx := Hd hsx
      have hcall := HP.out wr x (List.mem_of_getElem? hsx) HGr.out
      clear hdr' hsx hx hy
      cases hpx : p x with
      | true =>
        rw [hpx] at hcall
        have HF := Hd (show (ss.take (j + 1)).filter (fun x => !p x) = (ss.take j).filter (fun x => !p x) by rw [take_succ_snoc Hsx.out]; simp [hpx])
        clear hpx
        go_wp2_with (go_at_fn g; refine hcall.mono ?_; rintro e w2 ⟨rfl, hB2⟩)
        refine ⟨⟨i, j + 1, cs, rfl, by go_num, by omega, by omega, HCl.out, ?_, ?_, HDr'.out, ?_⟩, by simp [intOf]; omega⟩
        · exact HO.out.kept (grown_of_below hB2) (.inr (by simp [Value.ownBlock]))
        · rw [HF.out]; exact HTk.out
        · exact HGr.out.trans (grown_of_below hB2 |>.but _)
      | false =>
        rw [hpx] at hcall
        have HF := Hd (show (ss.take (j + 1)).filter (fun x => !p x) = (ss.take j).filter (fun x => !p x) ++ [x] by rw [take_succ_snoc Hsx.out]; simp [hpx])
        clear hpx
        go_wp2_with (go_at_fn g; refine hcall.mono ?_; rintro e w2 ⟨rfl, hB2⟩; have HO2 := Hd (HO.out.kept (grown_of_below hB2) (.inr (by simp [Value.ownBlock]))); obtain ⟨⟨y2, _, v0⟩, hfz2, _, hbw2, _⟩ := ownI_cell HO2.out HCl.out (show i < N by omega); have hfa := hfz2 i; clear hfz2)
        have HG2 := Hd (HGr.out.trans ((grown_of_below hB2).but (some b)))
        refine ⟨⟨i + 1, j + 1, cs.set i x, by go_num, by go_num, by omega, by omega, by rw [List.length_set]; exact HCl.out, ownI_set HO2.out HCl.out (by omega) x, ?_, ?_, ?_⟩, by simp [intOf]; omega⟩
        · rw [HF.out, ← HTk.out]
          have hil : i < cs.length := by rw [HCl.out]; omega
          rw [List.take_add_one, List.take_set_of_le (Nat.le_refl _)]
          simp [hil]
        · rw [List.drop_set_of_lt (by omega)]; exact HDr'.out
        · exact HG2.out.trans (grown_set1 _ _ _ _)
    · obtain rfl : j = N := by omega
      obtain ⟨⟨y, hy, y0⟩, hfz, _, hbw, hcap2⟩ := ownI_cell HO.out HCl.out (show i < j by omega)
      have hclr : ∀ ty, (Builtin.clear_ #[43] ty #[.slice (some ⟨b, i, none⟩) (j - i) (cap - i)]).run Tryz.prog wr = .ok (.tuple #[]) (wr.setCells b i (Builtin.zeroCells #[Value.int .i64 0] (j - i)).toList) := fun ty =>
       run_clear_int wr ty b i (j - i) (cap - i) (by omega) (fun t ht => by
        obtain ⟨⟨z, _, z0⟩, _⟩ := ownI_cell HO.out HCl.out (show i + t < j by omega)
        rw [z0]; rfl) (fun t ht => hfz _)
      have hi1 : (0 : Int) ≤ (i : Int) := by omega
      have hi2 : (i : Int) ≤ (j : Int) := by omega
      have hi3 : (j : Int) ≤ (cap : Int) := by omega
      have hcne : cap ≠ i := by omega
      clear hfz hbw hy y0
      go_wp2
      go_ret
      have HF := HTk.out
      rw [List.take_of_length_le (show ss.length ≤ j by rw [HNl.out]; omega)] at HF
      have hfl : (ss.filter (fun x => !p x)).length = i := by rw [← HF, List.length_take, HCl.out]; omega
      refine ⟨_, rfl, ?_, HGr.out.trans (grown_setCells _ _ _)⟩
      rw [hfl, ← HF]
      have hc1 := own_cut HO.out (show i ≤ j by omega)
      have hc2 : (cs.flatMap ints).take (i * 1) = (cs.take i).flatMap ints := flat_take ints_length cs i
      rw [hc2] at hc1
      exact own_past_cells _ _ _ hc1 (by omega)
open Go.RowKit Go.Shelf Go.Sort
theorem flat_ints (xs : List Int) : xs.flatMap ints = xs.map (Value.int .i64) := by
 induction xs with
 | nil => rfl
 | cons x r ih => rw [List.flatMap_cons, List.map_cons, ih]; rfl
theorem grownBy_reversed {w : World} {g n : Nat} (d : Array Int) : w.grownBy (putRow (Value.int .i64) (Sort.ahead w n) g 0 d) (some g) := by
 refine ⟨rfl, rfl, rfl, by simp [putRow, mapBlock, Sort.ahead], fun k hk hne => ?_⟩
 have : g ≠ k := fun e => hne (by rw [e])
 simp [putRow, mapBlock, Sort.ahead, Array.getElem?_modify, this]
theorem reverse_any (w : World) (base : Nat) (v : Value) (zs : List Int) (h : w.ownsRow base 3 1 v zs.length (zs.flatMap ints)) (hn : zs.length ≤ 1000000) :
 Calls Tryz.prog 49 #[v] w fun e w' => e = .returned (.tuple #[]) ∧ w'.ownsRow base 3 1 v zs.reverse.length (zs.reverse.flatMap ints) ∧ w.grownBy w' v.ownBlock := by
 rw [flat_ints] at h ⊢
 by_cases hv : v = .slice none 0 0
 · subst hv
   refine (Tryz.slices_Reverse_int_empty none 0 w).mono ?_
   rintro e w' ⟨rfl, rfl⟩
   have hz : zs = [] := by
    rcases h.2 with ⟨_, h2⟩ | ⟨g, cap, cur, hv, _⟩
    · exact List.eq_nil_of_length_eq_zero h2
    · exact absurd hv (by simp)
   subst hz
   exact ⟨rfl, h, World.grownBy.refl _ _⟩
 · obtain ⟨g, cap, rfl, hbg, hgw, hnc, hcm, hlen, hH⟩ := Lib.holds_of_ownsRow h hv
   refine (Tryz.slices_Reverse_int g 0 cap zs w hH (by omega)).mono ?_
   rintro e w' ⟨rfl, q, rfl⟩
   have h1 := Lib.ownsRow_putRow (q := q) (ys := zs.reverse) h (by simp) (Nat.le_refl zs.length)
   rw [List.take_of_length_le (Nat.le_of_eq (by simp))] at h1
   exact ⟨rfl, by rw [List.length_reverse]; exact h1, grownBy_reversed _⟩
theorem sort_any (w : World) (base : Nat) (v : Value) (zs : List Int) (h : w.ownsRow base 3 1 v zs.length (zs.flatMap ints)) (hn : zs.length ≤ 1000000) :
 Calls Tryz.prog 112 #[v] w fun e w' => e = .returned (.tuple #[]) ∧ w'.ownsRow base 3 1 v (zs.mergeSort fun x y => decide (x ≤ y)).length ((zs.mergeSort fun x y => decide (x ≤ y)).flatMap ints) ∧ w.grownBy w' v.ownBlock := by
 rw [flat_ints] at h ⊢
 have hl : (zs.mergeSort fun x y => decide (x ≤ y)).length = zs.length := List.length_mergeSort _
 by_cases hv : v = .slice none 0 0
 · subst hv
   refine (Tryz.slices_Sort_int_none none 0 w).mono ?_
   rintro e w' ⟨rfl, rfl⟩
   have hz : zs = [] := by
    rcases h.2 with ⟨_, h2⟩ | ⟨g, cap, cur, hv, _⟩
    · exact List.eq_nil_of_length_eq_zero h2
    · exact absurd hv (by simp)
   subst hz
   exact ⟨rfl, by simpa using h, World.grownBy.refl _ _⟩
 · obtain ⟨g, cap, rfl, hbg, hgw, hnc, hcm, hlen, hH⟩ := Lib.holds_of_ownsRow h hv
   rcases h.2 with ⟨e0, _⟩ | ⟨g', cap', cur, e0, hb, hg, hn1, hm, hs, ht⟩
   · exact absurd e0 (by simp)
   · injection e0 with e1 _ e3
     injection e1 with e1
     injection e1 with e1
     subst e1 e3
     refine (Tryz.slices_Sort_int g 0 cap zs w hH hgw (by omega)).mono ?_
     rintro e w' ⟨rfl, q, os, rfl⟩
     refine ⟨rfl, ?_, grownBy_sortedI _⟩
     rw [hl]
     exact ownsRow_sortedI hl hb hg hn1 hm hs
theorem cloneI_any (a : Option Addr) (n cap : Nat) (xs : List Int) (w : World) (h : Rd ints 1 w a n xs) (hn : n ≤ 1000000) :
 Calls Tryz.prog 83 #[.slice a n cap] w fun e w' => ∃ v, e = .returned v ∧ w'.ownsRow w.heap.size 3 1 v xs.length (xs.flatMap ints) ∧ Below w.heap.size w w' := by
 rw [flat_ints]
 cases a with
 | none =>
   refine (Tryz.slices_Clone_int_nil n cap w).mono ?_
   rintro e w' ⟨rfl, rfl⟩
   have hz : xs = [] := by
    have := h.len
    by_cases h0 : 0 < n
    · obtain ⟨b, off, y, e, _⟩ := h.int h0; cases e
    · exact List.eq_nil_of_length_eq_zero (by omega)
   subst hz
   exact ⟨_, rfl, World.ownsRow_nil _ _ _ _, Below.refl _ _⟩
 | some p =>
   by_cases h0 : n = 0
   · subst h0
     have hz : xs = [] := List.eq_nil_of_length_eq_zero h.len
     subst hz
     refine (Tryz.slices_Clone_int_zero p cap w).mono ?_
     rintro e w' ⟨v, rfl, ho, _, hB⟩
     exact ⟨v, rfl, ho, hB⟩
   · obtain ⟨b, off, y, e, hb, _, _⟩ := h.int (i := 0) (by omega)
     injection e with e
     subst e
     refine (Tryz.slices_Clone_int b off n cap xs w (by rw [h.len]; exact Nat.le_refl _) (by omega) (fun j hj => by
      obtain ⟨b', off', y', e, _, hy, hcell⟩ := h.int (i := j) (by rw [← h.len]; exact hj)
      cases e
      rw [hcell, List.getD_eq_getElem?_getD, hy]; rfl)).mono ?_
     rintro e w' ⟨v, rfl, ho, _, hB⟩
     rw [List.take_of_length_le (by rw [h.len]; exact Nat.le_refl _)] at ho
     exact ⟨v, rfl, by rw [h.len]; exact ho, hB⟩
theorem equalI_any (a1 a2 : Option Addr) (n c m d : Nat) (xs ys : List Int) (w : World) (h1 : Rd ints 1 w a1 n xs) (h2 : Rd ints 1 w a2 m ys) :
 Calls Tryz.prog 22 #[.slice a1 n c, .slice a2 m d] w fun e w' => e = .returned (.bool (decide (xs = ys))) ∧ Below w.heap.size w w' := by
 have hm := h2.cap
 have hm1 := h1.cap
 unfold maxLen at hm hm1
 by_cases hnm : n = m
 · subst hnm
   by_cases h0 : n = 0
   · subst h0
     have e1 : xs = [] := List.eq_nil_of_length_eq_zero h1.len
     have e2 : ys = [] := List.eq_nil_of_length_eq_zero h2.len
     subst e1 e2
     refine (Tryz.slices_Equal_int_empty a1 a2 c 0 d w (by omega)).mono ?_
     rintro e w' ⟨rfl, rfl⟩
     exact ⟨by simp, Below.refl _ _⟩
   · obtain ⟨b1, o1, y1, rfl, _⟩ := h1.int (i := 0) (by omega)
     obtain ⟨b2, o2, y2, rfl, _⟩ := h2.int (i := 0) (by omega)
     refine (Tryz.slices_Equal_int b1 o1 n c b2 o2 n d xs ys w (by rw [h1.len]; exact Nat.le_refl _) (by rw [h2.len]; exact Nat.le_refl _) (by omega) (by omega) (fun j hj => by
      obtain ⟨b', off', y', e, _, hy, hcell⟩ := h1.int (i := j) (by rw [← h1.len]; exact hj)
      cases e
      rw [hcell, List.getD_eq_getElem?_getD, hy]; rfl) (fun j hj => by
      obtain ⟨b', off', y', e, _, hy, hcell⟩ := h2.int (i := j) (by rw [← h2.len]; exact hj)
      cases e
      rw [hcell, List.getD_eq_getElem?_getD, hy]; rfl)).mono ?_
     rintro e w' ⟨rfl, q, rfl⟩
     rw [List.take_of_length_le (by rw [h1.len]; exact Nat.le_refl _), List.take_of_length_le (by rw [h2.len]; exact Nat.le_refl _)]
     refine ⟨?_, drewN_below w q⟩
     congr 1
     by_cases e : xs = ys <;> simp [e]
 · refine (Tryz.slices_Equal_int_lens a1 a2 n c m d w hnm).mono ?_
   rintro e w' ⟨rfl, rfl⟩
   have : xs ≠ ys := fun e => hnm (by rw [← h1.len, ← h2.len, e])
   exact ⟨by simp [this], Below.refl _ _⟩
attribute [local go_sem] Oper.semAt_some
theorem backward_any (a : Option Addr) (n cap : Nat) (w : World) :
 Calls Tryz.prog 81 #[.slice a n cap] w fun e w' => e = .returned (.func (.func 110) #[] #[.pointer (some ⟨w.heap.size, 0, none⟩)]) ∧ w' = w.alloc (.cells #[.slice a n cap] 43) := by
 have hmf : ∀ (fn : Fn) (first cap : Array Value) (w : World), (Instr.makeFunc fn first cap).run Tryz.prog w = .ok (.func fn first cap) w := fun _ _ _ _ => rfl
 go_enter Tryz.func81, Tryz.ntmps81
 go_wp2_with fail
 go_ret
 exact ⟨rfl, rfl⟩
theorem rev_snoc {xs : List Int} {k : Nat} {x : Int} (hk : k < xs.length) (h : xs[k]? = some x) : xs.reverse.take (xs.length - k) = xs.reverse.take (xs.length - (k + 1)) ++ [x] := by
 have h1 : xs.length - k = (xs.length - (k + 1)) + 1 := by omega
 rw [h1]
 refine take_succ_snoc ?_
 rw [List.getElem?_reverse (by omega), ← h]
 congr 1
 omega
set_option maxRecDepth 100000 in
set_option maxHeartbeats 4000000 in
theorem backward1_in (bx : Nat) (m : Nat) (hm : 1 ≤ m) (l B1 : Nat) (a : Option Addr) (n cap : Nat) (xs : List Int) (w0 : World)
 (J Jx : List (Int × Int) → World → Prop) (W : World) (hJ : AbidesFrom W.heap.size J) (hJx : AbidesFrom W.heap.size Jx)
 (hY : ∀ pre x W, J pre W → pre.length < n → YieldAt Fence.wide (m - 1) Tryz.prog l #[.int .i64 x.1, .int .i64 x.2] W fun e W' =>
   (e = .returned (.bool true) ∧ J (pre ++ [x]) W' ∧ But bx w0.heap.size W W') ∨ (e = .returned (.bool false) ∧ Jx (pre ++ [x]) W'))
 (hW : Below w0.heap.size w0 W) (hc : w0.cell? ⟨B1, 0, none⟩ = some (.slice a n cap))
 (h : Rd ints 1 w0 a n xs) (hlow : 0 < n → ∀ p, a = some p → p.block < bx) (hbx : bx ≤ w0.heap.size) (h1x : B1 ≠ bx) (h0 : J [] W) :
 CallsIn Fence.wide m Tryz.prog 110 #[.func (.yield l) #[] #[], .pointer (some ⟨B1, 0, none⟩)] W fun e W' => (∃ v, e = .returned v) ∧
  ((∃ ys : List (Int × Int), ys.map (·.2) = xs.reverse ∧ J ys W') ∨ (∃ pre : List (Int × Int), pre.map (·.2) <+: xs.reverse ∧ Jx pre W')) := by
 have hmm := h.cap
 unfold maxLen at hmm
 have Hl := Hd h.len
 have c1 : W.cell? ⟨B1, 0, none⟩ = some (.slice a n cap) := (hW.cell (p := ⟨B1, 0, none⟩) (World.block_lt_of_cell? _ _ hc)).trans hc
 have HH := Hd h
 have HC := Hd hc
 have HB0 := Hd (Below.but (bx := bx) hW)
 clear hW h hc
 refine callsIn_of_wp Tryz.func110 rfl trivial ?_ rfl
 simp only [Tryz.ntmps110, List.size_toArray, List.length_cons, List.length_nil, Nat.reduceAdd, Nat.reduceSub, Array.replicate_succ, Array.replicate_zero, List.push_toArray, List.append_toArray, List.nil_append, List.cons_append]
 gi_wp2
 gi_loopw [3] (fun i wr => ∃ (k : Nat) (pre : List (Int × Int)), k ≤ n ∧ i = .int .i64 ((k : Int) - 1) ∧ pre.map (·.2) = xs.reverse.take (n - k) ∧ But bx w0.heap.size w0 wr ∧ J pre wr) (fun i _ => (intOf i + 1).toNat)
 case atStart => exact ⟨n, [], Nat.le_refl _, by go_num, by simp, HB0.out, h0⟩
 case round =>
  obtain ⟨k, pre, hk, rfl, hpre, hB, hJs⟩ := hrel
  have h1 := hB.rd HH.out hlow hbx
  have d1 : wr.cell? ⟨B1, 0, none⟩ = some (.slice a n cap) := (hB.cell (World.block_lt_of_cell? _ _ HC.out) h1x).trans HC.out
  have e1 := World.block_lt_of_cell? _ _ d1
  have Hpre := Hd hpre
  have HB := Hd hB
  clear hpre hB c1
  by_cases hlt : 0 < k
  · have hlt' : (0 : Int) ≤ (k : Int) - 1 := by omega
    have hlt2 : (k : Int) - 1 < (n : Int) := by omega
    obtain ⟨b, off, x, rfl, hb, hx, x0⟩ := h1.int (i := k - 1) (by omega)
    rw [show ((k - 1 : Nat) : Nat) = k - 1 from rfl] at x0
    have hz : (off : Int) + ((k : Int) - 1) = ((off + (k - 1) : Nat) : Int) := by omega
    have hpl : pre.length < n := by
     have h1 : (pre.map (·.2)).length = pre.length := List.length_map _
     rw [Hpre.out, List.length_take, List.length_reverse, Hl.out] at h1
     omega
    have HSn := Hd (show xs.reverse.take (n - (k - 1)) = xs.reverse.take (n - k) ++ [x] from by
     have := rev_snoc (xs := xs) (k := k - 1) (by rw [Hl.out]; omega) hx
     rw [Hl.out, show k - 1 + 1 = k by omega] at this
     exact this)
    obtain ⟨fn, tmps, assign, body, hy, hR⟩ := hY pre ((k : Int) - 1, x) _ hJs hpl
    dsimp only at hy
    have HR := Hd hR
    clear hR hx h1
    gi_wp2
    refine HR.out.mono ?_
    rintro e W3 (⟨rfl, hJ3, hk3⟩ | ⟨rfl, hJx3⟩)
    · have HB3 := Hd (HB.out.trans hk3)
      clear hk3
      gi_wp2
      go_roundw
      case rel => exact ⟨k - 1, _, by omega, by go_num, by rw [HSn.out, List.map_append, Hpre.out]; rfl, HB3.out, hJ3⟩
      case measure => simp [intOf]; omega
    · gi_wp2
      refine bodyPost_ret (results_none rfl _ _ _) rfl ?_
      refine ⟨⟨_, rfl⟩, .inr ⟨_, ?_, hJx3⟩⟩
      rw [List.map_append, Hpre.out]
      simp only [List.map_cons, List.map_nil]
      rw [← HSn.out]
      exact List.take_prefix _ _
  · have hk0 : k = 0 := by omega
    subst hk0
    have HW := Hd (show xs.reverse.take (n - 0) = xs.reverse from List.take_of_length_le (by rw [List.length_reverse, Hl.out]; omega))
    rw [HW.out] at Hpre
    have hlt' : ¬ (0 : Int) ≤ ((0 : Nat) : Int) - 1 := by omega
    gi_wp2
    go_end0
    exact ⟨⟨_, rfl⟩, .inl ⟨pre, Hpre.out, hJs⟩⟩
theorem backward_stops (bx : Nat) (m : Nat) (hm : 1 ≤ m) (B1 : Nat) (a : Option Addr) (n cap : Nat) (xs : List Int) (w0 : World)
 (hc : w0.cell? ⟨B1, 0, none⟩ = some (.slice a n cap)) (h : Rd ints 1 w0 a n xs) (hlow : 0 < n → ∀ p, a = some p → p.block < bx) (hbx : bx ≤ w0.heap.size) (h1x : B1 ≠ bx) :
 SeqStopsK Fence.wide m Tryz.prog 110 #[.pointer (some ⟨B1, 0, none⟩)] (fun x : Int × Int => #[.int .i64 x.1, .int .i64 x.2]) (But bx w0.heap.size)
  (fun ys => ys.map (·.2) = xs.reverse) (fun pre => pre.map (·.2) <+: xs.reverse) n w0 := fun l J Jx W hW hJ hJx hY h0 =>
 backward1_in bx m hm l B1 a n cap xs w0 J Jx W hJ hJx hY hW hc h hlow hbx h1x h0
end Go.Proofs.YtehplmeckfinoaaGreatDoor
