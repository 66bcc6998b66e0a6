/- The walks of what Settle calls: the cause of a parcel, the posting of a due, the copy of what is held. -/
import Derived.Test.YtjleembfocghlaaGreatDoorKeep
import Derived.Shelf.SlMaps.Clone
set_option linter.unusedSimpArgs false
set_option linter.unusedVariables false
namespace Go.Proofs.YtjleembfocghlaaGreatDoor
open Go.RowKit Go.Shelf

/-- is it the parcel's cause, known by the hour -/
def isCause (parcel hour : Int) (x : Ca) : Bool := decide (x.parcel = parcel ∧ x.known ≤ hour)
def causeL (c : List Ca) (parcel hour : Int) : Option Ca := c.find? (isCause parcel hour)
def zCa : Ca := ⟨0, 0, 0⟩
theorem idxI_find {α : Type} {p : α → Bool} {xs : List α} : (idxI p xs = -1 ∧ xs.find? p = none) ∨ ∃ i x, i < xs.length ∧ idxI p xs = (i : Int) ∧ xs[i]? = some x ∧ xs.find? p = some x := by
  unfold idxI
  cases h : xs.findIdx? p with
  | none =>
    rw [List.findIdx?_eq_none_iff] at h
    exact .inl ⟨rfl, List.find?_eq_none.2 fun x hx => by simp [h x hx]⟩
  | some i =>
    rw [List.findIdx?_eq_some_iff_getElem] at h
    obtain ⟨hi, hp, hno⟩ := h
    refine .inr ⟨i, xs[i], hi, rfl, List.getElem?_eq_getElem hi, ?_⟩
    rw [List.find?_eq_some_iff_getElem]
    exact ⟨hp, i, hi, rfl, fun j hj => by simpa using hno j hj⟩

set_option maxHeartbeats 1000000 in
theorem isCause_any (x : Ca) (Bp Bh : Nat) (parcel hour : Int) (w : World) (hp : w.cell? ⟨Bp, 0, none⟩ = some (.int .i64 parcel)) (hh : w.cell? ⟨Bh, 0, none⟩ = some (.int .i64 hour)) :
    Calls Tryz.prog 42 #[.agg #[.int .i64 x.parcel, .int .i64 x.reason, .int .i64 x.known], .pointer (some ⟨Bp, 0, none⟩), .pointer (some ⟨Bh, 0, none⟩)] w fun e w' => e = .returned (.bool (isCause parcel hour x)) ∧ Below w.heap.size w w' := by
  have hpl : Bp < w.heap.size := World.block_lt_of_cell? _ _ hp
  have hhl : Bh < w.heap.size := World.block_lt_of_cell? _ _ hh
  by_cases h1 : x.parcel = parcel
  · have hd : (x.parcel == parcel) = true := by simp [h1]
    have H1 := Lib.hid h1
    clear h1
    go_enter Tryz.func42, Tryz.ntmps42
    go_wp2
    go_ret
    exact ⟨ret_bool (by unfold isCause; simp [H1.out]), (Below.refl _ _).alloc (Nat.le_refl _) _⟩
  · have hd : (x.parcel == parcel) = false := by simp [h1]
    have H1 := Lib.hid h1
    clear h1
    go_enter Tryz.func42, Tryz.ntmps42
    go_wp2
    go_ret
    exact ⟨ret_bool (by unfold isCause; simp [H1.out]), (Below.refl _ _).alloc (Nat.le_refl _) _⟩

set_option maxRecDepth 100000 in
set_option maxHeartbeats 4000000 in
theorem indexCa_any (g : Nat) (cb : Array Value) (eg : ∀ args w, (callFunc g args).run Tryz.prog w = .ok (.enter g args) w) (p : Ca → Bool) (a : Option Addr) (n cap : Nat) (xs : List Ca) (w : World) (h : Rd Ca.vals 3 w a n xs)
    (hp : ∀ W x, Below w.heap.size w W → Calls Tryz.prog g (#[.agg #[.int .i64 x.parcel, .int .i64 x.reason, .int .i64 x.known]] ++ cb) W fun e W' => e = .returned (.bool (p x)) ∧ Below W.heap.size W W') :
    Calls Tryz.prog 41 #[.slice a n cap, .func (.func g) #[] cb] w fun e w' => e = .returned (.int .i64 (idxI p xs)) ∧ Below w.heap.size w w' := by
  have Hl := Lib.hid h.len
  have hm := h.cap
  unfold maxLen at hm
  have HP := Lib.hid hp
  clear hp
  go_enter Tryz.func41, Tryz.ntmps41
  go_wp2_with fail
  go_loopw [8] (fun i wr => ∃ k : Nat, k ≤ n ∧ i = .int .i64 k ∧ (xs.take k).any p = false ∧ Below w.heap.size w wr) (fun i _ => n - (intOf i).toNat)
  case atStart => exact ⟨0, Nat.zero_le _, rfl, rfl, Below.refl _ _⟩
  case round =>
    obtain ⟨k, hk, rfl, hno, hB⟩ := hrel
    have h1 := h.below' hB
    have HB := Lib.hid hB
    have Hno := Lib.hid hno
    clear hno hB h
    by_cases hlt : k < n
    · obtain ⟨b, off, x, rfl, hb, hx, x0, x1, x2⟩ := h1.ca hlt
      have Hx := Lib.hid hx
      have hcall := HP.out wr x HB.out
      clear hx
      cases hpx : p x with
      | true =>
        rw [hpx] at hcall
        have HE := Lib.hid (idxI_at Hx.out Hno.out hpx)
        clear hpx
        go_wp2_with (go_at_fn g; refine hcall.mono ?_; rintro e w' ⟨rfl, hB2⟩)
        go_ret
        exact ⟨ret_int HE.out.symm, below_then HB.out hB2 (Nat.le_refl _)⟩
      | false =>
        rw [hpx] at hcall
        have HE := Lib.hid (show (xs.take (k + 1)).any p = false by rw [any_take_snoc Hx.out, Hno.out, hpx]; rfl)
        clear hpx
        go_wp2_with (go_at_fn g; refine hcall.mono ?_; rintro e w' ⟨rfl, hB2⟩)
        exact ⟨⟨k + 1, by omega, by go_num, HE.out, below_then HB.out hB2 (Nat.le_refl _)⟩, by simp [intOf]; omega⟩
    · go_wp2_with fail
      go_ret
      exact ⟨ret_int (by rw [idxI_none (by have := Hno.out; rwa [List.take_of_length_le (by rw [Hl.out]; omega)] at this)]), HB.out⟩

theorem Blk0.frozen {w : World} {g : Nat} {t : TypeId} {cs : Array Value} (h : w.heap[g]? = some (.cells cs t (0, 0))) (i : Nat) : w.frozen? ⟨g, i, none⟩ = false := by simp [World.frozen?, h]
theorem set3_cells {w : World} {B : Nat} {u0 u1 u2 : Value} (h0 : w.cell? ⟨B, 0, none⟩ = some u0) (h1 : w.cell? ⟨B, 1, none⟩ = some u1) (h2 : w.cell? ⟨B, 2, none⟩ = some u2) (v0 v1 v2 : Value) :
    (((w.setCell ⟨B, 0, none⟩ v0).setCell ⟨B, 1, none⟩ v1).setCell ⟨B, 2, none⟩ v2).cell? ⟨B, 0, none⟩ = some v0 ∧ (((w.setCell ⟨B, 0, none⟩ v0).setCell ⟨B, 1, none⟩ v1).setCell ⟨B, 2, none⟩ v2).cell? ⟨B, 1, none⟩ = some v1 ∧
    (((w.setCell ⟨B, 0, none⟩ v0).setCell ⟨B, 1, none⟩ v1).setCell ⟨B, 2, none⟩ v2).cell? ⟨B, 2, none⟩ = some v2 := by
  refine ⟨?_, ?_, ?_⟩
  · rw [World.cell?_setCell_other _ _ _ _ (by simp), World.cell?_setCell_other _ _ _ _ (by simp)]
    exact World.cell?_setCell_same' _ _ _ (by rw [h0]; rfl)
  · rw [World.cell?_setCell_other _ _ _ _ (by simp)]
    exact World.cell?_setCell_same' _ _ _ (by rw [World.cell?_setCell_other _ _ _ _ (by simp), h1]; rfl)
  · exact World.cell?_setCell_same' _ _ _ (by rw [World.cell?_setCell_other _ _ _ _ (by simp), World.cell?_setCell_other _ _ _ _ (by simp), h2]; rfl)
def caV (y : Ca) : Value := .agg #[.int .i64 y.parcel, .int .i64 y.reason, .int .i64 y.known]
set_option maxRecDepth 100000 in
set_option maxHeartbeats 2000000 in
theorem cause_any (parcel : Int) (Bc Bh : Nat) (a : Option Addr) (n cap : Nat) (c : List Ca) (hour : Int) (w : World) (hc : w.cell? ⟨Bc, 0, none⟩ = some (.slice a n cap)) (hh : w.cell? ⟨Bh, 0, none⟩ = some (.int .i64 hour)) (h : Rd Ca.vals 3 w a n c) :
    Calls Tryz.prog 40 #[.int .i64 parcel, .pointer (some ⟨Bc, 0, none⟩), .pointer (some ⟨Bh, 0, none⟩)] w fun e w' =>
      e = .returned (.tuple #[caV ((causeL c parcel hour).getD zCa), .bool (causeL c parcel hour).isSome]) ∧ Below w.heap.size w w' := by
  have hcl : Bc < w.heap.size := World.block_lt_of_cell? _ _ hc
  have hhl : Bh < w.heap.size := World.block_lt_of_cell? _ _ hh
  have hb0 : Below w.heap.size w ((w.alloc (.cells #[.int .i64 parcel] 3)).alloc (.cells #[.int .i64 0, .int .i64 0, .int .i64 0] 45)) := ((Below.refl _ w).alloc (Nat.le_refl _) _).alloc (by simp) _
  have h1 := h.below' hb0
  have HB := Lib.hid hb0
  have hcp : ((w.alloc (.cells #[.int .i64 parcel] 3)).alloc (.cells #[.int .i64 0, .int .i64 0, .int .i64 0] 45)).cell? ⟨w.heap.size, 0, none⟩ = some (.int .i64 parcel) := by simp
  have hch := (hb0.cell (p := ⟨Bh, 0, none⟩) hhl).trans hh
  have Hcc := Lib.hid ((hb0.cell (p := ⟨Bc, 0, none⟩) hcl).trans hc)
  clear hb0
  go_enter Tryz.func40, Tryz.ntmps40
  go_wp2_with fail
  refine (indexCa_any 42 #[.pointer (some ⟨w.heap.size, 0, none⟩), .pointer (some ⟨Bh, 0, none⟩)] (enters_of Tryz.func42 (by kernel_rfl) rfl) (isCause parcel hour) a n cap c _ h1 ?_).mono ?_
  · intro W x hB
    exact isCause_any x w.heap.size Bh parcel hour W ((hB.cell (p := ⟨w.heap.size, 0, none⟩) (World.block_lt_of_cell? _ _ hcp)).trans hcp) ((hB.cell (p := ⟨Bh, 0, none⟩) (World.block_lt_of_cell? _ _ hch)).trans hch)
  · rintro e w2 ⟨rfl, hB2⟩
    have z : ∀ j, ((w.alloc (.cells #[.int .i64 parcel] 3)).alloc (.cells #[.int .i64 0, .int .i64 0, .int .i64 0] 45)).cell? ⟨w.heap.size + 1, j, none⟩ = #[Value.int .i64 0, .int .i64 0, .int .i64 0][j]? := fun j => by
      have := cell_of_row _ _ j _ _ (0, 0) (heap_alloc_new (w.alloc (.cells #[.int .i64 parcel] 3)) (.cells #[.int .i64 0, .int .i64 0, .int .i64 0] 45))
      rw [World.size_alloc] at this
      exact this
    have z0 := cell_keep (z 0) hB2
    have z1 := cell_keep (z 1) hB2
    have z2 := cell_keep (z 2) hB2
    have zl : w.heap.size + 1 < w2.heap.size := World.block_lt_of_cell? _ _ z0
    have zf : ∀ j, w2.frozen? ⟨w.heap.size + 1, j, none⟩ = false := fun j => by
      refine (hB2.frozen (p := ⟨w.heap.size + 1, j, none⟩) (show w.heap.size + 1 < _ by simp)).trans ?_
      have := Blk0.frozen (heap_alloc_new (w.alloc (.cells #[.int .i64 parcel] 3)) (.cells #[.int .i64 0, .int .i64 0, .int .i64 0] 45)) j
      rw [World.size_alloc] at this
      exact this
    have zf0 := zf 0
    have zf1 := zf 1
    have zf2 := zf 2
    have hcc2 := cell_keep Hcc.out hB2
    have h2 := h1.below' hB2
    have HB2 := Lib.hid (below_then HB.out hB2 (Nat.le_refl _))
    rcases idxI_find (p := isCause parcel hour) (xs := c) with ⟨e1, e2⟩ | ⟨i, x, hi, e1, hx, e2⟩
    · rw [e1]
      have HE := Lib.hid (show causeL c parcel hour = none from e2)
      clear e1 e2 hB2 z zf
      go_wp2_with fail
      obtain ⟨r0, r1, r2⟩ := set3_cells z0 z1 z2 (.int .i64 0) (.int .i64 0) (.int .i64 0)
      have HB3 := Lib.hid (((HB2.out.setCell (p := ⟨w.heap.size + 1, 0, none⟩) (by simp) (.int .i64 0)).setCell (p := ⟨w.heap.size + 1, 1, none⟩) (by simp) (.int .i64 0)).setCell (p := ⟨w.heap.size + 1, 2, none⟩) (by simp) (.int .i64 0))
      generalize ((w2.setCell ⟨w.heap.size + 1, 0, none⟩ (.int .i64 0)).setCell ⟨w.heap.size + 1, 1, none⟩ (.int .i64 0)).setCell ⟨w.heap.size + 1, 2, none⟩ (.int .i64 0) = W3 at *
      have zl3 : w.heap.size + 1 < W3.heap.size := World.block_lt_of_cell? _ _ r0
      refine bodyPost_ret (v := .tuple #[.agg #[.int .i64 0, .int .i64 0, .int .i64 0], .bool false]) (by simp [results, Tryz.results40, go_sem, zl3, r0, r1, r2]) rfl ⟨?_, HB3.out⟩
      rw [HE.out]; rfl
    · rw [e1]
      have HE := Lib.hid (show causeL c parcel hour = some x from e2)
      have hin : i < n := by rw [← h2.len]; exact hi
      obtain ⟨b, off, y, rfl, hb, hy, x0, x1, x2⟩ := h2.ca hin
      have hxy : x = y := by rw [hx] at hy; exact Option.some.inj hy
      subst hxy
      have hi0 : ¬ ((i : Int) < 0) := by omega
      have hi1 : (0 : Int) ≤ (i : Int) := by omega
      have hm := h2.cap
      unfold maxLen at hm
      clear e1 e2 hB2 z zf hx hy
      go_wp2_with fail
      obtain ⟨r0, r1, r2⟩ := set3_cells z0 z1 z2 (.int .i64 x.parcel) (.int .i64 x.reason) (.int .i64 x.known)
      have HB3 := Lib.hid (((HB2.out.setCell (p := ⟨w.heap.size + 1, 0, none⟩) (by simp) (.int .i64 x.parcel)).setCell (p := ⟨w.heap.size + 1, 1, none⟩) (by simp) (.int .i64 x.reason)).setCell (p := ⟨w.heap.size + 1, 2, none⟩) (by simp) (.int .i64 x.known))
      generalize ((w2.setCell ⟨w.heap.size + 1, 0, none⟩ (.int .i64 x.parcel)).setCell ⟨w.heap.size + 1, 1, none⟩ (.int .i64 x.reason)).setCell ⟨w.heap.size + 1, 2, none⟩ (.int .i64 x.known) = W3 at *
      have zl3 : w.heap.size + 1 < W3.heap.size := World.block_lt_of_cell? _ _ r0
      refine bodyPost_ret (v := .tuple #[.agg #[.int .i64 x.parcel, .int .i64 x.reason, .int .i64 x.known], .bool true]) (by simp [results, Tryz.results40, go_sem, zl3, r0, r1, r2]) rfl ⟨?_, HB3.out⟩
      rw [HE.out]; rfl
end Go.Proofs.YtjleembfocghlaaGreatDoor

/- The walks of what Settle calls: the posting of a due, the copy of what is held. -/
namespace Go.Proofs.YtjleembfocghlaaGreatDoor
open Go.RowKit Go.Shelf

set_option maxRecDepth 100000 in
set_option maxHeartbeats 2000000 in
theorem cloneMap_any {b : Nat} {m : List (Int × Int)} (w : World) (h : MapT Tryz.prog 3 kInt vInt w b m) :
    Calls Tryz.prog 44 #[.map (some b)] w fun e w' => e = .returned (.map (some w.heap.size)) ∧ MapT Tryz.prog 3 kInt vInt w' w.heap.size m ∧ Below w.heap.size w w' := by
  obtain ⟨es, clock, hb, hm, hk, hn, hst, hcl⟩ := h
  have hq := fun w => run_eql_map_nil_sl (P := Tryz.prog) w 72 _ _ (some b) Tryz.underlying72
  have HR := Lib.hid (show MapT Tryz.prog 3 kInt vInt (w.alloc (.map es clock)) w.heap.size m from ⟨es, clock, heap_alloc_new w _, hm, hk, hn, hst, hcl⟩)
  clear hm hk hn hst hcl
  go_enter Tryz.func44, Tryz.ntmps44
  go_wp2
  rw [run_callFunc_extern Tryz.func77 (by kernel_rfl) (by kernel_rfl) (by kernel_rfl) (e := Extern.MapsClone.clone) (by kernel_rfl), run_maps_clone_sl w 72 hb]
  simp only [Result.andThen]
  rw [Oper.upon_value]
  go_wp2
  rw [run_typeAssert_map_sl _ 72 20 _ _ _ Tryz.underlying72]
  simp only [Result.andThen]
  rw [Oper.upon_value]
  go_wp2
  go_ret
  exact ⟨rfl, HR.out, (Below.refl _ _).alloc (Nat.le_refl _) _⟩

theorem cell_other_block {w : World} {B B' o o' : Nat} {u v : Value} (h : w.cell? ⟨B, o, none⟩ = some u) (hne : B' ≠ B) : (w.setCell ⟨B', o', none⟩ v).cell? ⟨B, o, none⟩ = some u := by
  rw [World.cell?_setCell_other _ _ _ _ (by simp [hne])]; exact h
def postP (hour kind : Int) (x : Du) (y : Ca) (id : Int) : Po := ⟨id, hour, kind, x.party, x.parcel, x.amount, y.reason, y.known⟩
def PostPost (Bid Bout base : Nat) (id : Int) (v : Value) (out : List Po) (p : Po) (w : World) (e : Ending) (w' : World) : Prop :=
  e = .returned (.tuple #[]) ∧ Boxed w' Bid 3 (.int .i64 (id + 1)) ∧ ∃ v', Boxed w' Bout 31 v' ∧ w'.ownsRow base 23 8 v' (out ++ [p]).length ((out ++ [p]).flatMap Po.vals) ∧
    KeepB w.heap.size (fun k => k = Bid ∨ k = Bout ∨ v.ownBlock = some k) w w' ∧ (∀ k, v'.ownBlock = some k → v.ownBlock = some k ∨ w.heap.size ≤ k)

set_option maxRecDepth 100000 in
set_option maxHeartbeats 4000000 in
theorem post_any (kind : Int) (x : Du) (y : Ca) (Bid Bout Bh base : Nat) (id hour : Int) (v : Value) (out : List Po) (w : World) (hid : Boxed w Bid 3 (.int .i64 id)) (hout : Boxed w Bout 31 v)
    (hh : w.cell? ⟨Bh, 0, none⟩ = some (.int .i64 hour)) (hrow : w.ownsRow base 23 8 v out.length (out.flatMap Po.vals)) (hb : base ≤ w.heap.size) (h1 : 0 ≤ id) (h2 : id ≤ 1000000000) (hl : out.length ≤ 100000) (hne : Bid ≠ Bh) :
    Calls Tryz.prog 43 #[.int .u8 kind, .agg #[.int .i64 x.party, .int .i64 x.parcel, .int .i64 x.amount], .agg #[.int .i64 y.parcel, .int .i64 y.reason, .int .i64 y.known], .pointer (some ⟨Bid, 0, none⟩), .pointer (some ⟨Bout, 0, none⟩), .pointer (some ⟨Bh, 0, none⟩)] w
      (PostPost Bid Bout base id v out (postP hour kind x y (id + 1)) w) := by
  obtain ⟨i0, hi, hz0, hz1, hz2⟩ := info_parts info_po
  have hb0 : Below w.heap.size w ((w.alloc (.cells #[.int .i64 x.party, .int .i64 x.parcel, .int .i64 x.amount] 41)).alloc (.cells #[.int .i64 y.parcel, .int .i64 y.reason, .int .i64 y.known] 45)) := ((Below.refl _ w).alloc (Nat.le_refl _) _).alloc (by simp) _
  have bid := (hid.alloc (.cells #[.int .i64 x.party, .int .i64 x.parcel, .int .i64 x.amount] 41)).alloc (.cells #[.int .i64 y.parcel, .int .i64 y.reason, .int .i64 y.known] 45)
  have bout := (hout.alloc (.cells #[.int .i64 x.party, .int .i64 x.parcel, .int .i64 x.amount] 41)).alloc (.cells #[.int .i64 y.parcel, .int .i64 y.reason, .int .i64 y.known] 45)
  have row := (hrow.alloc (.cells #[.int .i64 x.party, .int .i64 x.parcel, .int .i64 x.amount] 41)).alloc (.cells #[.int .i64 y.parcel, .int .i64 y.reason, .int .i64 y.known] 45)
  have hc := cell_keep hh hb0
  have hnz : ((w.alloc (.cells #[.int .i64 x.party, .int .i64 x.parcel, .int .i64 x.amount] 41)).alloc (.cells #[.int .i64 y.parcel, .int .i64 y.reason, .int .i64 y.known] 45)).heap.size = w.heap.size + 2 := by simp
  have e0 : ((w.alloc (.cells #[.int .i64 x.party, .int .i64 x.parcel, .int .i64 x.amount] 41)).alloc (.cells #[.int .i64 y.parcel, .int .i64 y.reason, .int .i64 y.known] 45)).cell? ⟨w.heap.size, 0, none⟩ = some (.int .i64 x.party) ∧
    ((w.alloc (.cells #[.int .i64 x.party, .int .i64 x.parcel, .int .i64 x.amount] 41)).alloc (.cells #[.int .i64 y.parcel, .int .i64 y.reason, .int .i64 y.known] 45)).cell? ⟨w.heap.size, 1, none⟩ = some (.int .i64 x.parcel) ∧
    ((w.alloc (.cells #[.int .i64 x.party, .int .i64 x.parcel, .int .i64 x.amount] 41)).alloc (.cells #[.int .i64 y.parcel, .int .i64 y.reason, .int .i64 y.known] 45)).cell? ⟨w.heap.size, 2, none⟩ = some (.int .i64 x.amount) ∧
    ((w.alloc (.cells #[.int .i64 x.party, .int .i64 x.parcel, .int .i64 x.amount] 41)).alloc (.cells #[.int .i64 y.parcel, .int .i64 y.reason, .int .i64 y.known] 45)).cell? ⟨w.heap.size + 1, 1, none⟩ = some (.int .i64 y.reason) ∧
    ((w.alloc (.cells #[.int .i64 x.party, .int .i64 x.parcel, .int .i64 x.amount] 41)).alloc (.cells #[.int .i64 y.parcel, .int .i64 y.reason, .int .i64 y.known] 45)).cell? ⟨w.heap.size + 1, 2, none⟩ = some (.int .i64 y.known) := by
    refine ⟨?_, ?_, ?_, ?_, ?_⟩ <;> simp
  have hlt1 := hid.lt
  have hlt2 := hout.lt
  have Hrl := Lib.hid hrow.lt
  have HB0 := Lib.hid hb0
  clear hid hout hh hrow hb0
  go_enter Tryz.func43, Tryz.ntmps43
  go_upto_region 1 with (fail)
  generalize (w.alloc (.cells #[.int .i64 x.party, .int .i64 x.parcel, .int .i64 x.amount] 41)).alloc (.cells #[.int .i64 y.parcel, .int .i64 y.reason, .int .i64 y.known] 45) = W at *
  obtain ⟨e0, e1, e2, e3, e4⟩ := e0
  have q1 := bid.cell
  have q2 := bid.frozen
  have q3 := bout.cell
  have q4 := bout.frozen
  have n1 : Bid ≠ w.heap.size := by omega
  have n2 : Bid ≠ w.heap.size + 1 := by omega
  have n3 : Bid ≠ Bout := fun e => by
    subst e
    unfold Boxed at bid bout
    rw [bid] at bout
    injection bout with h
    injection h with _ h
    exact absurd h (by decide)
  -- the world behind the number's store
  have bid1 := bid.set (.int .i64 (id + 1))
  have bout1 := bout.other (B' := Bid) (fun e => n3 e.symm) (.int .i64 (id + 1))
  have row1 := own_aside (o := 0) (u := .int .i64 (id + 1)) row (fun e => bid.not_row (by decide) row e.symm)
  have Hb1 := Lib.hid bid1
  have Hb2 := Lib.hid bout1
  have Hr1 := Lib.hid row1
  have Hg1 := Lib.hid (grownBy_setCell'' W Bid 0 (.int .i64 (id + 1)))
  have c1 := cell_other_block (o' := 0) (v := .int .i64 (id + 1)) e0 n1
  have c2 := cell_other_block (o' := 0) (v := .int .i64 (id + 1)) e1 n1
  have c3 := cell_other_block (o' := 0) (v := .int .i64 (id + 1)) e2 n1
  have c4 := cell_other_block (o' := 0) (v := .int .i64 (id + 1)) e3 n2
  have c5 := cell_other_block (o' := 0) (v := .int .i64 (id + 1)) e4 n2
  have c6 := cell_other_block (o' := 0) (v := .int .i64 (id + 1)) hc hne
  have c7 := bid1.cell
  have c8 := bout1.cell
  have c9 := bout1.frozen
  clear bid bout row bid1 bout1 row1 e0 e1 e2 e3 e4
  go_upto_region 2 with (fail)
  have hnz1 : (W.setCell ⟨Bid, 0, none⟩ (.int .i64 (id + 1))).heap.size = w.heap.size + 2 := by rw [← hnz]; simp
  generalize W.setCell ⟨Bid, 0, none⟩ (.int .i64 (id + 1)) = W1 at *
  have Hnew := Lib.hid (heap_alloc_new W1 (.cells #[.int .i64 (id + 1), .int .i64 hour, .int .u8 kind, .int .i64 x.party, .int .i64 x.parcel, .int .i64 x.amount, .int .i64 y.reason, .int .i64 y.known] 23))
  have Hnz := Lib.hid hnz
  have Hnz1 := Lib.hid hnz1
  clear hnz hnz1 hc q1 q2 q3 q4
  go_wp2_with (at_builtin; refine wpList_append_own_at _ rfl _ _ 31 rfl base 23 i0 _ 8 64 Tryz.underlying31 hi hz0 hz1 hz2 rfl (by decide) _ _ _ rfl (Hr1.out.alloc _) ⟨W1.heap.size, 0, none⟩ 1 1 (Po.vals (postP hour kind x y (id + 1))) rfl rfl (World.news_of_block (cs := #[.int .i64 (id + 1), .int .i64 hour, .int .u8 kind, .int .i64 x.party, .int .i64 x.parcel, .int .i64 x.amount, .int .i64 y.reason, .int .i64 y.known]) (t := 23) (fr := (0, 0)) Hnew.out) (by simp [Po.vals, Value.oneCell']) (by unfold maxLen; omega) (by omega) (by simp; rw [Hnz1.out]; omega) ?_; intro v' w3 hown' hgrow _ hat; obtain ⟨g', cap', rfl⟩ := ownsRow_succ hown'; have hv1 := (Hb2.out.alloc (.cells #[.int .i64 (id + 1), .int .i64 hour, .int .u8 kind, .int .i64 x.party, .int .i64 x.parcel, .int .i64 x.amount, .int .i64 y.reason, .int .i64 y.known] 23)).kept hgrow (Hb2.out.not_row (by decide) Hr1.out); have hk1 := hv1.cell; have hk2 := hv1.frozen; have HO := Lib.hid hown'; have HG := Lib.hid hgrow; have HA := Lib.hid hat; have HV := Lib.hid hv1; clear hown' hgrow hat hv1)
  have hbid3 := (Hb1.out.alloc (.cells #[.int .i64 (id + 1), .int .i64 hour, .int .u8 kind, .int .i64 x.party, .int .i64 x.parcel, .int .i64 x.amount, .int .i64 y.reason, .int .i64 y.known] 23)).kept HG.out (Hb1.out.not_row (by decide) Hr1.out)
  have hk := (HB0.out.trans (show Below w.heap.size W W from Below.refl _ _))
  refine bodyPost_ret (results_none rfl _ _ _) rfl ⟨rfl, hbid3.other n3 _, _, HV.out.set _, ?_, ?_, ?_⟩
  · have h3 := own_aside (o := 0) (u := .slice (some ⟨g', 0, none⟩) (out.length + 1) cap') HO.out (fun e => HV.out.not_row (by decide) HO.out e.symm)
    rw [List.flatMap_append, List.length_append]
    simpa [postP] using h3
  · have k0 : KeepB w.heap.size (fun k => k = Bid ∨ k = Bout ∨ v.ownBlock = some k) w W := KeepB.of_below HB0.out (Nat.le_refl _)
    have k1 : KeepB w.heap.size (fun k => k = Bid ∨ k = Bout ∨ v.ownBlock = some k) W W1 := KeepB.of_grown Hg1.out (fun k e => by cases e; exact .inl (.inl rfl)) HB0.out.size
    have k2 : KeepB w.heap.size (fun k => k = Bid ∨ k = Bout ∨ v.ownBlock = some k) W1 (W1.alloc (.cells #[.int .i64 (id + 1), .int .i64 hour, .int .u8 kind, .int .i64 x.party, .int .i64 x.parcel, .int .i64 x.amount, .int .i64 y.reason, .int .i64 y.known] 23)) :=
      KeepB.of_below ((Below.refl _ W1).alloc (Nat.le_refl _) _) (by rw [Hnz1.out]; omega)
    have k3 : KeepB w.heap.size (fun k => k = Bid ∨ k = Bout ∨ v.ownBlock = some k) _ w3 := KeepB.of_grown HG.out (fun k e => .inl (.inr (.inr e))) (by simp; rw [Hnz1.out]; omega)
    have k4 : KeepB w.heap.size (fun k => k = Bid ∨ k = Bout ∨ v.ownBlock = some k) w3 (w3.setCell ⟨Bout, 0, none⟩ (.slice (some ⟨g', 0, none⟩) (out.length + 1) cap')) := KeepB.of_grown (grownBy_setCell'' _ _ _ _) (fun k e => by cases e; exact .inl (.inr (.inl rfl))) (by have := HG.out.size; simp at this; rw [Hnz1.out] at this; omega)
    exact (((k0.trans k1).trans k2).trans k3).trans k4
  · intro k e
    rcases HA.out with h | h
    · have h' : (Value.slice (some ⟨g', 0, none⟩) (out.length + 1) cap').ownBlock = v.ownBlock := h
      exact .inl (h'.symm.trans e)
    · right
      rw [h] at e
      have : k = W1.heap.size + 1 := by simpa using e.symm
      rw [this, Hnz1.out]; omega
end Go.Proofs.YtjleembfocghlaaGreatDoor

/- What settling comes to: the plain side of Settle. -/
namespace Go.Proofs.YtjleembfocghlaaGreatDoor

def maxOf (l : List Int) : Int := l.foldl max 0
theorem foldl_max_spec : ∀ (l : List Int) (m : Int), (∀ k ∈ l, k ≤ l.foldl max m) ∧ m ≤ l.foldl max m ∧ (l.foldl max m = m ∨ l.foldl max m ∈ l)
  | [], m => ⟨fun k hk => by simp at hk, Int.le_refl _, .inl rfl⟩
  | x :: r, m => by
    obtain ⟨h1, h2, h3⟩ := foldl_max_spec r (max m x)
    rw [List.foldl_cons]
    refine ⟨fun k hk => ?_, by omega, ?_⟩
    · rcases List.mem_cons.1 hk with rfl | hk
      · omega
      · exact h1 k hk
    · rcases h3 with h3 | h3
      · rw [h3]
        by_cases hmx : m ≤ x
        · right; rw [Int.max_eq_right hmx]; simp
        · left; omega
      · exact .inr (List.mem_cons_of_mem _ h3)
theorem maxOf_eq {l m : List Int} (h : ∀ k, k ∈ l ↔ k ∈ m) : maxOf l = maxOf m := by
  obtain ⟨a1, a2, a3⟩ := foldl_max_spec l 0
  obtain ⟨b1, b2, b3⟩ := foldl_max_spec m 0
  unfold maxOf
  rcases a3 with a3 | a3 <;> rcases b3 with b3 | b3
  · rw [a3, b3]
  · have := a1 _ ((h _).2 b3); omega
  · have := b1 _ ((h _).1 a3); omega
  · have := a1 _ ((h _).2 b3); have := b1 _ ((h _).1 a3); omega
theorem maxOf_snoc (l : List Int) (x : Int) : maxOf (l ++ [x]) = max (maxOf l) x := by simp [maxOf]
def idMax (xs : List Po) : Int := maxOf (xs.map (·.id))
theorem idMax_bd {xs : List Po} (h : Okl xs) : 0 ≤ idMax xs ∧ idMax xs ≤ 1000000 := by
  obtain ⟨a1, a2, a3⟩ := foldl_max_spec (xs.map (·.id)) 0
  unfold idMax maxOf
  refine ⟨a2, ?_⟩
  rcases a3 with a3 | a3
  · omega
  · obtain ⟨p, hp, e⟩ := List.mem_map.1 a3
    have := h p hp
    unfold okPo at this
    omega
theorem Bk.idmax {s : Ch} {xs : List Po} (h : Bk s xs) {l : List Int} (hp : l.Perm (s.ids.map (·.1))) : maxOf l = idMax xs := by
  refine maxOf_eq fun k => ?_
  rw [hp.mem_iff, h.idk]
  unfold noId
  constructor
  · intro hn
    refine Classical.byContradiction fun hc => hn fun q hq e => hc ?_
    exact List.mem_map.2 ⟨q, hq, e⟩
  · intro hk hn
    obtain ⟨q, hq, e⟩ := List.mem_map.1 hk
    exact hn q hq e
theorem Bk.idI64 {s : Ch} {xs : List Po} (h : Bk s xs) {k : Int} (hk : k ∈ s.ids.map (·.1)) : 1 ≤ k ∧ k ≤ 1000000 := by
  have h1 := (h.idk k).1 hk
  unfold noId at h1
  have : ∃ q ∈ xs, q.id = k := Classical.byContradiction fun hc => h1 fun q hq e => hc ⟨q, hq, e⟩
  obtain ⟨q, hq, e⟩ := this
  have := h.okl q hq
  unfold okPo at this
  omega

structure SSt where
  id : Int
  out : List Po
  held : Int → Int
def backStep (xs : List Po) (c : List Ca) (h : Int) (s : SSt) (x : Du) : SSt :=
  match causeL c x.parcel h with
  | none => s
  | some y => if ((lastL xs x.party x.parcel).getD zPo).known < y.known then ⟨s.id + 1, s.out ++ [postP h 3 x y (s.id + 1)], fun k => if x.parcel = k then s.held k + x.amount else s.held k⟩ else s
def cutDu (s : SSt) (x : Du) : Du := ⟨x.party, x.parcel, min x.amount (s.held x.parcel)⟩
def payStep (c : List Ca) (h : Int) (s : SSt) (x : Du) : SSt :=
  match causeL c x.parcel h with
  | none => s
  | some y => if 0 < min x.amount (s.held x.parcel) then ⟨s.id + 1, s.out ++ [postP h 2 (cutDu s x) y (s.id + 1)], fun k => if x.parcel = k then s.held k - min x.amount (s.held x.parcel) else s.held k⟩ else s
def backSt (xs : List Po) (d : List Du) (c : List Ca) (h : Int) : SSt := (overM xs d).foldl (backStep xs c h) ⟨idMax xs, [], heldL xs⟩
def settleSt (xs : List Po) (d : List Du) (c : List Ca) (h : Int) : SSt := (openL xs d).foldl (payStep c h) (backSt xs d c h)
def preE (xs : List Po) (d : List Du) (c : List Ca) (h : Int) : Int :=
  if ¬ (checkL xs).2 = 0 then (checkL xs).2 else if ¬ (0 ≤ h ∧ h ≤ 1000000) then 1 else if ¬ chkDu d = 0 then chkDu d else if ¬ chkCa c = 0 then chkCa c else if h < lastHour xs then 7 else 0
def settleE (xs : List Po) (d : List Du) (c : List Ca) (h : Int) : Int :=
  if ¬ preE xs d c h = 0 then preE xs d c h else if 400 < xs.length + (settleSt xs d c h).out.length ∨ (0 < (settleSt xs d c h).out.length ∧ 1000000 < (settleSt xs d c h).id) then 2 else 0

theorem backStep_none {xs : List Po} {c : List Ca} {h : Int} {s : SSt} {x : Du} (hc : causeL c x.parcel h = none) : backStep xs c h s x = s := by unfold backStep; rw [hc]
theorem backStep_not {xs : List Po} {c : List Ca} {h : Int} {s : SSt} {x : Du} {y : Ca} (hc : causeL c x.parcel h = some y) (hk : ¬ ((lastL xs x.party x.parcel).getD zPo).known < y.known) : backStep xs c h s x = s := by
  unfold backStep; rw [hc]; exact if_neg hk
theorem backStep_yes {xs : List Po} {c : List Ca} {h : Int} {s : SSt} {x : Du} {y : Ca} (hc : causeL c x.parcel h = some y) (hk : ((lastL xs x.party x.parcel).getD zPo).known < y.known) :
    backStep xs c h s x = ⟨s.id + 1, s.out ++ [postP h 3 x y (s.id + 1)], fun k => if x.parcel = k then s.held k + x.amount else s.held k⟩ := by unfold backStep; rw [hc]; exact if_pos hk
theorem payStep_none {c : List Ca} {h : Int} {s : SSt} {x : Du} (hc : causeL c x.parcel h = none) : payStep c h s x = s := by unfold payStep; rw [hc]
theorem payStep_not {c : List Ca} {h : Int} {s : SSt} {x : Du} {y : Ca} (hc : causeL c x.parcel h = some y) (hk : ¬ 0 < min x.amount (s.held x.parcel)) : payStep c h s x = s := by unfold payStep; rw [hc]; exact if_neg hk
theorem payStep_yes {c : List Ca} {h : Int} {s : SSt} {x : Du} {y : Ca} (hc : causeL c x.parcel h = some y) (hk : 0 < min x.amount (s.held x.parcel)) :
    payStep c h s x = ⟨s.id + 1, s.out ++ [postP h 2 (cutDu s x) y (s.id + 1)], fun k => if x.parcel = k then s.held k - min x.amount (s.held x.parcel) else s.held k⟩ := by unfold payStep; rw [hc]; exact if_pos hk

/-- bounds of a state behind j steps -/
structure SBd (m : Int) (j : Nat) (s : SSt) : Prop where
  id : m ≤ s.id ∧ s.id ≤ m + j
  out : s.out.length ≤ j
  held : ∀ k, 0 ≤ s.held k ∧ s.held k ≤ 400000000000 * (1 + (j : Int))
theorem SBd.back {xs : List Po} {c : List Ca} {h m : Int} {j : Nat} {s : SSt} (hs : SBd m j s) {x : Du} (hx : 0 ≤ x.amount ∧ x.amount ≤ 400000000000) : SBd m (j + 1) (backStep xs c h s x) := by
  have hw : SBd m (j + 1) s := ⟨⟨hs.id.1, by have := hs.id.2; push_cast; omega⟩, by have := hs.out; omega, fun k => ⟨(hs.held k).1, by have := (hs.held k).2; push_cast; rw [Int.mul_add] at *; omega⟩⟩
  cases hc : causeL c x.parcel h with
  | none => rw [backStep_none hc]; exact hw
  | some y =>
    by_cases hk : ((lastL xs x.party x.parcel).getD zPo).known < y.known
    · rw [backStep_yes hc hk]
      refine ⟨⟨by have := hs.id; dsimp only; omega, by have := hs.id.2; dsimp only; push_cast; omega⟩, by have := hs.out; simp; omega, fun k => ?_⟩
      have h1 := hs.held k
      have h2 := hw.held k
      dsimp only
      split
      · push_cast at *; rw [Int.mul_add] at *; omega
      · exact h2
    · rw [backStep_not hc hk]; exact hw
theorem SBd.pay {c : List Ca} {h m : Int} {j : Nat} {s : SSt} (hs : SBd m j s) {x : Du} : SBd m (j + 1) (payStep c h s x) := by
  have hw : SBd m (j + 1) s := ⟨⟨hs.id.1, by have := hs.id.2; push_cast; omega⟩, by have := hs.out; omega, fun k => ⟨(hs.held k).1, by have := (hs.held k).2; push_cast; rw [Int.mul_add] at *; omega⟩⟩
  cases hc : causeL c x.parcel h with
  | none => rw [payStep_none hc]; exact hw
  | some y =>
    by_cases hk : 0 < min x.amount (s.held x.parcel)
    · rw [payStep_yes hc hk]
      refine ⟨⟨by have := hs.id; dsimp only; omega, by have := hs.id.2; dsimp only; push_cast; omega⟩, by have := hs.out; simp; omega, fun k => ?_⟩
      have h1 := hs.held k
      have h2 := hw.held k
      dsimp only
      split
      · rename_i e
        subst e
        omega
      · exact h2
    · rw [payStep_not hc hk]; exact hw
theorem SBd.start {s : Ch} {xs : List Po} (h : Bk s xs) : SBd (idMax xs) 0 ⟨idMax xs, [], heldL xs⟩ := by
  refine ⟨⟨Int.le_refl _, by simp⟩, Nat.le_refl _, fun k => ⟨h.held0 k, ?_⟩⟩
  have h3 := paidTo_nonneg (what := k) h.has0 41
  have h4 := (soldL_bound h.okl.am k).2
  have h5 := h.len
  have h6 : heldL xs k = soldL xs k - paidTo xs k 41 := rfl
  dsimp only
  generalize (xs.length : Nat) = l at *
  simp
  omega
theorem foldl_take_snoc {α β : Type} {f : β → α → β} {b : β} {l : List α} {k : Nat} {x : α} (h : l[k]? = some x) : (l.take (k + 1)).foldl f b = f ((l.take k).foldl f b) x := by rw [take_succ_snoc h]; simp
theorem overM_amount {s : Ch} {xs : List Po} (h : Bk s xs) {d : List Du} (hd : ∀ x ∈ d, okDu x = true) {x : Du} (hx : x ∈ overM xs d) : (0 < x.amount ∧ x.amount ≤ 400000000000) ∧ I64 x.parcel ∧ I64 x.party := by
  obtain ⟨a, ha, e⟩ := List.mem_filterMap.1 hx
  unfold overStep at e
  by_cases hp : 0 < hasL xs a.2 a.1 - getI (dueM d) a
  · rw [if_pos hp] at e
    cases e
    have h1 := h.hasAbs a.2 a.1
    have h2 := dueM_bd hd a
    obtain ⟨hq, p, hpp, e⟩ := hasL_ne h.okl ((accL_mem h.okl a).1 ha)
    have := h.okl p hpp
    unfold okPo at this
    unfold I64
    dsimp only
    omega
  · rw [if_neg hp] at e; cases e
theorem openL_amount {xs : List Po} {d : List Du} (hd : ∀ x ∈ d, okDu x = true) (h0 : ∀ x y, 0 ≤ hasL xs x y) {x : Du} (hx : x ∈ openL xs d) : (0 < x.amount ∧ x.amount ≤ 1000000000) ∧ I64 x.parcel ∧ I64 x.party := by
  obtain ⟨a, ha, e⟩ := List.mem_filterMap.1 hx
  unfold openStep at e
  by_cases hp : 0 < a.amount - hasL xs a.party a.parcel
  · rw [if_pos hp] at e
    cases e
    have h1 := h0 a.party a.parcel
    have h2 := okDu_facts (hd a ha)
    unfold I64
    dsimp only
    omega
  · rw [if_neg hp] at e; cases e
theorem SBd.backs {xs : List Po} {c : List Ca} {h m : Int} : ∀ (l : List Du) (j : Nat) (s : SSt), SBd m j s → (∀ x ∈ l, 0 ≤ x.amount ∧ x.amount ≤ 400000000000) → SBd m (j + l.length) (l.foldl (backStep xs c h) s)
  | [], _, _, hs, _ => hs
  | x :: r, j, s, hs, hl => by
    have h1 := SBd.backs (xs := xs) (c := c) (h := h) r (j + 1) _ (hs.back (xs := xs) (c := c) (h := h) (hl x (by simp))) (fun y hy => hl y (by simp [hy]))
    rw [show j + (x :: r).length = j + 1 + r.length by simp; omega]
    exact h1
theorem SBd.pays {c : List Ca} {h m : Int} : ∀ (l : List Du) (j : Nat) (s : SSt), SBd m j s → SBd m (j + l.length) (l.foldl (payStep c h) s)
  | [], _, _, hs => hs
  | x :: r, j, s, hs => by
    have h1 := SBd.pays (c := c) (h := h) r (j + 1) _ (hs.pay (c := c) (h := h) (x := x))
    rw [show j + (x :: r).length = j + 1 + r.length by simp; omega]
    exact h1
end Go.Proofs.YtjleembfocghlaaGreatDoor
