/- The walks of the reference's methods of a manifest: inside, missing, path, tree. -/
import Derived.Test.YtmghbbgnenpcaaaGreatDoorCRLast
import Derived.Test.YtmghbbgnenpcaaaGreatDoorCTreesP
import Derived.Deep.RegionHeld3
import Derived.Laws.AppendOwnNone
import Derived.IntWalk
set_option linter.unusedSimpArgs false
set_option linter.unusedVariables false
namespace Go.Proofs.YtmghbbgnenpcaaaGreatDoor
open Go.RowKit Go.Shelf

/-- a manifest in its box -/
structure ManR (w : World) (M : Nat) (pa : Option Addr) (pn pc : Nat) (ta : Option Addr) (tn tc : Nat) (PS TS : List Pa) : Prop where
  c0 : w.cell? ⟨M, 0, none⟩ = some (.slice pa pn pc)
  c1 : w.cell? ⟨M, 1, none⟩ = some (.slice ta tn tc)
  rp : Rd Pa.vals 14 w pa pn PS
  rt : Rd Pa.vals 14 w ta tn TS
theorem ManR.below' {w w' : World} {M : Nat} {pa : Option Addr} {pn pc : Nat} {ta : Option Addr} {tn tc : Nat} {PS TS : List Pa} (h : ManR w M pa pn pc ta tn tc PS TS) (hB : Below w.heap.size w w') : ManR w' M pa pn pc ta tn tc PS TS :=
  ⟨cell_stays h.c0 hB, cell_stays h.c1 hB, h.rp.below' hB, h.rt.below' hB⟩
theorem ManR.box {w : World} {pa : Option Addr} {pn : Nat} (pc : Nat) {ta : Option Addr} {tn : Nat} (tc : Nat) {PS TS : List Pa} (hp : Rd Pa.vals 14 w pa pn PS) (ht : Rd Pa.vals 14 w ta tn TS) (T : TypeId) :
    ManR (w.alloc (.cells #[.slice pa pn pc, .slice ta tn tc] T)) w.heap.size pa pn pc ta tn tc PS TS :=
  have hB := al' (Below.refl w.heap.size w) (.cells #[.slice pa pn pc, .slice ta tn tc] T)
  ⟨by rw [cell_of_row _ _ _ _ _ (0, 0) (heap_alloc_new w _)]; rfl, by rw [cell_of_row _ _ _ _ _ (0, 0) (heap_alloc_new w _)]; rfl, hp.below' hB, ht.below' hB⟩
def InsPost (w : World) (L : List Int) (e : Ending) (w' : World) : Prop :=
  ∃ a c, e = .returned (.slice a L.length c) ∧ Rd ints 1 w' a L.length L ∧ Below w.heap.size w w'
def InsPostN (w : World) (L : List Int) (e : Ending) (w' : World) : Prop :=
  ∃ a c, e = .returned (.slice a L.length c) ∧ Rd ints 1 w' a L.length L ∧ Below w.heap.size w w' ∧ L.length ≤ c ∧ ∀ p, a = some p → w.heap.size ≤ p.block ∧ p.block < w'.heap.size
set_option maxRecDepth 100000 in
set_option maxHeartbeats 4000000 in
theorem inside_rn (pa : Option Addr) (pn pc : Nat) (ta : Option Addr) (tn tc : Nat) (PS TS : List Pa) (pack : Int) (w : World) (hp : Rd Pa.vals 14 w pa pn PS) (ht : Rd Pa.vals 14 w ta tn TS) (hn : pn ≤ 1000) :
    Calls Tryz.prog 94 #[.agg #[.slice pa pn pc, .slice ta tn tc], .int .i64 pack] w (InsPostN w (insideI PS pack)) := by
  obtain ⟨j0, hj0, hy0, hy1, hy2⟩ := info_parts info_int
  have hM := ManR.box pc tc hp ht 85
  have hB := al' (Below.refl w.heap.size w) (.cells #[.slice pa pn pc, .slice ta tn tc] 85)
  have HM := Lib.hid hM
  have HB1 := Lib.hid hB
  have Hl := Lib.hid hp.len
  clear hM hB hp ht
  go_enter Tryz.func94, Tryz.ntmps94
  go_upto_region 1 with (fail)
  generalize w.alloc (.cells #[.slice pa pn pc, .slice ta tn tc] 85) = w1 at *
  obtain ⟨M, hMe⟩ : ∃ M, w.heap.size = M := ⟨_, rfl⟩
  have HMe := Lib.hid hMe
  rw [hMe] at HM ⊢
  clear hMe
  go_wp2_with fail
  go_loopw [5, 6] (fun v i wr => ∃ k : Nat, k ≤ pn ∧ i = .int .i64 k ∧ wr.ownsRow w1.heap.size 3 1 v (insideL (PS.take k) pack).length ((insideL (PS.take k) pack).flatMap ints) ∧ Below w1.heap.size w1 wr) (fun _ i _ => pn - (intOf i).toNat)
  case atStart => exact ⟨0, Nat.zero_le _, rfl, World.ownsRow_nil _ _ _ _, Below.refl _ _⟩
  case round =>
    obtain ⟨k, hk, rfl, hrow, hB⟩ := hrel
    have hm := HM.out.below' hB
    have HB := Lib.hid hB
    have HRow := Lib.hid hrow
    have m0 := hm.c0
    have h1 := hm.rp
    clear hB hrow hm
    by_cases hlt : k < pn
    · have hlt' : (k : Int) < (pn : Int) := by omega
      obtain ⟨b, off, x, hpa, hb, hx, c0, c1, c2, c3, c4, c5, c6, c7, c8, c9, c10, c11, c12, c13⟩ := h1.pa hlt
      subst hpa
      have Hx := Lib.hid hx
      clear hx h1 c0 c1 c2 c3 c6 c7 c8 c9 c10 c11 c12 c13
      by_cases hp : x.inn = pack
      · have q : (x.inn == pack) = true := by simpa using hp
        have HS := Lib.hid (insideL_yes Hx.out hp)
        have hlk : (insideL (PS.take k) pack).length ≤ 1000 := Nat.le_trans (insideL_len _ _) (by rw [List.length_take]; omega)
        obtain ⟨NS, hNS⟩ : ∃ N, insideL (PS.take k) pack = N := ⟨_, rfl⟩
        rw [hNS] at HRow HS hlk
        clear hp hNS
        go_wp2_with (at_builtin; go_loud (refine wpList_append_own _ rfl _ _ 32 rfl w1.heap.size 3 j0 _ 1 8 Tryz.underlying32 hj0 hy0 hy1 hy2 rfl (by decide) _ _ _ rfl (HRow.out.alloc _) ⟨wr.heap.size, 0, none⟩ 1 1 (ints x.pack) rfl rfl (cell_one_new _ _ _) (by simp [ints, Value.oneCell']) (by unfold maxLen; omega) (by omega) (Nat.le_trans HB.out.size (by simp)) ?_; intro v9 w9 hown9 hgrow9 _))
        have HB9 := Lib.hid ((HB.out.alloc HB.out.size (.cells #[.int .i64 x.pack] 3)).grown hgrow9 (Nat.le_trans HB.out.size (by simp)) (fun j e => (HRow.out.lt j e).1))
        have HO9 := Lib.hid (own_int_next hown9)
        clear hown9 hgrow9
        go_wp2_with fail
        exact ⟨⟨k + 1, by omega, by go_num, by rw [HS.out]; exact HO9.out, HB9.out⟩, by simp [intOf]; omega⟩
      · have q : (x.inn == pack) = false := by simpa using hp
        have HS := Lib.hid (insideL_no Hx.out hp)
        clear hp
        go_wp2_with fail
        exact ⟨⟨k + 1, by omega, by go_num, by rw [HS.out]; exact HRow.out, HB.out⟩, by simp [intOf]; omega⟩
    · have hltg : ¬ (k : Int) < (pn : Int) := by omega
      have HW := Lib.hid (show PS.take k = PS from List.take_of_length_le (by rw [Hl.out]; omega))
      rw [HW.out] at HRow
      have hil : (insideL PS pack).length ≤ 1000 := Nat.le_trans (insideL_len _ _) (by rw [Hl.out]; omega)
      obtain ⟨ia, ic, rfl, hic, hri, hia⟩ := Rd.of_own (n := (insideL PS pack).length) HRow.out ints_length (by decide) rfl (by unfold maxLen; omega)
      have HRi := Lib.hid hri
      have HIc := Lib.hid hic
      have HIa := Lib.hid hia
      clear hlt h1 hri hil hia hic
      go_wp2_with fail
      go_ret
      exact ⟨ia, ic, rfl, HRi.out, HB1.out.trans (HB.out.mono HB1.out.size), HIc.out, fun p e => ⟨Nat.le_trans HB1.out.size (HIa.out p e).1, (HIa.out p e).2⟩⟩
theorem inside_r (pa : Option Addr) (pn pc : Nat) (ta : Option Addr) (tn tc : Nat) (PS TS : List Pa) (pack : Int) (w : World) (hp : Rd Pa.vals 14 w pa pn PS) (ht : Rd Pa.vals 14 w ta tn TS) (hn : pn ≤ 1000) :
    Calls Tryz.prog 94 #[.agg #[.slice pa pn pc, .slice ta tn tc], .int .i64 pack] w (InsPost w (insideI PS pack)) := by
  refine (inside_rn pa pn pc ta tn tc PS TS pack w hp ht hn).mono ?_
  rintro e w2 ⟨a, c, rfl, h1, h2, _, _⟩
  exact ⟨a, c, rfl, h1, h2⟩
set_option maxRecDepth 100000 in
set_option maxHeartbeats 4000000 in
theorem missing_r (pa : Option Addr) (pn pc : Nat) (ta : Option Addr) (tn tc : Nat) (PS TS : List Pa) (pack : Int) (w : World) (hp : Rd Pa.vals 14 w pa pn PS) (ht : Rd Pa.vals 14 w ta tn TS) (hn : pn ≤ 1000) (hc : ∀ t ∈ TS, 0 ≤ t.count ∧ t.count ≤ 1000) :
    Calls Tryz.prog 93 #[.agg #[.slice pa pn pc, .slice ta tn tc], .int .i64 pack] w fun e w' => e = .returned (.int .i64 (missR PS TS pack)) ∧ Below w.heap.size w w' := by
  have hM := ManR.box pc tc hp ht 85
  have hB := al' (Below.refl w.heap.size w) (.cells #[.slice pa pn pc, .slice ta tn tc] 85)
  have HM := Lib.hid hM
  have HB1 := Lib.hid hB
  have Hpl := Lib.hid hp.len
  clear hM hB hp ht
  go_enter Tryz.func93, Tryz.ntmps93
  go_upto_region 1 with (fail)
  generalize w.alloc (.cells #[.slice pa pn pc, .slice ta tn tc] 85) = w1 at *
  obtain ⟨M, hMe⟩ : ∃ M, w.heap.size = M := ⟨_, rfl⟩
  have HMe := Lib.hid hMe
  rw [hMe] at HM ⊢
  clear hMe
  have m1 := HM.out.c1
  have CF := Lib.hid (find_r ta tn tc TS pack w1 HM.out.rt)
  obtain ⟨oq, hoq⟩ : ∃ oq, ofI TS pack = oq := ⟨_, rfl⟩
  have HOq := Lib.hid (show missR PS TS pack = missOf oq (insideI PS pack).length from by rw [missR_is, hoq])
  have hcq : ∀ t, oq = some t → 0 ≤ t.count ∧ t.count ≤ 1000 := fun t e => hc t (ofI_mem (hoq.trans e)).1
  unfold FindPost at CF
  rw [hoq] at CF
  clear hoq hc
  go_upto_region 2 with (go_at_call 78; refine CF.out.mono ?_; rintro e w2 ⟨hS0, q, hq, rfl⟩)
  have hBq := al' (Below.refl w2.heap.size w2) (.cells #[.int .i64 q.id, .int .i64 q.known, .int .u8 q.kind, .int .i64 q.loss, .int .i64 q.pack, .int .i64 q.inn, .string ⟨q.mark.toArray⟩, .string ⟨q.goods.toArray⟩, .int .i64 q.low, .int .i64 q.high, .int .i64 q.pieces, .int .i64 q.owner, .int .i64 q.count, .int .i64 q.of] 42)
  have hS := hS0.trans (hBq.mono hS0.size)
  have hbx := (BoxG.made w2 q.vals 42)
  simp only [Pa.vals] at hbx
  have HB2 := Lib.hid (HB1.out.trans (hS.mono HB1.out.size))
  have HM2 := Lib.hid (HM.out.below' hS)
  clear hBq hS hS0 m1 CF HM HB1
  generalize w2.alloc (.cells #[.int .i64 q.id, .int .i64 q.known, .int .u8 q.kind, .int .i64 q.loss, .int .i64 q.pack, .int .i64 q.inn, .string ⟨q.mark.toArray⟩, .string ⟨q.goods.toArray⟩, .int .i64 q.low, .int .i64 q.high, .int .i64 q.pieces, .int .i64 q.owner, .int .i64 q.count, .int .i64 q.of] 42) = w3 at *
  obtain ⟨Q, hQe⟩ : ∃ Q, w2.heap.size = Q := ⟨_, rfl⟩
  rw [hQe] at hbx ⊢
  clear hQe
  obtain ⟨c0, c1, c2, c3, c4, c5, c6, c7, c8, c9, c10, c11, c12, c13⟩ := BoxG.pa (x := q) hbx
  clear hbx c0 c1 c2 c3 c4 c5 c6 c7 c8 c9 c10 c11 c13
  cases oq with
  | none =>
    have HV := Lib.hid (show missR PS TS pack = 0 from HOq.out)
    clear HOq hcq hq c12
    go_wp2_with fail
    go_ret
    exact ⟨by rw [HV.out] <;> rfl, HB2.out⟩
  | some t =>
    obtain rfl : t = q := hq
    have HV := Lib.hid (show missR PS TS pack = t.count - ((insideI PS pack).length : Int) from HOq.out)
    obtain ⟨t0, t1⟩ := hcq t rfl
    have hil : (insideI PS pack).length ≤ 1000 := Nat.le_trans (insideL_len PS pack) (by rw [Hpl.out]; exact hn)
    have CI := Lib.hid (fun W (hW : Below w3.heap.size w3 W) => inside_r pa pn pc ta tn tc PS TS pack W (HM2.out.rp.below' hW) (HM2.out.rt.below' hW) hn)
    unfold InsPost at CI
    obtain ⟨L, hL⟩ : ∃ L, (insideI PS pack).length = L := ⟨_, rfl⟩
    rw [hL] at HV hil CI
    have m0 := HM2.out.c0
    have m1 := HM2.out.c1
    have hwr : IntKind.i64.wrap (t.count - (L : Int)) = t.count - (L : Int) := IntWalk.i64_in _ (by omega)
    clear HOq hcq hL
    go_wp2_with fail
    go_region_held3 (fun w' => w'.cell? ⟨Q, 12, none⟩ = some (.int .i64 t.count) ∧ w'.cell? ⟨M, 0, none⟩ = some (.slice pa pn pc) ∧ w'.cell? ⟨M, 1, none⟩ = some (.slice ta tn tc))
      (first | go_keep | with_reducible exact ⟨cell_stays c12 hb4.out, cell_stays m0 hb4.out, cell_stays m1 hb4.out⟩)
      ((go_at_call 94; with_reducible refine (CI.out _ (dr' (Below.refl _ _))).mono ?_; rintro e w4 ⟨ia, ic, rfl, _, hB4⟩; have hb4 := Lib.hid (show Below w3.heap.size w3 w4 from below_on (dr' (Below.refl _ _)) hB4 (Nat.le_refl _))))
    have HB5 := Lib.hid (HB2.out.trans (hb4.out.mono HB2.out.size))
    clear hb4 hB4
    go_wp2_with fail
    go_ret
    exact ⟨by rw [HV.out] <;> rfl, HB5.out⟩

theorem way_zero (ps : List Pa) (d : Nat) (acc : List Int) : wayR ps d 0 acc = some acc := by cases d <;> (unfold wayR; rw [if_pos rfl])
theorem way_none {ps : List Pa} {p : Int} (h0 : p ≠ 0) (h : ofI ps p = none) (d : Nat) (acc : List Int) : wayR ps d p acc = none := by
  cases d with
  | zero => unfold wayR; rw [if_neg h0]
  | succ d => unfold wayR; rw [if_neg h0, h]
theorem way_end {ps : List Pa} {p : Int} (h0 : p ≠ 0) (acc : List Int) : wayR ps 0 p acc = none := by unfold wayR; rw [if_neg h0]
theorem way_step {ps : List Pa} {p : Int} {x : Pa} (h0 : p ≠ 0) (h : ofI ps p = some x) (d : Nat) (acc : List Int) : wayR ps (d + 1) p acc = wayR ps d x.inn (p :: acc) := by
  conv => lhs; unfold wayR
  rw [if_neg h0, h]
theorem own_one {W : World} {base : Nat} (hb : base ≤ W.heap.size) (p : Int) : (W.alloc (.cells #[.int .i64 p] 3)).ownsRow base 3 1 (.slice (some ⟨W.heap.size, 0, none⟩) 1 1) 1 [.int .i64 p] :=
  ⟨by simp, .inr ⟨W.heap.size, 1, #[.int .i64 p], rfl, hb, heap_alloc_new W _, Nat.le_refl _, by unfold maxLen; omega, by simp, by simp⟩⟩
def WayPost (w : World) (o : Option (List Int)) (e : Ending) (w' : World) : Prop :=
  ∃ a n c, e = .returned (.tuple #[.slice a n c, .bool o.isSome]) ∧ Rd ints 1 w' a n (o.getD []) ∧ n ≤ c ∧ Below w.heap.size w w'
set_option maxRecDepth 100000 in
set_option maxHeartbeats 8000000 in
theorem path_r (pa : Option Addr) (pn pc : Nat) (ta : Option Addr) (tn tc : Nat) (PS TS : List Pa) (pack : Int) (w : World) (hp : Rd Pa.vals 14 w pa pn PS) (ht : Rd Pa.vals 14 w ta tn TS) (hn : pn ≤ 1000) :
    Calls Tryz.prog 92 #[.agg #[.slice pa pn pc, .slice ta tn tc], .int .i64 pack] w (WayPost w (wayR PS 201 pack [])) := by
  obtain ⟨j0, hj0, hy0, hy1, hy2⟩ := info_parts info_int
  have hM := ManR.box pc tc hp ht 85
  have hB := al' (Below.refl w.heap.size w) (.cells #[.slice pa pn pc, .slice ta tn tc] 85)
  have HM := Lib.hid hM
  have HB1 := Lib.hid hB
  obtain ⟨RES, hRES⟩ : ∃ r, wayR PS 201 pack [] = r := ⟨_, rfl⟩
  rw [hRES]
  have HRES := Lib.hid hRES
  clear hM hB hp ht hRES
  go_enter Tryz.func92, Tryz.ntmps92
  go_upto_region 1 with (fail)
  generalize w.alloc (.cells #[.slice pa pn pc, .slice ta tn tc] 85) = w1 at *
  obtain ⟨M, hMe⟩ : ∃ M, w.heap.size = M := ⟨_, rfl⟩
  have HMe := Lib.hid hMe
  rw [hMe] at HM ⊢
  clear hMe
  go_wp2_with fail
  go_loopw [1, 6, 7] (fun pv v nv wr => ∃ (j : Nat) (p : Int) (acc : List Int), j ≤ 201 ∧ pv = .int .i64 p ∧ nv = .int .i64 j ∧ wayR PS (201 - j) p acc = RES ∧ acc.length ≤ j ∧ wr.ownsRow w1.heap.size 3 1 v acc.length (acc.flatMap ints) ∧ (acc = [] → v = .slice none 0 0) ∧ Below w1.heap.size w1 wr) (fun _ _ nv _ => 300 - (intOf nv).toNat)
  case atStart => exact ⟨0, pack, [], Nat.zero_le _, rfl, rfl, HRES.out, Nat.le_refl _, World.ownsRow_nil _ _ _ _, fun _ => rfl, Below.refl _ _⟩
  case round =>
    obtain ⟨j, p, acc, hj, rfl, rfl, hway, hacc, hrow, hnil, hB⟩ := hrel
    have HW := Lib.hid hway
    have HRow := Lib.hid hrow
    have HNil := Lib.hid hnil
    have HB := Lib.hid hB
    have HMr := Lib.hid (HM.out.below' hB)
    clear hway hrow hnil hB
    by_cases h0 : p = 0
    · have h0' : (p != 0) = false := by simp [h0]
      have HE := Lib.hid (show RES = some acc from by rw [← HW.out, h0, way_zero])
      obtain ⟨va, vc, rfl, hvc, hrd, _⟩ := Rd.of_own HRow.out ints_length (by decide) rfl (by unfold maxLen; omega)
      have HRd := Lib.hid hrd
      clear h0 hrd HRow HNil
      go_wp2_with fail
      go_ret2
      exact ⟨va, acc.length, vc, by rw [HE.out] <;> rfl, by rw [HE.out]; exact HRd.out, hvc, HB1.out.trans (HB.out.mono HB1.out.size)⟩
    have h0' : (p != 0) = true := by simp [h0]
    have H0 := Lib.hid h0
    clear h0
    have m0 := HMr.out.c0
    have CF := Lib.hid (find_r pa pn pc PS p wr HMr.out.rp)
    obtain ⟨oq, hoq⟩ : ∃ oq, ofI PS p = oq := ⟨_, rfl⟩
    have HOq := Lib.hid hoq
    unfold FindPost at CF
    rw [hoq] at CF
    clear hoq
    go_upto_region 6 with (go_at_call 78; refine CF.out.mono ?_; rintro e w2 ⟨hS0, q, hq, rfl⟩)
    have hBq := al' (Below.refl w2.heap.size w2) (.cells #[.int .i64 q.id, .int .i64 q.known, .int .u8 q.kind, .int .i64 q.loss, .int .i64 q.pack, .int .i64 q.inn, .string ⟨q.mark.toArray⟩, .string ⟨q.goods.toArray⟩, .int .i64 q.low, .int .i64 q.high, .int .i64 q.pieces, .int .i64 q.owner, .int .i64 q.count, .int .i64 q.of] 42)
    have hS := hS0.trans (hBq.mono hS0.size)
    have hbx := (BoxG.made w2 q.vals 42)
    simp only [Pa.vals] at hbx
    have HB2 := Lib.hid (HB.out.trans (hS.mono HB.out.size))
    have HRow2 := Lib.hid (own_later' HRow.out hS)
    clear hBq hS hS0 m0 CF HRow HMr HB
    generalize w2.alloc (.cells #[.int .i64 q.id, .int .i64 q.known, .int .u8 q.kind, .int .i64 q.loss, .int .i64 q.pack, .int .i64 q.inn, .string ⟨q.mark.toArray⟩, .string ⟨q.goods.toArray⟩, .int .i64 q.low, .int .i64 q.high, .int .i64 q.pieces, .int .i64 q.owner, .int .i64 q.count, .int .i64 q.of] 42) = w3 at *
    obtain ⟨Q, hQe⟩ : ∃ Q, w2.heap.size = Q := ⟨_, rfl⟩
    rw [hQe] at hbx ⊢
    clear hQe
    have HBx := Lib.hid hbx
    cases oq with
    | none =>
      have HE := Lib.hid (show RES = none from by rw [← HW.out, way_none H0.out HOq.out])
      clear hbx hq
      go_wp2_with fail
      go_ret2
      exact ⟨none, 0, 0, by rw [HE.out] <;> rfl, by rw [HE.out]; exact Rd.empty _ _, Nat.le_refl _, HB1.out.trans (HB2.out.mono HB1.out.size)⟩
    | some t =>
      obtain rfl : t = q := hq
      by_cases h200 : 200 < j
      · have h200' : (200 : Int) < (j : Int) := by omega
        obtain rfl : j = 201 := by omega
        have HE := Lib.hid (show RES = none from by rw [← HW.out]; exact way_end H0.out acc)
        clear hbx h200
        go_wp2_with fail
        go_ret2
        exact ⟨none, 0, 0, by rw [HE.out] <;> rfl, by rw [HE.out]; exact Rd.empty _ _, Nat.le_refl _, HB1.out.trans (HB2.out.mono HB1.out.size)⟩
      have h200' : ¬ (200 : Int) < (j : Int) := by omega
      have HN := Lib.hid (show wayR PS (201 - (j + 1)) t.inn (p :: acc) = RES from by
        rw [← HW.out, show 201 - j = (201 - (j + 1)) + 1 by omega, way_step H0.out HOq.out])
      have hjb : j ≤ 200 := by omega
      clear hbx h200 HW
      obtain ⟨c0, c1, c2, c3, c4, c5, c6, c7, c8, c9, c10, c11, c12, c13⟩ := BoxG.pa (x := t) HBx.out
      clear c0 c1 c2 c3 c4 c6 c7 c8 c9 c10 c11 c12 c13
      have HS3 := Lib.hid (HB2.out.alloc HB2.out.size (.cells #[.int .i64 p] 3))
      have HO1 := Lib.hid (own_one (W := w3) (base := w1.heap.size) HB2.out.size p)
      cases acc with
      | nil =>
        have hv := HNil.out rfl
        subst hv
        clear HRow2 HNil
        have c5' := cell_stays c5 (al' (Below.refl w3.heap.size w3) (.cells #[.int .i64 p] 3))
        go_wp2_with (at_builtin; refine wpList_append_own_none rfl _ _ 32 rfl w1.heap.size 3 j0 1 Tryz.underlying32 hj0 _ 1 [.int .i64 p] rfl HO1.out rfl ?_)
        exact ⟨⟨j + 1, t.inn, [p], by omega, rfl, by go_num, HN.out, by simp, HO1.out, fun e => (by cases e), HS3.out⟩, by simp [intOf]; omega⟩
      | cons p2 acc2 =>
        obtain ⟨va, vc, rfl, hvc, hrd, hbl⟩ := Rd.of_own HRow2.out ints_length (by decide) rfl (by unfold maxLen; omega)
        obtain ⟨ad, had⟩ : ∃ ad, va = some ad := by
          obtain ⟨b, o, _, e, _⟩ := hrd.int (i := 0) (by simp)
          exact ⟨_, e⟩
        subst had
        have HRd := Lib.hid (hrd.below' (al' (Below.refl w3.heap.size w3) (.cells #[.int .i64 p] 3)))
        obtain ⟨m, hm⟩ : ∃ m, (p2 :: acc2).length = m := ⟨_, rfl⟩
        have Hm := Lib.hid hm
        rw [hm] at HRd hacc ⊢
        clear hrd hbl HRow2 HNil hm hvc
        have h1x : ∀ u ∈ (p2 :: acc2).flatMap ints, u.oneCell' = true := by
          intro u hu
          obtain ⟨y, _, hy⟩ := List.mem_flatMap.1 hu
          simp only [ints, List.mem_cons, List.not_mem_nil, or_false] at hy
          subst hy; rfl
        have H1x := Lib.hid h1x
        clear h1x
        have GO : ∀ v9 w9, w9.ownsRow w1.heap.size 3 1 v9 (1 + m) ([.int .i64 p] ++ (p2 :: acc2).flatMap ints) → (w3.alloc (.cells #[.int .i64 p] 3)).grownBy w9 (some w3.heap.size) →
            Below w1.heap.size w1 w9 ∧ w9.cell? ⟨Q, 5, none⟩ = some (.int .i64 t.inn) ∧ w9.ownsRow w1.heap.size 3 1 v9 (p :: p2 :: acc2).length ((p :: p2 :: acc2).flatMap ints) := by
          intro v9 w9 hown9 hg9
          have hne : Q ≠ w3.heap.size := Nat.ne_of_lt HBx.out.1
          have HB9 := (HS3.out.grown hg9 HS3.out.size (fun k e => by injection e with e; have := HB2.out.size; omega))
          have c59 : w9.cell? ⟨Q, 5, none⟩ = some (.int .i64 t.inn) := by
            rw [hg9.cell_far ⟨Q, 5, none⟩ (by have := HBx.out.1; simp; omega) (fun e => hne (by injection e))]
            exact cell_stays c5 (al' (Below.refl w3.heap.size w3) _)
          have HO9 := (show w9.ownsRow w1.heap.size 3 1 v9 (p :: p2 :: acc2).length ((p :: p2 :: acc2).flatMap ints) from by
            have e1 : (p :: p2 :: acc2).length = 1 + m := by rw [← Hm.out]; simp; omega
            have e2 : (p :: p2 :: acc2).flatMap ints = [.int .i64 p] ++ (p2 :: acc2).flatMap ints := by simp [ints]
            rw [e1, e2]; exact hown9)
          exact ⟨HB9, c59, HO9⟩
        have HGO := Lib.hid GO
        clear GO c5
        go_wp2_with (at_builtin; refine wpList_append_own _ rfl _ _ 32 rfl w1.heap.size 3 j0 _ 1 8 Tryz.underlying32 hj0 hy0 hy1 hy2 rfl (by decide) _ 1 [.int .i64 p] rfl HO1.out ad m vc ((p2 :: acc2).flatMap ints) rfl (by rw [flat_length ints_length, Hm.out]) (Rd.news HRd.out ints_length) H1x.out (by unfold maxLen; omega) (by omega) HS3.out.size ?_; intro v9 w9 hown9 hgrow9 _; obtain ⟨hb9, c59, ho9⟩ := HGO.out v9 w9 hown9 hgrow9; have HB9 := Lib.hid hb9; have HO9 := Lib.hid ho9; clear hown9 hgrow9 hb9 ho9)
        exact ⟨⟨j + 1, t.inn, p :: p2 :: acc2, by omega, rfl, by go_num, HN.out, by have := Hm.out; simp only [List.length_cons] at this ⊢; omega, HO9.out, fun e => (by cases e), HB9.out⟩, by simp [intOf]; omega⟩
set_option maxRecDepth 100000 in
set_option maxHeartbeats 8000000 in
theorem tree_r (pa : Option Addr) (pn pc : Nat) (ta : Option Addr) (tn tc : Nat) (PS TS : List Pa) (w : World) (hp : Rd Pa.vals 14 w pa pn PS) (ht : Rd Pa.vals 14 w ta tn TS) (hn : pn ≤ 1000) (htn : tn ≤ 1000) (hc : ∀ t ∈ TS, 0 ≤ t.count ∧ t.count ≤ 1000) :
    Calls Tryz.prog 97 #[.agg #[.slice pa pn pc, .slice ta tn tc]] w fun e w' => e = .returned (.bool (treeRB PS TS)) ∧ Below w.heap.size w w' := by
  have hM := ManR.box pc tc hp ht 85
  have hB := al' (Below.refl w.heap.size w) (.cells #[.slice pa pn pc, .slice ta tn tc] 85)
  have HM := Lib.hid hM
  have HB1 := Lib.hid hB
  have Hpl := Lib.hid hp.len
  have Htl := Lib.hid ht.len
  have HCt := Lib.hid hc
  clear hM hB hp ht hc
  go_enter Tryz.func97, Tryz.ntmps97
  go_upto_region 1 with (fail)
  generalize w.alloc (.cells #[.slice pa pn pc, .slice ta tn tc] 85) = w1 at *
  obtain ⟨M, hMe⟩ : ∃ M, w.heap.size = M := ⟨_, rfl⟩
  have HMe := Lib.hid hMe
  rw [hMe] at HM ⊢
  clear hMe
  go_wp2_with fail
  go_loopw [3] (fun i wr => ∃ k : Nat, k ≤ pn ∧ i = .int .i64 k ∧ (PS.take k).all (fun x => (wayR PS 201 x.pack []).isSome) = true ∧ Below w1.heap.size w1 wr) (fun i _ => pn - (intOf i).toNat)
  case atStart => exact ⟨0, Nat.zero_le _, rfl, rfl, Below.refl _ _⟩
  case round =>
    obtain ⟨k, hk, rfl, hall, hB⟩ := hrel
    have HA := Lib.hid hall
    have HB := Lib.hid hB
    have HMr := Lib.hid (HM.out.below' hB)
    have m0 := HMr.out.c0
    have m1 := HMr.out.c1
    clear hall hB
    by_cases hlt : k < pn
    · have hlt' : (k : Int) < (pn : Int) := by omega
      obtain ⟨b, off, x, hpa, hb, hx, c0, c1, c2, c3, c4, c5, c6, c7, c8, c9, c10, c11, c12, c13⟩ := HMr.out.rp.pa hlt
      have Hx := Lib.hid hx
      clear hx c0 c1 c2 c3 c5 c6 c7 c8 c9 c10 c11 c12 c13
      have CP := Lib.hid (fun W (hW : Below wr.heap.size wr W) => path_r pa pn pc ta tn tc PS TS x.pack W (HMr.out.rp.below' hW) (HMr.out.rt.below' hW) hn)
      unfold WayPost at CP
      subst hpa
      obtain ⟨is, his⟩ : ∃ b, (wayR PS 201 x.pack []).isSome = b := ⟨_, rfl⟩
      have HIs := Lib.hid his
      rw [his] at CP
      clear his
      go_upto_region 4 with (fail)
      go_region_held3 (fun w' => w'.cell? ⟨M, 0, none⟩ = some (.slice (some ⟨b, off, none⟩) pn pc) ∧ w'.cell? ⟨M, 1, none⟩ = some (.slice ta tn tc) ∧ w'.cell? ⟨b, off + k * 14 + 4, none⟩ = some (.int .i64 x.pack))
        (first | go_keep | with_reducible exact ⟨cell_stays m0 hb4.out, cell_stays m1 hb4.out, cell_stays c4 hb4.out⟩)
        ((go_at_call 92; with_reducible refine (CP.out _ (dr' (Below.refl _ _))).mono ?_; rintro e w4 ⟨ia, il, ic, rfl, _, _, hB4⟩; have hb4 := Lib.hid (show Below wr.heap.size wr w4 from below_on (dr' (Below.refl _ _)) hB4 (Nat.le_refl _))))
      have HB4 := Lib.hid (HB.out.trans (hb4.out.mono HB.out.size))
      clear hb4 hB4 m0 m1 c4 CP
      cases is with
      | false =>
        have HE := Lib.hid (show treeRB PS TS = false from by unfold treeRB; rw [all_no Hx.out HIs.out]; rfl)
        go_wp2_with fail
        go_ret
        exact ⟨by rw [HE.out] <;> rfl, HB1.out.trans (HB4.out.mono HB1.out.size)⟩
      | true =>
        have HN := Lib.hid (take_all_snoc (p := fun x => (wayR PS 201 x.pack []).isSome) Hx.out HA.out HIs.out)
        go_wp2_with fail
        exact ⟨⟨k + 1, by omega, by go_num, HN.out, HB4.out⟩, by simp [intOf]; omega⟩
    · have hltg : ¬ (k : Int) < (pn : Int) := by omega
      have HT := Lib.hid (show treeRB PS TS = TS.all (fun t => decide (0 ≤ missR PS TS t.pack)) from by
        have := HA.out
        rw [List.take_of_length_le (by rw [Hpl.out]; omega)] at this
        unfold treeRB; rw [this]; rfl)
      clear hlt
      have HB0 := Lib.hid (HB1.out.trans (HB.out.mono HB1.out.size))
      obtain ⟨wo, rfl⟩ : ∃ wo : World, wo = wr := ⟨_, rfl⟩
      clear HA HM HB HB1
      go_wp2_with fail
      go_loopw [6] (fun i wr => ∃ k : Nat, k ≤ tn ∧ i = .int .i64 k ∧ (TS.take k).all (fun t => decide (0 ≤ missR PS TS t.pack)) = true ∧ Below wo.heap.size wo wr) (fun i _ => tn - (intOf i).toNat)
      case atStart => exact ⟨0, Nat.zero_le _, rfl, rfl, Below.refl _ _⟩
      case round =>
        obtain ⟨k2, hk2, rfl, hall, hB⟩ := hrel
        have HA := Lib.hid hall
        have HB := Lib.hid hB
        have HM2 := Lib.hid (HMr.out.below' hB)
        have m0 := HM2.out.c0
        have m1 := HM2.out.c1
        clear hall hB
        by_cases hlt : k2 < tn
        · have hlt' : (k2 : Int) < (tn : Int) := by omega
          obtain ⟨b, off, x, hpa, hb, hx, c0, c1, c2, c3, c4, c5, c6, c7, c8, c9, c10, c11, c12, c13⟩ := HM2.out.rt.pa hlt
          have Hx := Lib.hid hx
          clear hx c0 c1 c2 c3 c5 c6 c7 c8 c9 c10 c11 c12 c13
          have CP := Lib.hid (fun W (hW : Below wr.heap.size wr W) => missing_r pa pn pc ta tn tc PS TS x.pack W (HM2.out.rp.below' hW) (HM2.out.rt.below' hW) hn HCt.out)
          subst hpa
          obtain ⟨mi, hmi⟩ : ∃ b, missR PS TS x.pack = b := ⟨_, rfl⟩
          have HMi := Lib.hid hmi
          rw [hmi] at CP
          clear hmi
          go_upto_region 10 with (fail)
          go_region_held3 (fun w' => w'.cell? ⟨M, 0, none⟩ = some (.slice pa pn pc) ∧ w'.cell? ⟨M, 1, none⟩ = some (.slice (some ⟨b, off, none⟩) tn tc) ∧ w'.cell? ⟨b, off + k2 * 14 + 4, none⟩ = some (.int .i64 x.pack))
            (first | go_keep | with_reducible exact ⟨cell_stays m0 hb4.out, cell_stays m1 hb4.out, cell_stays c4 hb4.out⟩)
            ((go_at_call 93; with_reducible refine (CP.out _ (dr' (Below.refl _ _))).mono ?_; rintro e w4 ⟨rfl, hB4⟩; have hb4 := Lib.hid (show Below wr.heap.size wr w4 from below_on (dr' (Below.refl _ _)) hB4 (Nat.le_refl _))))
          have HB4 := Lib.hid (HB.out.trans (hb4.out.mono HB.out.size))
          clear hb4 hB4 m0 m1 c4 CP
          by_cases hneg : mi < 0
          · have hneg' : decide (mi < 0) = true := decide_eq_true hneg
            have HE := Lib.hid (show treeRB PS TS = false from by rw [HT.out]; exact all_no Hx.out (decide_eq_false (by rw [HMi.out]; omega)))
            go_wp2_with fail
            go_ret
            exact ⟨by rw [HE.out] <;> rfl, HB0.out.trans (HB4.out.mono HB0.out.size)⟩
          · have hneg' : decide (mi < 0) = false := decide_eq_false hneg
            have HN := Lib.hid (take_all_snoc (p := fun t => decide (0 ≤ missR PS TS t.pack)) Hx.out HA.out (decide_eq_true (by rw [HMi.out]; omega)))
            go_wp2_with fail
            exact ⟨⟨k2 + 1, by omega, by go_num, HN.out, HB4.out⟩, by simp [intOf]; omega⟩
        · have hltg : ¬ (k2 : Int) < (tn : Int) := by omega
          have HE := Lib.hid (show treeRB PS TS = true from by
            have := HA.out
            rw [List.take_of_length_le (by rw [Htl.out]; omega)] at this
            rw [HT.out, this])
          clear hlt
          go_wp2_with fail
          go_ret
          exact ⟨by rw [HE.out] <;> rfl, HB0.out.trans (HB.out.mono HB0.out.size)⟩
end Go.Proofs.YtmghbbgnenpcaaaGreatDoor
