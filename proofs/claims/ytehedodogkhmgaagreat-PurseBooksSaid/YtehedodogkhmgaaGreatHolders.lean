/- What parties have for a parcel: the walk of purse.Holders. -/
import Derived.Test.YtehedodogkhmgaaGreatKeep
import Derived.Test.YtehedodogkhmgaaGreatRefP
import Derived.Deep.RegionHeld3
set_option linter.unusedSimpArgs false
set_option linter.unusedVariables false
namespace Go.Proofs.YtehedodogkhmgaaGreat
open Go.RowKit Go.Shelf

theorem keep3 {W W' : World} {a a' b : Addr} {u v x : Value} (h : W.cell? a = some u ∧ W.cell? a' = some v ∧ W.cell? b = some x) (hB : Below W.heap.size W W') :
    W'.cell? a = some u ∧ W'.cell? a' = some v ∧ W'.cell? b = some x := ⟨cell_keep h.1 hB, cell_keep h.2.1 hB, cell_keep h.2.2 hB⟩
theorem keep3g {W W' : World} {o : Obj} {b B i0 i1 j1 : Nat} {u v x : Value} {row : Option Nat} (h : W.cell? ⟨b, i0, none⟩ = some u ∧ W.cell? ⟨b, i1, none⟩ = some v ∧ W.cell? ⟨B, j1, none⟩ = some x) (hg : (W.alloc o).drew.grownBy W' row) (hb : row ≠ some b) (hB : row ≠ some B) (hlb : b < W.heap.size) (hlB : B < W.heap.size) :
    W'.cell? ⟨b, i0, none⟩ = some u ∧ W'.cell? ⟨b, i1, none⟩ = some v ∧ W'.cell? ⟨B, j1, none⟩ = some x := by
  have h1 : ∀ i, W'.cell? ⟨b, i, none⟩ = W.cell? ⟨b, i, none⟩ := fun i => (hg.cell_far ⟨b, i, none⟩ (Nat.lt_of_lt_of_le hlb (by show W.heap.size ≤ (W.alloc o).heap.size; simp)) (fun e => hb e.symm)).trans ((bl1 W o).cell (p := ⟨b, i, none⟩) hlb)
  have h2 : ∀ i, W'.cell? ⟨B, i, none⟩ = W.cell? ⟨B, i, none⟩ := fun i => (hg.cell_far ⟨B, i, none⟩ (Nat.lt_of_lt_of_le hlB (by show W.heap.size ≤ (W.alloc o).heap.size; simp)) (fun e => hB e.symm)).trans ((bl1 W o).cell (p := ⟨B, i, none⟩) hlB)
  rw [h1, h1, h2]; exact h

def holdStep (xs : List Po) (what : Int) (a : Int × Int) : Option Du := if a.1 = what then some ⟨a.2, what, hasL xs a.2 what⟩ else none
def holdersL (xs : List Po) (what : Int) : List Du := (accL xs).filterMap (holdStep xs what)
def holdersR (xs : List Po) (what : Int) : List Du := if askE xs what 0 = 0 then holdersL xs what else []
def HoldersPost (w : World) (xs : List Po) (what : Int) (e : Ending) (w' : World) : Prop :=
  ∃ v, e = .returned v ∧ w'.ownsRow w.heap.size 53 3 v (holdersR xs what).length ((holdersR xs what).flatMap Du.vals) ∧ Below w.heap.size w w'

set_option maxRecDepth 100000 in
set_option maxHeartbeats 4000000 in
theorem holders_any (a : Option Addr) (n cap : Nat) (xs : List Po) (what : Int) (w : World) (h : Rd Po.vals 8 w a n xs) (hw : ∀ p ∈ xs, p.Wf) (hp : I64 what) :
    Calls Tryz.prog 44 #[.slice a n cap, .int .i64 what] w (HoldersPost w xs what) := by
  obtain ⟨i0, hi, hz0, hz1, hz2⟩ := info_parts info_du
  go_enter Tryz.func44, Tryz.ntmps44
  go_wp2_with fail
  refine (asked_any a n cap xs what 0 _ h hw).mono ?_
  rintro e w1 ⟨hB, ⟨hc, rfl⟩ | ⟨hc, L, s, rfl, hch, hbk, hL⟩⟩
  · have HB := Lib.hid hB
    have Hc := Lib.hid hc
    have hc1 : (askE xs what 0 != 0) = true := by simp [hc]
    clear hB hc h
    go_wp2_with fail
    go_ret
    exact ⟨_, rfl, by unfold holdersR; rw [if_neg Hc.out]; exact World.ownsRow_nil _ _ _ _, HB.out⟩
  have HB1 := Lib.hid hB
  have Hc := Lib.hid hc
  clear hB hc h hw
  go_wp2_with fail
  refine (accounts_any L s xs _ hch hbk).mono ?_
  rintro e w2 ⟨va, rfl, hra, hB2⟩
  have hal := accL_len hbk
  obtain ⟨aa, ca, rfl, hca, hrd, hlow⟩ := Rd.of_own hra accs_length (by omega) rfl (by unfold maxLen; omega)
  have hch2 := hch.below' hB2
  have HB2 := Lib.hid (below_then HB1.out hB2 (Nat.le_refl _))
  obtain ⟨N, hN⟩ : ∃ N, (accL xs).length = N := ⟨_, rfl⟩
  rw [hN] at hrd hca hal ⊢
  have HN := Lib.hid hN
  clear hB2 hch hra hlow hN
  go_wp2_with fail
  go_loopw [7, 21] (fun v i wr => ∃ k : Nat, k ≤ N ∧ i = .int .i64 k ∧ wr.ownsRow w2.heap.size 53 3 v (((accL xs).take k).filterMap (holdStep xs what)).length ((((accL xs).take k).filterMap (holdStep xs what)).flatMap Du.vals) ∧ Below w2.heap.size w2 wr) (fun _ i _ => N - (intOf i).toNat)
  case atStart => exact ⟨0, Nat.zero_le _, rfl, World.ownsRow_nil _ _ _ _, Below.refl _ _⟩
  case round =>
    obtain ⟨k, hk, rfl, hrow, hB⟩ := hrel
    have h1 := hrd.below' hB
    by_cases hlt : k < N
    · obtain ⟨b, off, x, rfl, hb, hx, x0, x1⟩ := h1.acc hlt
      obtain ⟨ip, iq⟩ : I64 x.1 ∧ I64 x.2 := by
        have hne := (accL_mem hbk.okl x).1 (List.mem_of_getElem? hx)
        obtain ⟨hq, p, hp, e⟩ := hasL_ne hbk.okl hne
        have := hbk.okl p hp
        unfold okPo at this
        unfold I64
        omega
      have hhas := hbk.has (x.1, x.2)
      have hcw := (hch2.below' hB).alloc (.cells #[.int .i64 x.1, .int .i64 x.2] 90)
      have hrow1 := hrow.alloc (.cells #[.int .i64 x.1, .int .i64 x.2] 90)
      have HBa := Lib.hid (hB.alloc hB.size (.cells #[.int .i64 x.1, .int .i64 x.2] 90))
      have e3 := Boxed2.new wr x
      have Hsn := Lib.hid (take_succ_snoc hx)
      have Hrl := Lib.hid hrow.lt
      have h1s := hB.size
      have hkl : (((accL xs).take k).filterMap (holdStep xs what)).length ≤ k := Nat.le_trans (List.length_filterMap_le _ _) (by rw [List.length_take]; omega)
      have hszW : (wr.alloc (.cells #[.int .i64 x.1, .int .i64 x.2] 90)).heap.size = wr.heap.size + 1 := by simp
      have HszW := Lib.hid hszW
      clear hszW
      have hcb := (hch2.below' hB).cs.2.2.2.2.2.1
      have hcl : L.c < wr.heap.size := World.block_lt_of_cell? _ _ hcb
      have hcl2 : L.c < w2.heap.size := World.block_lt_of_cell? _ _ hch2.cs.2.2.2.2.2.1
      clear hx hrow hB hcb
      go_upto_region 8 with (fail)
      generalize wr.alloc (.cells #[.int .i64 x.1, .int .i64 x.2] 90) = W at *
      have hwW : wr.heap.size < W.heap.size := by have := HszW.out; omega
      obtain ⟨e0, e1⟩ := e3
      obtain ⟨c0, c1, c2, c3, c4, c5, c6⟩ := hcw.cs
      by_cases hpos : x.1 = what
      case neg =>
        have hpos1 : (x.1 == what) = false := by simp [hpos]
        have Hst := Lib.hid (show ((accL xs).take (k + 1)).filterMap (holdStep xs what) = ((accL xs).take k).filterMap (holdStep xs what) by
          rw [Hsn.out]; exact fm_snoc_none (by unfold holdStep; rw [if_neg hpos]))
        have Hrow1 := Lib.hid hrow1
        clear hrow1 hpos
        go_wp2_with fail
        exact ⟨⟨k + 1, by omega, by go_num, by rw [Hst.out]; exact Hrow1.out, HBa.out⟩, by simp [intOf]; omega⟩
      subst hpos
      have hpos1 : (x.1 == x.1) = true := by simp
      have Hst := Lib.hid (show ((accL xs).take (k + 1)).filterMap (holdStep xs x.1) = ((accL xs).take k).filterMap (holdStep xs x.1) ++ [⟨x.2, x.1, hasL xs x.2 x.1⟩] by
        rw [Hsn.out]; exact fm_snoc_some (by unfold holdStep; rw [if_pos rfl]))
      have f4 : (Instr.lookup 78 (.map (some L.has)) (.agg #[.int .i64 x.1, .int .i64 x.2]) false).run Tryz.prog W.drew = .ok (.int .i64 (hasL xs x.2 x.1)) W.drew := by
        rw [look_acc hcw.has.drew ip iq, hhas]
      obtain ⟨m, hm⟩ : ∃ m, hasL xs x.2 x.1 = m := ⟨_, rfl⟩
      rw [hm] at Hst f4
      have HRW := Lib.hid hrow1
      have HE := Lib.hid (And.intro e0 (And.intro e1 c5))
      obtain ⟨Y, hY⟩ : ∃ Y, ((accL xs).take k).filterMap (holdStep xs x.1) = Y := ⟨_, rfl⟩
      rw [hY] at Hst HRW hkl
      clear hrow1 hcw hhas hbk hm hY
      go_upto_region 9 with (fail)
      go_region_held3 (fun w' => w'.cell? ⟨wr.heap.size, 0, none⟩ = some (.int .i64 x.1) ∧ w'.cell? ⟨wr.heap.size, 1, none⟩ = some (.int .i64 x.2) ∧ w'.cell? ⟨L.c, 5, none⟩ = some (.map (some L.has)))
        ((first | (with_reducible apply HK9.out) | (refine keep3 ⟨e0, e1, c5⟩ ?_; first | with_reducible apply bl0 | with_reducible apply bl1)))
        (first
          | (refine step_append_lies _ (by rfl) _ _ _ (by rfl) _ 53 i0 _ 3 24 Tryz.underlying23 hi hz0 hz1 hz2 rfl (by omega) _ _ _ (by rfl) (own_later HRW.out (bl1 W _)) ⟨W.heap.size, 0, none⟩ 1 1 (Du.vals ⟨x.2, x.1, m⟩) (by rfl) (by rfl)
              (World.news_of_block (cs := #[.int .i64 x.2, .int .i64 x.1, .int .i64 m]) (t := 53) (fr := (0, 0)) (heap_alloc_new W _)) (by simp [Du.vals, Value.oneCell']) (by omega) (by unfold maxLen; omega) (by omega) (Nat.le_trans HBa.out.size (by simp)) _ rfl ?_; intro g cap9 w9 hown9 hgrow hat hlt9
             have HK9 := Lib.hid (keep3g ⟨e0, e1, c5⟩ hgrow (fun e => by have := (Hrl.out _ e).2; omega) (fun e => by have := (Hrl.out _ e).1; omega) (by omega) (by omega)); have HO9 := Lib.hid hown9; have HG9 := Lib.hid hgrow; clear hown9 hgrow hat))
      go_wp2_with fail
      refine ⟨⟨k + 1, by omega, by go_num, ?_, (below_then HBa.out (bl1 W _) (Nat.le_refl _)).grown HG9.out (Nat.le_trans HBa.out.size (by show W.heap.size ≤ (W.alloc _).heap.size; simp)) (fun k e => (HRW.out.lt k e).1)⟩, by simp [intOf]; omega⟩
      rw [Hst.out, List.length_append, List.flatMap_append]
      simpa using HO9.out
    · have HB := Lib.hid (below_then HB2.out hB (Nat.le_refl _))
      have HR := Lib.hid hrow
      clear hB hrow
      go_wp2_with fail
      go_ret
      have hr := HR.out
      rw [List.take_of_length_le (by rw [HN.out]; omega)] at hr
      refine ⟨_, rfl, ?_, HB.out⟩
      unfold holdersR
      rw [if_pos Hc.out]
      exact ownsRow_mono hr HB2.out.size
end Go.Proofs.YtehedodogkhmgaaGreat
