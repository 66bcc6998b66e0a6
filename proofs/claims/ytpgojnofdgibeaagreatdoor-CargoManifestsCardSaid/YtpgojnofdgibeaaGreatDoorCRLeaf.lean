/- The walk of the reference's Leaves. -/
import Derived.Test.YtpgojnofdgibeaaGreatDoorCROf
import Derived.Test.YtpgojnofdgibeaaGreatDoorCPathP
set_option linter.unusedSimpArgs false
set_option linter.unusedVariables false
namespace Go.Proofs.YtpgojnofdgibeaaGreatDoor
open Go.RowKit Go.Shelf

def leafR (ps ts : List Pa) (x : Pa) : Bool := (((insideI ps x.pack).length : Int) == 0) && ((ofV (ofI ts x.pack)).count == 0)
theorem leafR_is (ps ts : List Pa) (x : Pa) : leafB ps ts x = leafR ps ts x := by
  unfold leafB leafR
  congr 1
  · cases insideI ps x.pack with
    | nil => rfl
    | cons y r => simp; omega
  · cases ofI ts x.pack with
    | none => rfl
    | some t => by_cases h : t.count = 0 <;> simp [ofV, h]
def LeavesRPost (w : World) (L : List Int) (e : Ending) (w' : World) : Prop :=
  ∃ v, e = .returned v ∧ w'.ownsRow w.heap.size 3 1 v L.length (L.flatMap ints) ∧ Below w.heap.size w w'
set_option maxRecDepth 100000 in
set_option maxHeartbeats 8000000 in
theorem leaves_r (a : Option Addr) (n cap : Nat) (xs : List Pa) (hs : ∀ x ∈ xs, x.Short) (known loss : Int) (w : World) (h : Rd Pa.vals 14 w a n xs) (hcap : n ≤ cap) (hn : n ≤ 100000) :
    Calls Tryz.prog 34 #[.slice a n cap, .int .i64 known, .int .i64 loss] w (LeavesRPost w (leavesA (papersO xs known loss) (totalsO xs known loss) (papersO xs known loss))) := by
  obtain ⟨j0, hj0, hy0, hy1, hy2⟩ := info_parts info_int
  have CO := Lib.hid (of_r a n cap xs hs known loss w h hcap hn)
  clear h
  obtain ⟨PS, hPS⟩ : ∃ P, papersO xs known loss = P := ⟨_, rfl⟩
  obtain ⟨TS, hTS⟩ : ∃ P, totalsO xs known loss = P := ⟨_, rfl⟩
  rw [hPS] at CO ⊢
  rw [hTS] at CO ⊢
  clear hPS hTS
  go_enter Tryz.func34, Tryz.ntmps34
  go_upto_region 2 with (go_at_call 71; refine CO.out.mono ?_; rintro e w3 ⟨pa, pn, pc, ta, tn, tc, rfl, hpn, htn, hrp, hrt, hB4⟩)
  have hM := ManR.box pc tc hrp hrt 90
  have hBm := al' (Below.refl w3.heap.size w3) (.cells #[.slice pa pn pc, .slice ta tn tc] 90)
  have HBw := Lib.hid (hB4.trans (hBm.mono hB4.size))
  have HM := Lib.hid hM
  have Hl := Lib.hid hrp.len
  clear hrp hrt hB4 hBm hM CO
  generalize w3.alloc (.cells #[.slice pa pn pc, .slice ta tn tc] 90) = w4 at *
  obtain ⟨M, hM⟩ : ∃ M, w3.heap.size = M := ⟨_, rfl⟩
  rw [hM] at HM ⊢
  clear hM
  go_wp2_with fail
  go_loopw [8, 9] (fun v i wr => ∃ k : Nat, k ≤ pn ∧ i = .int .i64 k ∧ wr.ownsRow w4.heap.size 3 1 v (leavesA PS TS (PS.take k)).length ((leavesA PS TS (PS.take k)).flatMap ints) ∧ Below w4.heap.size w4 wr) (fun _ i _ => pn - (intOf i).toNat)
  case atStart => exact ⟨0, Nat.zero_le _, rfl, World.ownsRow_nil _ _ _ _, Below.refl _ _⟩
  case round =>
    obtain ⟨k, hk, rfl, hrow, hB⟩ := hrel
    have HMr := Lib.hid (HM.out.below' hB)
    have HB := Lib.hid hB
    have HRow := Lib.hid hrow
    have m0 := HMr.out.c0
    have m1 := HMr.out.c1
    clear hB hrow
    by_cases hlt : k < pn
    · have hlt' : (k : Int) < (pn : Int) := by omega
      obtain ⟨b, off, x, hpa, hb, hx, c0, c1, c2, c3, c4, c5, c6, c7, c8, c9, c10, c11, c12, c13⟩ := HMr.out.rp.pa hlt
      have Hx := Lib.hid hx
      clear hx c0 c1 c2 c3 c5 c6 c7 c8 c9 c10 c11 c12 c13
      have CF := Lib.hid (find_r ta tn tc TS x.pack wr HMr.out.rt)
      unfold FindPost at CF
      subst hpa
      go_upto_region 8 with (go_at_call 82; refine CF.out.mono ?_; rintro e w5 ⟨hS0, q, hq, rfl⟩)
      have hBq := al' (Below.refl w5.heap.size w5) (.cells #[.int .i64 q.id, .int .i64 q.known, .int .u8 q.kind, .int .i64 q.loss, .int .i64 q.pack, .int .i64 q.inn, .string ⟨q.mark.toArray⟩, .string ⟨q.goods.toArray⟩, .int .i64 q.low, .int .i64 q.high, .int .i64 q.pieces, .int .i64 q.owner, .int .i64 q.count, .int .i64 q.of] 28)
      have hS := hS0.trans (hBq.mono hS0.size)
      have hbx := (BoxG.made w5 q.vals 28)
      simp only [Pa.vals] at hbx
      have HB6 := Lib.hid (HB.out.trans (hS.mono HB.out.size))
      have HRow6 := Lib.hid (own_later' HRow.out hS)
      have HM6 := Lib.hid (HMr.out.below' hS)
      clear hBq hS hS0 m0 m1 c4 CF HRow HMr HB
      generalize w5.alloc (.cells #[.int .i64 q.id, .int .i64 q.known, .int .u8 q.kind, .int .i64 q.loss, .int .i64 q.pack, .int .i64 q.inn, .string ⟨q.mark.toArray⟩, .string ⟨q.goods.toArray⟩, .int .i64 q.low, .int .i64 q.high, .int .i64 q.pieces, .int .i64 q.owner, .int .i64 q.count, .int .i64 q.of] 28) = w6 at *
      obtain ⟨Q, hQe⟩ : ∃ Q, w5.heap.size = Q := ⟨_, rfl⟩
      rw [hQe] at hbx ⊢
      clear hQe
      have Hbq := Lib.hid hbx
      have Hq := Lib.hid hq
      clear hbx hq
      have m0 := HM6.out.c0
      have m1 := HM6.out.c1
      have CI := Lib.hid (inside_r (some ⟨b, off, none⟩) pn pc ta tn tc PS TS x.pack w6 HM6.out.rp HM6.out.rt (by omega))
      unfold InsPost at CI
      obtain ⟨IS, hIS⟩ : ∃ P, insideI PS x.pack = P := ⟨_, rfl⟩
      rw [hIS] at CI
      obtain ⟨L, hL⟩ : ∃ P, IS.length = P := ⟨_, rfl⟩
      have HLb := Lib.hid (show leafB PS TS x = (((L : Int) == 0) && (q.count == 0)) from by rw [leafR_is]; unfold leafR; rw [hIS, hL, Hq.out])
      rw [hL] at CI
      clear hIS hL
      have hlk : (leavesA PS TS (PS.take k)).length ≤ 1000 := Nat.le_trans (leavesA_len _ _ _) (by rw [List.length_take]; omega)
      obtain ⟨l0, hl0⟩ : ∃ b, ((L : Int) == 0) = b := ⟨_, rfl⟩
      obtain ⟨n0, hn0⟩ : ∃ b, (q.count == 0) = b := ⟨_, rfl⟩
      rw [hl0, hn0] at HLb
      go_wp2_with fail
      refine CI.out.mono ?_
      rintro e w7 ⟨ia, ic, rfl, _, hB7⟩
      have HB7 := Lib.hid hB7
      obtain ⟨_, _, _, _, _, _, _, _, _, _, _, _, q12, _⟩ := BoxG.pa (x := q) (Hbq.out.below' hB7)
      have ql := (Hbq.out.below' hB7).1
      have HRow7 := Lib.hid (own_later' HRow6.out hB7)
      clear hB7 CI m0 m1
      cases l0 with
      | false =>
        have HS := Lib.hid (leavesA_no Hx.out (show leafB PS TS x = false from by rw [HLb.out]; rfl))
        clear HLb
        go_wp2_with fail
        exact ⟨⟨k + 1, by omega, by go_num, by rw [HS.out]; exact HRow7.out, HB6.out.trans (HB7.out.mono HB6.out.size)⟩, by simp [intOf]; omega⟩
      | true =>
        cases n0 with
        | false =>
          have HS := Lib.hid (leavesA_no Hx.out (show leafB PS TS x = false from by rw [HLb.out]; rfl))
          clear HLb
          go_wp2_with fail
          exact ⟨⟨k + 1, by omega, by go_num, by rw [HS.out]; exact HRow7.out, HB6.out.trans (HB7.out.mono HB6.out.size)⟩, by simp [intOf]; omega⟩
        | true =>
          have HS := Lib.hid (leavesA_yes Hx.out (show leafB PS TS x = true from by rw [HLb.out]; rfl))
          obtain ⟨NS, hNS⟩ : ∃ N, leavesA PS TS (PS.take k) = N := ⟨_, rfl⟩
          rw [hNS] at HRow7 HS hlk
          clear HLb hNS
          go_wp2_with (at_builtin; go_loud (refine wpList_append_own _ rfl _ _ 45 rfl w4.heap.size 3 j0 _ 1 8 Tryz.underlying45 hj0 hy0 hy1 hy2 rfl (by decide) _ _ _ rfl (HRow7.out.alloc _) ⟨w7.heap.size, 0, none⟩ 1 1 (ints x.pack) rfl rfl (cell_one_new _ _ _) (by simp [ints, Value.oneCell']) (by unfold maxLen; omega) (by omega) (Nat.le_trans HB6.out.size (Nat.le_trans HB7.out.size (by simp))) ?_; intro v9 w9 hown9 hgrow9 _))
          have HB67 : Below w4.heap.size w4 w7 := HB6.out.trans (HB7.out.mono HB6.out.size)
          have HB9 := Lib.hid ((HB67.alloc HB67.size (.cells #[.int .i64 x.pack] 3)).grown hgrow9 (Nat.le_trans HB67.size (by simp)) (fun j e => (HRow7.out.lt j e).1))
          have HO9 := Lib.hid (own_int_next hown9)
          clear hown9 hgrow9
          go_wp2_with fail
          exact ⟨⟨k + 1, by omega, by go_num, by rw [HS.out]; exact HO9.out, HB9.out⟩, by simp [intOf]; omega⟩
    · have hltg : ¬ (k : Int) < (pn : Int) := by omega
      have HW := Lib.hid (show PS.take k = PS from List.take_of_length_le (by rw [Hl.out]; omega))
      rw [HW.out] at HRow
      clear hlt
      go_wp2_with fail
      refine bodyPost_ret (results_tmp rfl _ _ _) rfl ⟨_, rfl, ?_, HBw.out.trans (HB.out.mono HBw.out.size)⟩
      exact ownsRow_mono HRow.out HBw.out.size
end Go.Proofs.YtpgojnofdgibeaaGreatDoor
