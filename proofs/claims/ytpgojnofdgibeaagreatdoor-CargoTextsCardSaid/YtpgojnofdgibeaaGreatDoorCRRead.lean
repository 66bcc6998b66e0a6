/- The walk of the reference's Read. -/
import Derived.Test.YtpgojnofdgibeaaGreatDoorCRWrite
import Derived.Deep.Cut
set_option linter.unusedSimpArgs false
set_option linter.unusedVariables false
namespace Go.Proofs.YtpgojnofdgibeaaGreatDoor
open Go.RowKit Go.Shelf

structure RS (w0 w : World) (B0 B5 : Nat) (a : Option Addr) (n : Nat) (ws : List (List UInt8)) (x : Pa) : Prop where
  x5 : BoxG w B5 x.vals
  x0 : BoxG w B0 pa0.vals
  rd : Rd strs 1 w a n ws
  hb : Below w0.heap.size w0 w
  l5 : w0.heap.size ≤ B5
  l0 : w0.heap.size ≤ B0
  ne : B0 < B5
  la : ∀ q, a = some q → q.block < B5
theorem RS.set {w0 w : World} {B0 B5 : Nat} {a : Option Addr} {n : Nat} {ws : List (List UInt8)} {x : Pa} (h : RS w0 w B0 B5 a n ws x) (i : Nat) (v : Value) (y : Pa) (hv : x.vals.set i v = y.vals) (hi : i < 14) : RS w0 (w.setCell ⟨B5, i, none⟩ v) B0 B5 a n ws y :=
  ⟨by rw [← hv]; exact h.x5.set i v (by rw [Pa.vals_length]; exact hi), h.x0.aside (Nat.ne_of_lt h.ne) i v, h.rd.aside h.la, h.hb.setCell (p := ⟨B5, i, none⟩) h.l5 v, h.l5, h.l0, h.ne, h.la⟩
theorem RS.drew {w0 w : World} {B0 B5 : Nat} {a : Option Addr} {n : Nat} {ws : List (List UInt8)} {x : Pa} (h : RS w0 w B0 B5 a n ws x) : RS w0 w.drew B0 B5 a n ws x :=
  have hd : Below w.heap.size w w.drew := dr' (Below.refl _ _)
  ⟨h.x5.below' hd, h.x0.below' hd, h.rd.below' hd, dr' h.hb, h.l5, h.l0, h.ne, h.la⟩
theorem RS.made {w0 w : World} {B0 : Nat} {a : Option Addr} {n : Nat} {ws : List (List UInt8)} (h0 : BoxG w B0 pa0.vals) (hr : Rd strs 1 w a n ws) (hB : Below w0.heap.size w0 w) (hl : w0.heap.size ≤ B0) (la : ∀ q, a = some q → q.block < w.heap.size) (x : Pa) (T : TypeId) :
    RS w0 (w.alloc (.cells x.vals.toArray T)) B0 w.heap.size a n ws x :=
  have hd := al' (Below.refl w.heap.size w) (.cells x.vals.toArray T)
  ⟨BoxG.made w x.vals T, h0.below' hd, hr.below' hd, hB.alloc hB.size _, hB.size, hl, h0.1, la⟩
theorem aside2 {w : World} {B5 wb i j o : Nat} {u v x : Value} (h : wb < B5) (hx : w.cell? ⟨wb, o, none⟩ = some x) : ((w.setCell ⟨B5, i, none⟩ u).setCell ⟨B5, j, none⟩ v).drew.cell? ⟨wb, o, none⟩ = some x := by
  show ((w.setCell ⟨B5, i, none⟩ u).setCell ⟨B5, j, none⟩ v).cell? ⟨wb, o, none⟩ = some x
  rw [World.cell?_setCell_other _ _ _ _ (fun e => Nat.ne_of_lt h (congrArg Addr.block e).symm), World.cell?_setCell_other _ _ _ _ (fun e => Nat.ne_of_lt h (congrArg Addr.block e).symm)]
  exact hx
theorem paR_none {ws : List (List UInt8)} (h : ¬ (ws.length = 4 ∨ ws.length = 8 ∨ ws.length = 12)) : paR ws = none := by
  unfold paR
  split
  · simp at h
  · simp at h
  · simp at h
  · rfl
theorem list4 {α : Type} {ws : List α} (h : ws.length = 4) : ∃ a0 a1 a2 a3, ws = [a0, a1, a2, a3] := by
  match ws, h with
  | [a0, a1, a2, a3], _ => exact ⟨_, _, _, _, rfl⟩
theorem list8 {α : Type} {ws : List α} (h : ws.length = 8) : ∃ a0 a1 a2 a3 a4 a5 a6 a7, ws = [a0, a1, a2, a3, a4, a5, a6, a7] := by
  match ws, h with
  | [a0, a1, a2, a3, a4, a5, a6, a7], _ => exact ⟨_, _, _, _, _, _, _, _, rfl⟩
theorem list12 {α : Type} {ws : List α} (h : ws.length = 12) : ∃ a0 a1 a2 a3 a4 a5 a6 a7 a8 a9 a10 a11, ws = [a0, a1, a2, a3, a4, a5, a6, a7, a8, a9, a10, a11] := by
  match ws, h with
  | [a0, a1, a2, a3, a4, a5, a6, a7, a8, a9, a10, a11], _ => exact ⟨_, _, _, _, _, _, _, _, _, _, _, _, rfl⟩
theorem readV_none {l : List UInt8} (h : paR (spl l) = none) : readV l = none := by rw [← readR_eq]; unfold readR; rw [h]; rfl
theorem readV_some {l : List UInt8} {x : Pa} (h : paR (spl l) = some x) : readV l = if formedP x ∧ writeP x = l then some x else none := by rw [← readR_eq]; unfold readR; rw [h]; rfl

set_option maxRecDepth 100000 in
set_option maxHeartbeats 16000000 in
theorem rread_4 (l : List UInt8) (hl : l.length ≤ 1000) (w : World) (hlen : (spl l).length = 4) :
    Calls Tryz.prog 17 #[.string ⟨l.toArray⟩] w (ReadPost w l) := by
  have Hn := Lib.hid hlen
  clear hlen
  have hB0 := al' (Below.refl w.heap.size w) (.cells #[.int .i64 0, .int .i64 0, .int .u8 0, .int .i64 0, .int .i64 0, .int .i64 0, .string ⟨#[]⟩, .string ⟨#[]⟩, .int .i64 0, .int .i64 0, .int .i64 0, .int .i64 0, .int .i64 0, .int .i64 0] 28)
  have hb := BoxG.made w pa0.vals 28
  simp only [Pa.vals, pa0] at hb
  have HB0 := Lib.hid hB0
  have Hb := Lib.hid hb
  clear hB0 hb
  go_enter Tryz.func17, Tryz.ntmps17
  go_upto_region 1 with (fail)
  generalize w.alloc (.cells #[.int .i64 0, .int .i64 0, .int .u8 0, .int .i64 0, .int .i64 0, .int .i64 0, .string ⟨#[]⟩, .string ⟨#[]⟩, .int .i64 0, .int .i64 0, .int .i64 0, .int .i64 0, .int .i64 0, .int .i64 0] 28) = w1 at *
  obtain ⟨B, hBe⟩ : ∃ B, w.heap.size = B := ⟨_, rfl⟩
  have HBe := Lib.hid hBe
  rw [hBe] at Hb ⊢
  clear hBe
  go_upto_region 2 with (go_at_call 62; refine (words_r l hl _).mono ?_; rintro e w2 ⟨a, c, rfl, hrd, hB2⟩)
  have Hrd := Lib.hid hrd
  have Hb2 := Lib.hid (show BoxG w2 B pa0.vals from Hb.out.below' hB2)
  have HB2 := Lib.hid (below_on HB0.out hB2 (Nat.le_refl _))
  clear hrd hB2 Hb HB0
  have hlen := Hn.out
  rw [hlen] at Hrd ⊢
  clear hlen
  obtain ⟨a0, a1, a2, a3, hws⟩ := list4 Hn.out
  have hml := spl_mem_len l
  rw [hws] at Hrd hml
  have hl0 : a0.length ≤ 1000 := Nat.le_trans (hml a0 (by simp)) hl
  have hl1 : a1.length ≤ 1000 := Nat.le_trans (hml a1 (by simp)) hl
  have hl2 : a2.length ≤ 1000 := Nat.le_trans (hml a2 (by simp)) hl
  have hl3 : a3.length ≤ 1000 := Nat.le_trans (hml a3 (by simp)) hl
  have HWS := Lib.hid hws
  clear hws hml Hn
  have N0 := Lib.hid (fun W => number_r a0 (by omega) W)
  have N1 := Lib.hid (fun W => number_r a1 (by omega) W)
  have N2 := Lib.hid (fun W => number_r a2 (by omega) W)
  have N3 := Lib.hid (fun W => number_r a3 (by omega) W)
  obtain ⟨v0, hv0⟩ : ∃ v, numR a0 = v := ⟨_, rfl⟩
  rw [hv0] at N0
  obtain ⟨v1, hv1⟩ : ∃ v, numR a1 = v := ⟨_, rfl⟩
  rw [hv1] at N1
  obtain ⟨v2, hv2⟩ : ∃ v, numR a2 = v := ⟨_, rfl⟩
  rw [hv2] at N2
  obtain ⟨v3, hv3⟩ : ∃ v, numR a3 = v := ⟨_, rfl⟩
  rw [hv3] at N3
  have HVS := Lib.hid (And.intro hv0 (And.intro hv1 (And.intro hv2 hv3)))
  clear hv0 hv1 hv2 hv3
  go_upto_region 4 with (fail)
  obtain ⟨wb, off, hpa⟩ : ∃ b o, a = some ⟨b, o, none⟩ := by obtain ⟨b, o, _, e, _⟩ := Hrd.out.str (show 0 < 4 by omega); exact ⟨b, o, e⟩
  subst hpa
  obtain ⟨b0, o0, y0, e0, _, hy0, x0⟩ := Hrd.out.str (show 0 < 4 by omega)
  obtain rfl : a0 = y0 := Option.some.inj hy0
  obtain ⟨rfl, rfl⟩ : wb = b0 ∧ off = o0 := by injection e0 with e; injection e with e1 e2; exact ⟨e1, e2⟩
  clear hy0 e0
  obtain ⟨b1, o1, y1, e1, _, hy1, x1⟩ := Hrd.out.str (show 1 < 4 by omega)
  obtain rfl : a1 = y1 := Option.some.inj hy1
  obtain ⟨rfl, rfl⟩ : wb = b1 ∧ off = o1 := by injection e1 with e; injection e with e1 e2; exact ⟨e1, e2⟩
  clear hy1 e1
  rw [Nat.add_zero] at x0
  have HLa := Lib.hid (World.block_lt_of_cell? _ _ x0)
  go_cut [5] from 24 (fun s5 wx => ∃ B5, s5 = .pointer (some ⟨B5, 0, none⟩) ∧ RS w wx B B5 (some ⟨wb, off, none⟩) 4 [a0, a1, a2, a3] { pa0 with id := v0, known := v1 })
  case first =>
    go_region_held3 (fun w' => w'.cell? ⟨wb, off, none⟩ = some (.string ⟨a0.toArray⟩) ∧ w'.cell? ⟨wb, off + 1, none⟩ = some (.string ⟨a1.toArray⟩)) (go_keep)
      (first | (go_at_call 63; with_reducible refine (N0.out _).mono ?_; rintro e w' ⟨rfl, rfl⟩) | (go_at_call 63; with_reducible refine (N1.out _).mono ?_; rintro e w' ⟨rfl, rfl⟩))
    all_goals
      go_wp2_with fail
      go_meet
      case rel => exact ⟨_, rfl, by first | exact RS.made (Hb2.out.below' (dr' (Below.refl _ _))) (Hrd.out.below' (dr' (Below.refl _ _))) (dr' HB2.out) (Nat.le_of_eq HBe.out) (fun q e => by injection e with e; subst e; exact HLa.out) { pa0 with id := v0, known := v1 } _ | exact (RS.made Hb2.out Hrd.out HB2.out (Nat.le_of_eq HBe.out) (fun q e => by injection e with e; subst e; exact HLa.out) { pa0 with id := v0, known := v1 } _).drew⟩
  case rest =>
  obtain ⟨B5, rfl, hS⟩ := hcut
  rename World => w5
  have HS := Lib.hid hS
  have hwb : wb < B5 := hS.la _ rfl
  clear hS x0 x1 Hrd Hb2 HB2 HLa N0 N1
  go_upto_region 16 with (fail)
  obtain ⟨d0, d1, d2, d3, d4, d5, d6, d7, d8, d9, d10, d11, d12, d13⟩ := BoxG.pa HS.out.x5
  dsimp only [pa0] at d2
  clear d0 d1 d3 d4 d5 d6 d7 d8 d9 d10 d11 d12 d13
  have f2 := HS.out.x5.2.1 2
  have bl := HS.out.x5.1
  go_upto_region 17 with (fail)
  have hS := HS.out.set 2 (.int .u8 3) { pa0 with id := v0, known := v1, kind := 3 } rfl (by decide)
  clear HS d2 f2 bl
  generalize w5.setCell ⟨B5, 2, none⟩ (.int .u8 3) = wn at *
  rename World => w5
  have HS := Lib.hid hS
  clear hS
  obtain ⟨bb, oo, yy, ee, _, hy, x3⟩ := HS.out.rd.str (show 3 < 4 by omega)
  obtain rfl : a3 = yy := Option.some.inj hy
  obtain ⟨rfl, rfl⟩ : wb = bb ∧ off = oo := by injection ee with e; injection e with e1 e2; exact ⟨e1, e2⟩
  clear hy ee
  obtain ⟨d0, d1, d2, d3, d4, d5, d6, d7, d8, d9, d10, d11, d12, d13⟩ := BoxG.pa HS.out.x5
  dsimp only [pa0] at d13
  clear d0 d1 d2 d3 d4 d5 d6 d7 d8 d9 d10 d11 d12
  have f13 := HS.out.x5.2.1 13
  have bl := HS.out.x5.1
  go_upto_region 24 with ((go_at_call 63; with_reducible refine (N3.out _).mono ?_; rintro e w' ⟨rfl, rfl⟩))
  rename World => w5
  have hS := HS.out.set 13 (.int .i64 v3) { pa0 with id := v0, known := v1, kind := 3, of := v3 } rfl (by decide)
  clear HS x3 d13 f13 bl
  generalize w5.setCell ⟨B5, 13, none⟩ (.int .i64 v3) = wn at *
  rename World => w5
  have HS := Lib.hid hS
  clear hS
  have HP := Lib.hid (show paR (spl l) = some { pa0 with id := v0, known := v1, kind := 3, of := v3 } from by rw [HWS.out]; obtain ⟨h0, h1, h2, h3⟩ := HVS.out; subst h0 h1 h2 h3; rfl)
  have HSh := Lib.hid (show ({ pa0 with id := v0, known := v1, kind := 3, of := v3 } : Pa).Short from ⟨Nat.zero_le _, Nat.zero_le _⟩)
  obtain ⟨x, hxe⟩ : ∃ x : Pa, { pa0 with id := v0, known := v1, kind := 3, of := v3 } = x := ⟨_, rfl⟩
  rw [hxe] at HS HP HSh
  clear hxe HWS HVS N2 N3
  have CW := Lib.hid (fun W => rwrite_any x HSh.out W)
  obtain ⟨c0, c1, c2, c3, c4, c5, c6, c7, c8, c9, c10, c11, c12, c13⟩ := BoxG.pa (x := x) HS.out.x5
  have bl := HS.out.x5.1
  go_wp2_with fail
  refine (CW.out _).mono ?_
  rintro e w6 ⟨hB6, ⟨hf, rfl⟩ | ⟨hf, rfl⟩⟩
  case inr =>
    have HX0 := Lib.hid (HS.out.x0.below' hB6)
    have HX5 := Lib.hid (HS.out.x5.below' hB6)
    have HBw := Lib.hid (HS.out.hb.trans (hB6.mono HS.out.hb.size))
    clear c0 c1 c2 c3 c4 c5 c6 c7 c8 c9 c10 c11 c12 c13 bl CW HS hB6
    have HV := Lib.hid (show readV l = none from by rw [readV_some HP.out]; exact if_neg (fun h => hf h.1))
    clear hf
    obtain ⟨c0, c1, c2, c3, c4, c5, c6, c7, c8, c9, c10, c11, c12, c13⟩ := BoxG.pa (x := pa0) HX0.out
    dsimp only [pa0] at c0 c1 c2 c3 c4 c5 c6 c7 c8 c9 c10 c11 c12 c13
    have bf := HX0.out.2.1
    have bl := HX0.out.1
    go_wp2_with fail
    have hb2' : BoxG w6 B [.int .i64 0, .int .i64 0, .int .u8 0, .int .i64 0, .int .i64 0, .int .i64 0, .string ⟨#[]⟩, .string ⟨#[]⟩, .int .i64 0, .int .i64 0, .int .i64 0, .int .i64 0, .int .i64 0, .int .i64 0] := HX0.out
    obtain ⟨g1, k1⟩ := hb2'.all14 (.int .i64 0) (.int .i64 0) (.int .u8 0) (.int .i64 0) (.int .i64 0) (.int .i64 0) (.string ⟨#[]⟩) (.string ⟨#[]⟩) (.int .i64 0) (.int .i64 0) (.int .i64 0) (.int .i64 0) (.int .i64 0) (.int .i64 0)
    have HBf := Lib.hid (k1.below_then HBw.out (fun y hy => by have := HBe.out; have := List.mem_singleton.1 hy; omega) (Nat.le_refl _))
    clear c0 c1 c2 c3 c4 c5 c6 c7 c8 c9 c10 c11 c12 c13 bf bl hb2' k1
    generalize ((((((((((((((w6.setCell ⟨B, 0, none⟩ (.int .i64 0)).setCell ⟨B, 1, none⟩ (.int .i64 0)).setCell ⟨B, 2, none⟩ (.int .u8 0)).setCell ⟨B, 3, none⟩ (.int .i64 0)).setCell ⟨B, 4, none⟩ (.int .i64 0)).setCell ⟨B, 5, none⟩ (.int .i64 0)).setCell ⟨B, 6, none⟩ (.string ⟨#[]⟩)).setCell ⟨B, 7, none⟩ (.string ⟨#[]⟩)).setCell ⟨B, 8, none⟩ (.int .i64 0)).setCell ⟨B, 9, none⟩ (.int .i64 0)).setCell ⟨B, 10, none⟩ (.int .i64 0)).setCell ⟨B, 11, none⟩ (.int .i64 0)).setCell ⟨B, 12, none⟩ (.int .i64 0)).setCell ⟨B, 13, none⟩ (.int .i64 0)) = wf at *
    have gb' : BoxG wf B (Pa.vals pa0) := g1
    obtain ⟨c0, c1, c2, c3, c4, c5, c6, c7, c8, c9, c10, c11, c12, c13⟩ := BoxG.pa gb'
    have rl := gb'.1
    clear g1 gb'
    exact bodyPost_ret (by simp [results, Tryz.results17, go_sem, c0, c1, c2, c3, c4, c5, c6, c7, c8, c9, c10, c11, c12, c13, rl]) rfl (show ReadPost w l (.returned (.tuple #[.agg #[.int .i64 pa0.id, .int .i64 pa0.known, .int .u8 pa0.kind, .int .i64 pa0.loss, .int .i64 pa0.pack, .int .i64 pa0.inn, .string ⟨pa0.mark.toArray⟩, .string ⟨pa0.goods.toArray⟩, .int .i64 pa0.low, .int .i64 pa0.high, .int .i64 pa0.pieces, .int .i64 pa0.owner, .int .i64 pa0.count, .int .i64 pa0.of], .int .i64 4])) wf from ⟨HBf.out, _, rfl, by rw [HV.out]; rfl⟩)
  case inl =>
    have HX0 := Lib.hid (HS.out.x0.below' hB6)
    have HX5 := Lib.hid (HS.out.x5.below' hB6)
    have HBw := Lib.hid (HS.out.hb.trans (hB6.mono HS.out.hb.size))
    clear c0 c1 c2 c3 c4 c5 c6 c7 c8 c9 c10 c11 c12 c13 bl CW HS hB6
    by_cases hl2 : writeP x = l
    case neg =>
      have HV := Lib.hid (show readV l = none from by rw [readV_some HP.out]; exact if_neg (fun h => hl2 h.2))
      have hne : (writeP x == l) = false := by simp [hl2]
      clear hl2 hf
      obtain ⟨c0, c1, c2, c3, c4, c5, c6, c7, c8, c9, c10, c11, c12, c13⟩ := BoxG.pa (x := pa0) HX0.out
      dsimp only [pa0] at c0 c1 c2 c3 c4 c5 c6 c7 c8 c9 c10 c11 c12 c13
      have bf := HX0.out.2.1
      have bl := HX0.out.1
      go_wp2_with fail
      have hb2' : BoxG w6 B [.int .i64 0, .int .i64 0, .int .u8 0, .int .i64 0, .int .i64 0, .int .i64 0, .string ⟨#[]⟩, .string ⟨#[]⟩, .int .i64 0, .int .i64 0, .int .i64 0, .int .i64 0, .int .i64 0, .int .i64 0] := HX0.out
      obtain ⟨g1, k1⟩ := hb2'.all14 (.int .i64 0) (.int .i64 0) (.int .u8 0) (.int .i64 0) (.int .i64 0) (.int .i64 0) (.string ⟨#[]⟩) (.string ⟨#[]⟩) (.int .i64 0) (.int .i64 0) (.int .i64 0) (.int .i64 0) (.int .i64 0) (.int .i64 0)
      have HBf := Lib.hid (k1.below_then HBw.out (fun y hy => by have := HBe.out; have := List.mem_singleton.1 hy; omega) (Nat.le_refl _))
      clear c0 c1 c2 c3 c4 c5 c6 c7 c8 c9 c10 c11 c12 c13 bf bl hb2' k1
      generalize ((((((((((((((w6.setCell ⟨B, 0, none⟩ (.int .i64 0)).setCell ⟨B, 1, none⟩ (.int .i64 0)).setCell ⟨B, 2, none⟩ (.int .u8 0)).setCell ⟨B, 3, none⟩ (.int .i64 0)).setCell ⟨B, 4, none⟩ (.int .i64 0)).setCell ⟨B, 5, none⟩ (.int .i64 0)).setCell ⟨B, 6, none⟩ (.string ⟨#[]⟩)).setCell ⟨B, 7, none⟩ (.string ⟨#[]⟩)).setCell ⟨B, 8, none⟩ (.int .i64 0)).setCell ⟨B, 9, none⟩ (.int .i64 0)).setCell ⟨B, 10, none⟩ (.int .i64 0)).setCell ⟨B, 11, none⟩ (.int .i64 0)).setCell ⟨B, 12, none⟩ (.int .i64 0)).setCell ⟨B, 13, none⟩ (.int .i64 0)) = wf at *
      have gb' : BoxG wf B (Pa.vals pa0) := g1
      obtain ⟨c0, c1, c2, c3, c4, c5, c6, c7, c8, c9, c10, c11, c12, c13⟩ := BoxG.pa gb'
      have rl := gb'.1
      clear g1 gb'
      exact bodyPost_ret (by simp [results, Tryz.results17, go_sem, c0, c1, c2, c3, c4, c5, c6, c7, c8, c9, c10, c11, c12, c13, rl]) rfl (show ReadPost w l (.returned (.tuple #[.agg #[.int .i64 pa0.id, .int .i64 pa0.known, .int .u8 pa0.kind, .int .i64 pa0.loss, .int .i64 pa0.pack, .int .i64 pa0.inn, .string ⟨pa0.mark.toArray⟩, .string ⟨pa0.goods.toArray⟩, .int .i64 pa0.low, .int .i64 pa0.high, .int .i64 pa0.pieces, .int .i64 pa0.owner, .int .i64 pa0.count, .int .i64 pa0.of], .int .i64 4])) wf from ⟨HBf.out, _, rfl, by rw [HV.out]; rfl⟩)
    case pos =>
      have HV := Lib.hid (show readV l = some x from by rw [readV_some HP.out]; exact if_pos ⟨hf, hl2⟩)
      have hne : (writeP x == l) = true := by simp [hl2]
      clear hl2 hf
      obtain ⟨c0, c1, c2, c3, c4, c5, c6, c7, c8, c9, c10, c11, c12, c13⟩ := BoxG.pa (x := pa0) HX0.out
      dsimp only [pa0] at c0 c1 c2 c3 c4 c5 c6 c7 c8 c9 c10 c11 c12 c13
      have bf := HX0.out.2.1
      have bl := HX0.out.1
      obtain ⟨d0, d1, d2, d3, d4, d5, d6, d7, d8, d9, d10, d11, d12, d13⟩ := BoxG.pa (x := x) HX5.out
      have dl := HX5.out.1
      go_wp2_with fail
      have hb2' : BoxG w6 B [.int .i64 0, .int .i64 0, .int .u8 0, .int .i64 0, .int .i64 0, .int .i64 0, .string ⟨#[]⟩, .string ⟨#[]⟩, .int .i64 0, .int .i64 0, .int .i64 0, .int .i64 0, .int .i64 0, .int .i64 0] := HX0.out
      obtain ⟨g1, k1⟩ := hb2'.all14 (.int .i64 x.id) (.int .i64 x.known) (.int .u8 x.kind) (.int .i64 x.loss) (.int .i64 x.pack) (.int .i64 x.inn) (.string ⟨x.mark.toArray⟩) (.string ⟨x.goods.toArray⟩) (.int .i64 x.low) (.int .i64 x.high) (.int .i64 x.pieces) (.int .i64 x.owner) (.int .i64 x.count) (.int .i64 x.of)
      have HBf := Lib.hid (k1.below_then HBw.out (fun y hy => by have := HBe.out; have := List.mem_singleton.1 hy; omega) (Nat.le_refl _))
      clear c0 c1 c2 c3 c4 c5 c6 c7 c8 c9 c10 c11 c12 c13 bf bl hb2' k1 d0 d1 d2 d3 d4 d5 d6 d7 d8 d9 d10 d11 d12 d13 dl
      generalize ((((((((((((((w6.setCell ⟨B, 0, none⟩ (.int .i64 x.id)).setCell ⟨B, 1, none⟩ (.int .i64 x.known)).setCell ⟨B, 2, none⟩ (.int .u8 x.kind)).setCell ⟨B, 3, none⟩ (.int .i64 x.loss)).setCell ⟨B, 4, none⟩ (.int .i64 x.pack)).setCell ⟨B, 5, none⟩ (.int .i64 x.inn)).setCell ⟨B, 6, none⟩ (.string ⟨x.mark.toArray⟩)).setCell ⟨B, 7, none⟩ (.string ⟨x.goods.toArray⟩)).setCell ⟨B, 8, none⟩ (.int .i64 x.low)).setCell ⟨B, 9, none⟩ (.int .i64 x.high)).setCell ⟨B, 10, none⟩ (.int .i64 x.pieces)).setCell ⟨B, 11, none⟩ (.int .i64 x.owner)).setCell ⟨B, 12, none⟩ (.int .i64 x.count)).setCell ⟨B, 13, none⟩ (.int .i64 x.of)) = wf at *
      have gb' : BoxG wf B (Pa.vals x) := g1
      obtain ⟨c0, c1, c2, c3, c4, c5, c6, c7, c8, c9, c10, c11, c12, c13⟩ := BoxG.pa gb'
      have rl := gb'.1
      clear g1 gb'
      exact bodyPost_ret (by simp [results, Tryz.results17, go_sem, c0, c1, c2, c3, c4, c5, c6, c7, c8, c9, c10, c11, c12, c13, rl]) rfl (show ReadPost w l (.returned (.tuple #[.agg #[.int .i64 x.id, .int .i64 x.known, .int .u8 x.kind, .int .i64 x.loss, .int .i64 x.pack, .int .i64 x.inn, .string ⟨x.mark.toArray⟩, .string ⟨x.goods.toArray⟩, .int .i64 x.low, .int .i64 x.high, .int .i64 x.pieces, .int .i64 x.owner, .int .i64 x.count, .int .i64 x.of], .int .i64 0])) wf from ⟨HBf.out, _, rfl, by rw [HV.out]; rfl⟩)
set_option maxRecDepth 100000 in
set_option maxHeartbeats 16000000 in
theorem rread_8 (l : List UInt8) (hl : l.length ≤ 1000) (w : World) (hlen : (spl l).length = 8) :
    Calls Tryz.prog 17 #[.string ⟨l.toArray⟩] w (ReadPost w l) := by
  have Hn := Lib.hid hlen
  clear hlen
  have hB0 := al' (Below.refl w.heap.size w) (.cells #[.int .i64 0, .int .i64 0, .int .u8 0, .int .i64 0, .int .i64 0, .int .i64 0, .string ⟨#[]⟩, .string ⟨#[]⟩, .int .i64 0, .int .i64 0, .int .i64 0, .int .i64 0, .int .i64 0, .int .i64 0] 28)
  have hb := BoxG.made w pa0.vals 28
  simp only [Pa.vals, pa0] at hb
  have HB0 := Lib.hid hB0
  have Hb := Lib.hid hb
  clear hB0 hb
  go_enter Tryz.func17, Tryz.ntmps17
  go_upto_region 1 with (fail)
  generalize w.alloc (.cells #[.int .i64 0, .int .i64 0, .int .u8 0, .int .i64 0, .int .i64 0, .int .i64 0, .string ⟨#[]⟩, .string ⟨#[]⟩, .int .i64 0, .int .i64 0, .int .i64 0, .int .i64 0, .int .i64 0, .int .i64 0] 28) = w1 at *
  obtain ⟨B, hBe⟩ : ∃ B, w.heap.size = B := ⟨_, rfl⟩
  have HBe := Lib.hid hBe
  rw [hBe] at Hb ⊢
  clear hBe
  go_upto_region 2 with (go_at_call 62; refine (words_r l hl _).mono ?_; rintro e w2 ⟨a, c, rfl, hrd, hB2⟩)
  have Hrd := Lib.hid hrd
  have Hb2 := Lib.hid (show BoxG w2 B pa0.vals from Hb.out.below' hB2)
  have HB2 := Lib.hid (below_on HB0.out hB2 (Nat.le_refl _))
  clear hrd hB2 Hb HB0
  have hlen := Hn.out
  rw [hlen] at Hrd ⊢
  clear hlen
  obtain ⟨a0, a1, a2, a3, a4, a5, a6, a7, hws⟩ := list8 Hn.out
  have hml := spl_mem_len l
  rw [hws] at Hrd hml
  have hl0 : a0.length ≤ 1000 := Nat.le_trans (hml a0 (by simp)) hl
  have hl1 : a1.length ≤ 1000 := Nat.le_trans (hml a1 (by simp)) hl
  have hl2 : a2.length ≤ 1000 := Nat.le_trans (hml a2 (by simp)) hl
  have hl3 : a3.length ≤ 1000 := Nat.le_trans (hml a3 (by simp)) hl
  have hl4 : a4.length ≤ 1000 := Nat.le_trans (hml a4 (by simp)) hl
  have hl5 : a5.length ≤ 1000 := Nat.le_trans (hml a5 (by simp)) hl
  have hl6 : a6.length ≤ 1000 := Nat.le_trans (hml a6 (by simp)) hl
  have hl7 : a7.length ≤ 1000 := Nat.le_trans (hml a7 (by simp)) hl
  have HWS := Lib.hid hws
  clear hws hml Hn
  have N0 := Lib.hid (fun W => number_r a0 (by omega) W)
  have N1 := Lib.hid (fun W => number_r a1 (by omega) W)
  have N2 := Lib.hid (fun W => number_r a2 (by omega) W)
  have N3 := Lib.hid (fun W => number_r a3 (by omega) W)
  have N4 := Lib.hid (fun W => number_r a4 (by omega) W)
  have N5 := Lib.hid (fun W => number_r a5 (by omega) W)
  have N6 := Lib.hid (fun W => number_r a6 (by omega) W)
  have N7 := Lib.hid (fun W => number_r a7 (by omega) W)
  obtain ⟨v0, hv0⟩ : ∃ v, numR a0 = v := ⟨_, rfl⟩
  rw [hv0] at N0
  obtain ⟨v1, hv1⟩ : ∃ v, numR a1 = v := ⟨_, rfl⟩
  rw [hv1] at N1
  obtain ⟨v2, hv2⟩ : ∃ v, numR a2 = v := ⟨_, rfl⟩
  rw [hv2] at N2
  obtain ⟨v3, hv3⟩ : ∃ v, numR a3 = v := ⟨_, rfl⟩
  rw [hv3] at N3
  obtain ⟨v4, hv4⟩ : ∃ v, numR a4 = v := ⟨_, rfl⟩
  rw [hv4] at N4
  obtain ⟨v5, hv5⟩ : ∃ v, numR a5 = v := ⟨_, rfl⟩
  rw [hv5] at N5
  obtain ⟨v6, hv6⟩ : ∃ v, numR a6 = v := ⟨_, rfl⟩
  rw [hv6] at N6
  obtain ⟨v7, hv7⟩ : ∃ v, numR a7 = v := ⟨_, rfl⟩
  rw [hv7] at N7
  have HVS := Lib.hid (And.intro hv0 (And.intro hv1 (And.intro hv2 (And.intro hv3 (And.intro hv4 (And.intro hv5 (And.intro hv6 hv7)))))))
  clear hv0 hv1 hv2 hv3 hv4 hv5 hv6 hv7
  go_upto_region 4 with (fail)
  obtain ⟨wb, off, hpa⟩ : ∃ b o, a = some ⟨b, o, none⟩ := by obtain ⟨b, o, _, e, _⟩ := Hrd.out.str (show 0 < 8 by omega); exact ⟨b, o, e⟩
  subst hpa
  obtain ⟨b0, o0, y0, e0, _, hy0, x0⟩ := Hrd.out.str (show 0 < 8 by omega)
  obtain rfl : a0 = y0 := Option.some.inj hy0
  obtain ⟨rfl, rfl⟩ : wb = b0 ∧ off = o0 := by injection e0 with e; injection e with e1 e2; exact ⟨e1, e2⟩
  clear hy0 e0
  obtain ⟨b1, o1, y1, e1, _, hy1, x1⟩ := Hrd.out.str (show 1 < 8 by omega)
  obtain rfl : a1 = y1 := Option.some.inj hy1
  obtain ⟨rfl, rfl⟩ : wb = b1 ∧ off = o1 := by injection e1 with e; injection e with e1 e2; exact ⟨e1, e2⟩
  clear hy1 e1
  rw [Nat.add_zero] at x0
  have HLa := Lib.hid (World.block_lt_of_cell? _ _ x0)
  go_cut [5] from 24 (fun s5 wx => ∃ B5, s5 = .pointer (some ⟨B5, 0, none⟩) ∧ RS w wx B B5 (some ⟨wb, off, none⟩) 8 [a0, a1, a2, a3, a4, a5, a6, a7] { pa0 with id := v0, known := v1 })
  case first =>
    go_region_held3 (fun w' => w'.cell? ⟨wb, off, none⟩ = some (.string ⟨a0.toArray⟩) ∧ w'.cell? ⟨wb, off + 1, none⟩ = some (.string ⟨a1.toArray⟩)) (go_keep)
      (first | (go_at_call 63; with_reducible refine (N0.out _).mono ?_; rintro e w' ⟨rfl, rfl⟩) | (go_at_call 63; with_reducible refine (N1.out _).mono ?_; rintro e w' ⟨rfl, rfl⟩))
    all_goals
      go_wp2_with fail
      go_meet
      case rel => exact ⟨_, rfl, by first | exact RS.made (Hb2.out.below' (dr' (Below.refl _ _))) (Hrd.out.below' (dr' (Below.refl _ _))) (dr' HB2.out) (Nat.le_of_eq HBe.out) (fun q e => by injection e with e; subst e; exact HLa.out) { pa0 with id := v0, known := v1 } _ | exact (RS.made Hb2.out Hrd.out HB2.out (Nat.le_of_eq HBe.out) (fun q e => by injection e with e; subst e; exact HLa.out) { pa0 with id := v0, known := v1 } _).drew⟩
  case rest =>
  obtain ⟨B5, rfl, hS⟩ := hcut
  rename World => w5
  have HS := Lib.hid hS
  have hwb : wb < B5 := hS.la _ rfl
  clear hS x0 x1 Hrd Hb2 HB2 HLa N0 N1
  go_upto_region 19 with (fail)
  obtain ⟨d0, d1, d2, d3, d4, d5, d6, d7, d8, d9, d10, d11, d12, d13⟩ := BoxG.pa HS.out.x5
  dsimp only [pa0] at d2
  clear d0 d1 d3 d4 d5 d6 d7 d8 d9 d10 d11 d12 d13
  have f2 := HS.out.x5.2.1 2
  have bl := HS.out.x5.1
  go_upto_region 20 with (fail)
  have hS := HS.out.set 2 (.int .u8 2) { pa0 with id := v0, known := v1, kind := 2 } rfl (by decide)
  clear HS d2 f2 bl
  generalize w5.setCell ⟨B5, 2, none⟩ (.int .u8 2) = wn at *
  rename World => w5
  have HS := Lib.hid hS
  clear hS
  obtain ⟨bb, oo, yy, ee, _, hy, x3⟩ := HS.out.rd.str (show 3 < 8 by omega)
  obtain rfl : a3 = yy := Option.some.inj hy
  obtain ⟨rfl, rfl⟩ : wb = bb ∧ off = oo := by injection ee with e; injection e with e1 e2; exact ⟨e1, e2⟩
  clear hy ee
  obtain ⟨d0, d1, d2, d3, d4, d5, d6, d7, d8, d9, d10, d11, d12, d13⟩ := BoxG.pa HS.out.x5
  dsimp only [pa0] at d3
  clear d0 d1 d2 d4 d5 d6 d7 d8 d9 d10 d11 d12 d13
  have f3 := HS.out.x5.2.1 3
  have bl := HS.out.x5.1
  go_upto_region 21 with ((go_at_call 63; with_reducible refine (N3.out _).mono ?_; rintro e w' ⟨rfl, rfl⟩))
  rename World => w5
  have hS := HS.out.set 3 (.int .i64 v3) { pa0 with id := v0, known := v1, kind := 2, loss := v3 } rfl (by decide)
  clear HS x3 d3 f3 bl
  generalize w5.setCell ⟨B5, 3, none⟩ (.int .i64 v3) = wn at *
  rename World => w5
  have HS := Lib.hid hS
  clear hS
  obtain ⟨bb, oo, yy, ee, _, hy, x4⟩ := HS.out.rd.str (show 4 < 8 by omega)
  obtain rfl : a4 = yy := Option.some.inj hy
  obtain ⟨rfl, rfl⟩ : wb = bb ∧ off = oo := by injection ee with e; injection e with e1 e2; exact ⟨e1, e2⟩
  clear hy ee
  obtain ⟨d0, d1, d2, d3, d4, d5, d6, d7, d8, d9, d10, d11, d12, d13⟩ := BoxG.pa HS.out.x5
  dsimp only [pa0] at d4
  clear d0 d1 d2 d3 d5 d6 d7 d8 d9 d10 d11 d12 d13
  have f4 := HS.out.x5.2.1 4
  have bl := HS.out.x5.1
  go_upto_region 22 with ((go_at_call 63; with_reducible refine (N4.out _).mono ?_; rintro e w' ⟨rfl, rfl⟩))
  rename World => w5
  have hS := HS.out.set 4 (.int .i64 v4) { pa0 with id := v0, known := v1, kind := 2, loss := v3, pack := v4 } rfl (by decide)
  clear HS x4 d4 f4 bl
  generalize w5.setCell ⟨B5, 4, none⟩ (.int .i64 v4) = wn at *
  rename World => w5
  have HS := Lib.hid hS
  clear hS
  obtain ⟨bb, oo, yy, ee, _, hy, x5⟩ := HS.out.rd.str (show 5 < 8 by omega)
  obtain rfl : a5 = yy := Option.some.inj hy
  obtain ⟨rfl, rfl⟩ : wb = bb ∧ off = oo := by injection ee with e; injection e with e1 e2; exact ⟨e1, e2⟩
  clear hy ee
  obtain ⟨d0, d1, d2, d3, d4, d5, d6, d7, d8, d9, d10, d11, d12, d13⟩ := BoxG.pa HS.out.x5
  dsimp only [pa0] at d12
  clear d0 d1 d2 d3 d4 d5 d6 d7 d8 d9 d10 d11 d13
  have f12 := HS.out.x5.2.1 12
  have bl := HS.out.x5.1
  go_upto_region 23 with ((go_at_call 63; with_reducible refine (N5.out _).mono ?_; rintro e w' ⟨rfl, rfl⟩))
  rename World => w5
  have hS := HS.out.set 12 (.int .i64 v5) { pa0 with id := v0, known := v1, kind := 2, loss := v3, pack := v4, count := v5 } rfl (by decide)
  clear HS x5 d12 f12 bl
  generalize w5.setCell ⟨B5, 12, none⟩ (.int .i64 v5) = wn at *
  rename World => w5
  have HS := Lib.hid hS
  clear hS
  obtain ⟨bb, oo, yy, ee, _, hy, x6⟩ := HS.out.rd.str (show 6 < 8 by omega)
  obtain rfl : a6 = yy := Option.some.inj hy
  obtain ⟨rfl, rfl⟩ : wb = bb ∧ off = oo := by injection ee with e; injection e with e1 e2; exact ⟨e1, e2⟩
  clear hy ee
  obtain ⟨bb, oo, yy, ee, _, hy, x7⟩ := HS.out.rd.str (show 7 < 8 by omega)
  obtain rfl : a7 = yy := Option.some.inj hy
  obtain ⟨rfl, rfl⟩ : wb = bb ∧ off = oo := by injection ee with e; injection e with e1 e2; exact ⟨e1, e2⟩
  clear hy ee
  obtain ⟨d0, d1, d2, d3, d4, d5, d6, d7, d8, d9, d10, d11, d12, d13⟩ := BoxG.pa HS.out.x5
  dsimp only [pa0] at d8 d9
  clear d0 d1 d2 d3 d4 d5 d6 d7 d10 d11 d12 d13
  have f8 := HS.out.x5.2.1 8
  have f9 := HS.out.x5.2.1 9
  have bl := HS.out.x5.1
  go_region_held3 (fun w' => w'.cell? ⟨wb, off + 6, none⟩ = some (.string ⟨a6.toArray⟩) ∧ w'.cell? ⟨wb, off + 7, none⟩ = some (.string ⟨a7.toArray⟩)) (first | (constructor <;> (with_reducible refine aside2 hwb ?_) <;> assumption) | go_keep)
    (first | (go_at_call 63; with_reducible refine (N6.out _).mono ?_; rintro e w' ⟨rfl, rfl⟩) | (go_at_call 63; with_reducible refine (N7.out _).mono ?_; rintro e w' ⟨rfl, rfl⟩))
  all_goals
    obtain ⟨wn, hwn⟩ : ∃ wn, ((w5.setCell ⟨B5, 8, none⟩ (.int .i64 v6)).setCell ⟨B5, 9, none⟩ (.int .i64 v7)).drew = wn := ⟨_, rfl⟩
    have hS : RS w wn B B5 (some ⟨wb, off, none⟩) 8 [a0, a1, a2, a3, a4, a5, a6, a7] { pa0 with id := v0, known := v1, kind := 2, loss := v3, pack := v4, count := v5, low := v6, high := v7 } := by rw [← hwn]; exact ((HS.out.set 8 (.int .i64 v6) { pa0 with id := v0, known := v1, kind := 2, loss := v3, pack := v4, count := v5, low := v6 } rfl (by decide)).set 9 (.int .i64 v7) { pa0 with id := v0, known := v1, kind := 2, loss := v3, pack := v4, count := v5, low := v6, high := v7 } rfl (by decide)).drew
    go_upto_region 24 with (fail)
    rw [hwn]
    clear HS x6 x7 d8 d9 f8 f9 bl hwn
    rename World => w5
    have HS := Lib.hid hS
    clear hS
    have HP := Lib.hid (show paR (spl l) = some { pa0 with id := v0, known := v1, kind := 2, loss := v3, pack := v4, count := v5, low := v6, high := v7 } from by rw [HWS.out]; obtain ⟨h0, h1, h2, h3, h4, h5, h6, h7⟩ := HVS.out; subst h0 h1 h2 h3 h4 h5 h6 h7; rfl)
    have HSh := Lib.hid (show ({ pa0 with id := v0, known := v1, kind := 2, loss := v3, pack := v4, count := v5, low := v6, high := v7 } : Pa).Short from ⟨Nat.zero_le _, Nat.zero_le _⟩)
    obtain ⟨x, hxe⟩ : ∃ x : Pa, { pa0 with id := v0, known := v1, kind := 2, loss := v3, pack := v4, count := v5, low := v6, high := v7 } = x := ⟨_, rfl⟩
    rw [hxe] at HS HP HSh
    clear hxe HWS HVS N2 N3 N4 N5 N6 N7
    have CW := Lib.hid (fun W => rwrite_any x HSh.out W)
    obtain ⟨c0, c1, c2, c3, c4, c5, c6, c7, c8, c9, c10, c11, c12, c13⟩ := BoxG.pa (x := x) HS.out.x5
    have bl := HS.out.x5.1
    go_wp2_with fail
    refine (CW.out _).mono ?_
    rintro e w6 ⟨hB6, ⟨hf, rfl⟩ | ⟨hf, rfl⟩⟩
    case inr =>
      have HX0 := Lib.hid (HS.out.x0.below' hB6)
      have HX5 := Lib.hid (HS.out.x5.below' hB6)
      have HBw := Lib.hid (HS.out.hb.trans (hB6.mono HS.out.hb.size))
      clear c0 c1 c2 c3 c4 c5 c6 c7 c8 c9 c10 c11 c12 c13 bl CW HS hB6
      have HV := Lib.hid (show readV l = none from by rw [readV_some HP.out]; exact if_neg (fun h => hf h.1))
      clear hf
      obtain ⟨c0, c1, c2, c3, c4, c5, c6, c7, c8, c9, c10, c11, c12, c13⟩ := BoxG.pa (x := pa0) HX0.out
      dsimp only [pa0] at c0 c1 c2 c3 c4 c5 c6 c7 c8 c9 c10 c11 c12 c13
      have bf := HX0.out.2.1
      have bl := HX0.out.1
      go_wp2_with fail
      have hb2' : BoxG w6 B [.int .i64 0, .int .i64 0, .int .u8 0, .int .i64 0, .int .i64 0, .int .i64 0, .string ⟨#[]⟩, .string ⟨#[]⟩, .int .i64 0, .int .i64 0, .int .i64 0, .int .i64 0, .int .i64 0, .int .i64 0] := HX0.out
      obtain ⟨g1, k1⟩ := hb2'.all14 (.int .i64 0) (.int .i64 0) (.int .u8 0) (.int .i64 0) (.int .i64 0) (.int .i64 0) (.string ⟨#[]⟩) (.string ⟨#[]⟩) (.int .i64 0) (.int .i64 0) (.int .i64 0) (.int .i64 0) (.int .i64 0) (.int .i64 0)
      have HBf := Lib.hid (k1.below_then HBw.out (fun y hy => by have := HBe.out; have := List.mem_singleton.1 hy; omega) (Nat.le_refl _))
      clear c0 c1 c2 c3 c4 c5 c6 c7 c8 c9 c10 c11 c12 c13 bf bl hb2' k1
      generalize ((((((((((((((w6.setCell ⟨B, 0, none⟩ (.int .i64 0)).setCell ⟨B, 1, none⟩ (.int .i64 0)).setCell ⟨B, 2, none⟩ (.int .u8 0)).setCell ⟨B, 3, none⟩ (.int .i64 0)).setCell ⟨B, 4, none⟩ (.int .i64 0)).setCell ⟨B, 5, none⟩ (.int .i64 0)).setCell ⟨B, 6, none⟩ (.string ⟨#[]⟩)).setCell ⟨B, 7, none⟩ (.string ⟨#[]⟩)).setCell ⟨B, 8, none⟩ (.int .i64 0)).setCell ⟨B, 9, none⟩ (.int .i64 0)).setCell ⟨B, 10, none⟩ (.int .i64 0)).setCell ⟨B, 11, none⟩ (.int .i64 0)).setCell ⟨B, 12, none⟩ (.int .i64 0)).setCell ⟨B, 13, none⟩ (.int .i64 0)) = wf at *
      have gb' : BoxG wf B (Pa.vals pa0) := g1
      obtain ⟨c0, c1, c2, c3, c4, c5, c6, c7, c8, c9, c10, c11, c12, c13⟩ := BoxG.pa gb'
      have rl := gb'.1
      clear g1 gb'
      exact bodyPost_ret (by simp [results, Tryz.results17, go_sem, c0, c1, c2, c3, c4, c5, c6, c7, c8, c9, c10, c11, c12, c13, rl]) rfl (show ReadPost w l (.returned (.tuple #[.agg #[.int .i64 pa0.id, .int .i64 pa0.known, .int .u8 pa0.kind, .int .i64 pa0.loss, .int .i64 pa0.pack, .int .i64 pa0.inn, .string ⟨pa0.mark.toArray⟩, .string ⟨pa0.goods.toArray⟩, .int .i64 pa0.low, .int .i64 pa0.high, .int .i64 pa0.pieces, .int .i64 pa0.owner, .int .i64 pa0.count, .int .i64 pa0.of], .int .i64 4])) wf from ⟨HBf.out, _, rfl, by rw [HV.out]; rfl⟩)
    case inl =>
      have HX0 := Lib.hid (HS.out.x0.below' hB6)
      have HX5 := Lib.hid (HS.out.x5.below' hB6)
      have HBw := Lib.hid (HS.out.hb.trans (hB6.mono HS.out.hb.size))
      clear c0 c1 c2 c3 c4 c5 c6 c7 c8 c9 c10 c11 c12 c13 bl CW HS hB6
      by_cases hl2 : writeP x = l
      case neg =>
        have HV := Lib.hid (show readV l = none from by rw [readV_some HP.out]; exact if_neg (fun h => hl2 h.2))
        have hne : (writeP x == l) = false := by simp [hl2]
        clear hl2 hf
        obtain ⟨c0, c1, c2, c3, c4, c5, c6, c7, c8, c9, c10, c11, c12, c13⟩ := BoxG.pa (x := pa0) HX0.out
        dsimp only [pa0] at c0 c1 c2 c3 c4 c5 c6 c7 c8 c9 c10 c11 c12 c13
        have bf := HX0.out.2.1
        have bl := HX0.out.1
        go_wp2_with fail
        have hb2' : BoxG w6 B [.int .i64 0, .int .i64 0, .int .u8 0, .int .i64 0, .int .i64 0, .int .i64 0, .string ⟨#[]⟩, .string ⟨#[]⟩, .int .i64 0, .int .i64 0, .int .i64 0, .int .i64 0, .int .i64 0, .int .i64 0] := HX0.out
        obtain ⟨g1, k1⟩ := hb2'.all14 (.int .i64 0) (.int .i64 0) (.int .u8 0) (.int .i64 0) (.int .i64 0) (.int .i64 0) (.string ⟨#[]⟩) (.string ⟨#[]⟩) (.int .i64 0) (.int .i64 0) (.int .i64 0) (.int .i64 0) (.int .i64 0) (.int .i64 0)
        have HBf := Lib.hid (k1.below_then HBw.out (fun y hy => by have := HBe.out; have := List.mem_singleton.1 hy; omega) (Nat.le_refl _))
        clear c0 c1 c2 c3 c4 c5 c6 c7 c8 c9 c10 c11 c12 c13 bf bl hb2' k1
        generalize ((((((((((((((w6.setCell ⟨B, 0, none⟩ (.int .i64 0)).setCell ⟨B, 1, none⟩ (.int .i64 0)).setCell ⟨B, 2, none⟩ (.int .u8 0)).setCell ⟨B, 3, none⟩ (.int .i64 0)).setCell ⟨B, 4, none⟩ (.int .i64 0)).setCell ⟨B, 5, none⟩ (.int .i64 0)).setCell ⟨B, 6, none⟩ (.string ⟨#[]⟩)).setCell ⟨B, 7, none⟩ (.string ⟨#[]⟩)).setCell ⟨B, 8, none⟩ (.int .i64 0)).setCell ⟨B, 9, none⟩ (.int .i64 0)).setCell ⟨B, 10, none⟩ (.int .i64 0)).setCell ⟨B, 11, none⟩ (.int .i64 0)).setCell ⟨B, 12, none⟩ (.int .i64 0)).setCell ⟨B, 13, none⟩ (.int .i64 0)) = wf at *
        have gb' : BoxG wf B (Pa.vals pa0) := g1
        obtain ⟨c0, c1, c2, c3, c4, c5, c6, c7, c8, c9, c10, c11, c12, c13⟩ := BoxG.pa gb'
        have rl := gb'.1
        clear g1 gb'
        exact bodyPost_ret (by simp [results, Tryz.results17, go_sem, c0, c1, c2, c3, c4, c5, c6, c7, c8, c9, c10, c11, c12, c13, rl]) rfl (show ReadPost w l (.returned (.tuple #[.agg #[.int .i64 pa0.id, .int .i64 pa0.known, .int .u8 pa0.kind, .int .i64 pa0.loss, .int .i64 pa0.pack, .int .i64 pa0.inn, .string ⟨pa0.mark.toArray⟩, .string ⟨pa0.goods.toArray⟩, .int .i64 pa0.low, .int .i64 pa0.high, .int .i64 pa0.pieces, .int .i64 pa0.owner, .int .i64 pa0.count, .int .i64 pa0.of], .int .i64 4])) wf from ⟨HBf.out, _, rfl, by rw [HV.out]; rfl⟩)
      case pos =>
        have HV := Lib.hid (show readV l = some x from by rw [readV_some HP.out]; exact if_pos ⟨hf, hl2⟩)
        have hne : (writeP x == l) = true := by simp [hl2]
        clear hl2 hf
        obtain ⟨c0, c1, c2, c3, c4, c5, c6, c7, c8, c9, c10, c11, c12, c13⟩ := BoxG.pa (x := pa0) HX0.out
        dsimp only [pa0] at c0 c1 c2 c3 c4 c5 c6 c7 c8 c9 c10 c11 c12 c13
        have bf := HX0.out.2.1
        have bl := HX0.out.1
        obtain ⟨d0, d1, d2, d3, d4, d5, d6, d7, d8, d9, d10, d11, d12, d13⟩ := BoxG.pa (x := x) HX5.out
        have dl := HX5.out.1
        go_wp2_with fail
        have hb2' : BoxG w6 B [.int .i64 0, .int .i64 0, .int .u8 0, .int .i64 0, .int .i64 0, .int .i64 0, .string ⟨#[]⟩, .string ⟨#[]⟩, .int .i64 0, .int .i64 0, .int .i64 0, .int .i64 0, .int .i64 0, .int .i64 0] := HX0.out
        obtain ⟨g1, k1⟩ := hb2'.all14 (.int .i64 x.id) (.int .i64 x.known) (.int .u8 x.kind) (.int .i64 x.loss) (.int .i64 x.pack) (.int .i64 x.inn) (.string ⟨x.mark.toArray⟩) (.string ⟨x.goods.toArray⟩) (.int .i64 x.low) (.int .i64 x.high) (.int .i64 x.pieces) (.int .i64 x.owner) (.int .i64 x.count) (.int .i64 x.of)
        have HBf := Lib.hid (k1.below_then HBw.out (fun y hy => by have := HBe.out; have := List.mem_singleton.1 hy; omega) (Nat.le_refl _))
        clear c0 c1 c2 c3 c4 c5 c6 c7 c8 c9 c10 c11 c12 c13 bf bl hb2' k1 d0 d1 d2 d3 d4 d5 d6 d7 d8 d9 d10 d11 d12 d13 dl
        generalize ((((((((((((((w6.setCell ⟨B, 0, none⟩ (.int .i64 x.id)).setCell ⟨B, 1, none⟩ (.int .i64 x.known)).setCell ⟨B, 2, none⟩ (.int .u8 x.kind)).setCell ⟨B, 3, none⟩ (.int .i64 x.loss)).setCell ⟨B, 4, none⟩ (.int .i64 x.pack)).setCell ⟨B, 5, none⟩ (.int .i64 x.inn)).setCell ⟨B, 6, none⟩ (.string ⟨x.mark.toArray⟩)).setCell ⟨B, 7, none⟩ (.string ⟨x.goods.toArray⟩)).setCell ⟨B, 8, none⟩ (.int .i64 x.low)).setCell ⟨B, 9, none⟩ (.int .i64 x.high)).setCell ⟨B, 10, none⟩ (.int .i64 x.pieces)).setCell ⟨B, 11, none⟩ (.int .i64 x.owner)).setCell ⟨B, 12, none⟩ (.int .i64 x.count)).setCell ⟨B, 13, none⟩ (.int .i64 x.of)) = wf at *
        have gb' : BoxG wf B (Pa.vals x) := g1
        obtain ⟨c0, c1, c2, c3, c4, c5, c6, c7, c8, c9, c10, c11, c12, c13⟩ := BoxG.pa gb'
        have rl := gb'.1
        clear g1 gb'
        exact bodyPost_ret (by simp [results, Tryz.results17, go_sem, c0, c1, c2, c3, c4, c5, c6, c7, c8, c9, c10, c11, c12, c13, rl]) rfl (show ReadPost w l (.returned (.tuple #[.agg #[.int .i64 x.id, .int .i64 x.known, .int .u8 x.kind, .int .i64 x.loss, .int .i64 x.pack, .int .i64 x.inn, .string ⟨x.mark.toArray⟩, .string ⟨x.goods.toArray⟩, .int .i64 x.low, .int .i64 x.high, .int .i64 x.pieces, .int .i64 x.owner, .int .i64 x.count, .int .i64 x.of], .int .i64 0])) wf from ⟨HBf.out, _, rfl, by rw [HV.out]; rfl⟩)
set_option maxRecDepth 100000 in
set_option maxHeartbeats 16000000 in
theorem rread_12 (l : List UInt8) (hl : l.length ≤ 1000) (w : World) (hlen : (spl l).length = 12) :
    Calls Tryz.prog 17 #[.string ⟨l.toArray⟩] w (ReadPost w l) := by
  have Hn := Lib.hid hlen
  clear hlen
  have hB0 := al' (Below.refl w.heap.size w) (.cells #[.int .i64 0, .int .i64 0, .int .u8 0, .int .i64 0, .int .i64 0, .int .i64 0, .string ⟨#[]⟩, .string ⟨#[]⟩, .int .i64 0, .int .i64 0, .int .i64 0, .int .i64 0, .int .i64 0, .int .i64 0] 28)
  have hb := BoxG.made w pa0.vals 28
  simp only [Pa.vals, pa0] at hb
  have HB0 := Lib.hid hB0
  have Hb := Lib.hid hb
  clear hB0 hb
  go_enter Tryz.func17, Tryz.ntmps17
  go_upto_region 1 with (fail)
  generalize w.alloc (.cells #[.int .i64 0, .int .i64 0, .int .u8 0, .int .i64 0, .int .i64 0, .int .i64 0, .string ⟨#[]⟩, .string ⟨#[]⟩, .int .i64 0, .int .i64 0, .int .i64 0, .int .i64 0, .int .i64 0, .int .i64 0] 28) = w1 at *
  obtain ⟨B, hBe⟩ : ∃ B, w.heap.size = B := ⟨_, rfl⟩
  have HBe := Lib.hid hBe
  rw [hBe] at Hb ⊢
  clear hBe
  go_upto_region 2 with (go_at_call 62; refine (words_r l hl _).mono ?_; rintro e w2 ⟨a, c, rfl, hrd, hB2⟩)
  have Hrd := Lib.hid hrd
  have Hb2 := Lib.hid (show BoxG w2 B pa0.vals from Hb.out.below' hB2)
  have HB2 := Lib.hid (below_on HB0.out hB2 (Nat.le_refl _))
  clear hrd hB2 Hb HB0
  have hlen := Hn.out
  rw [hlen] at Hrd ⊢
  clear hlen
  obtain ⟨a0, a1, a2, a3, a4, a5, a6, a7, a8, a9, a10, a11, hws⟩ := list12 Hn.out
  have hml := spl_mem_len l
  rw [hws] at Hrd hml
  have hl0 : a0.length ≤ 1000 := Nat.le_trans (hml a0 (by simp)) hl
  have hl1 : a1.length ≤ 1000 := Nat.le_trans (hml a1 (by simp)) hl
  have hl2 : a2.length ≤ 1000 := Nat.le_trans (hml a2 (by simp)) hl
  have hl3 : a3.length ≤ 1000 := Nat.le_trans (hml a3 (by simp)) hl
  have hl4 : a4.length ≤ 1000 := Nat.le_trans (hml a4 (by simp)) hl
  have hl5 : a5.length ≤ 1000 := Nat.le_trans (hml a5 (by simp)) hl
  have hl6 : a6.length ≤ 1000 := Nat.le_trans (hml a6 (by simp)) hl
  have hl7 : a7.length ≤ 1000 := Nat.le_trans (hml a7 (by simp)) hl
  have hl8 : a8.length ≤ 1000 := Nat.le_trans (hml a8 (by simp)) hl
  have hl9 : a9.length ≤ 1000 := Nat.le_trans (hml a9 (by simp)) hl
  have hl10 : a10.length ≤ 1000 := Nat.le_trans (hml a10 (by simp)) hl
  have hl11 : a11.length ≤ 1000 := Nat.le_trans (hml a11 (by simp)) hl
  have HWS := Lib.hid hws
  clear hws hml Hn
  have N0 := Lib.hid (fun W => number_r a0 (by omega) W)
  have N1 := Lib.hid (fun W => number_r a1 (by omega) W)
  have N2 := Lib.hid (fun W => number_r a2 (by omega) W)
  have N3 := Lib.hid (fun W => number_r a3 (by omega) W)
  have N4 := Lib.hid (fun W => number_r a4 (by omega) W)
  have N5 := Lib.hid (fun W => number_r a5 (by omega) W)
  have N6 := Lib.hid (fun W => number_r a6 (by omega) W)
  have N7 := Lib.hid (fun W => number_r a7 (by omega) W)
  have N8 := Lib.hid (fun W => number_r a8 (by omega) W)
  have N9 := Lib.hid (fun W => number_r a9 (by omega) W)
  have N10 := Lib.hid (fun W => number_r a10 (by omega) W)
  have N11 := Lib.hid (fun W => number_r a11 (by omega) W)
  obtain ⟨v0, hv0⟩ : ∃ v, numR a0 = v := ⟨_, rfl⟩
  rw [hv0] at N0
  obtain ⟨v1, hv1⟩ : ∃ v, numR a1 = v := ⟨_, rfl⟩
  rw [hv1] at N1
  obtain ⟨v2, hv2⟩ : ∃ v, numR a2 = v := ⟨_, rfl⟩
  rw [hv2] at N2
  obtain ⟨v3, hv3⟩ : ∃ v, numR a3 = v := ⟨_, rfl⟩
  rw [hv3] at N3
  obtain ⟨v4, hv4⟩ : ∃ v, numR a4 = v := ⟨_, rfl⟩
  rw [hv4] at N4
  obtain ⟨v5, hv5⟩ : ∃ v, numR a5 = v := ⟨_, rfl⟩
  rw [hv5] at N5
  obtain ⟨v6, hv6⟩ : ∃ v, numR a6 = v := ⟨_, rfl⟩
  rw [hv6] at N6
  obtain ⟨v7, hv7⟩ : ∃ v, numR a7 = v := ⟨_, rfl⟩
  rw [hv7] at N7
  obtain ⟨v8, hv8⟩ : ∃ v, numR a8 = v := ⟨_, rfl⟩
  rw [hv8] at N8
  obtain ⟨v9, hv9⟩ : ∃ v, numR a9 = v := ⟨_, rfl⟩
  rw [hv9] at N9
  obtain ⟨v10, hv10⟩ : ∃ v, numR a10 = v := ⟨_, rfl⟩
  rw [hv10] at N10
  obtain ⟨v11, hv11⟩ : ∃ v, numR a11 = v := ⟨_, rfl⟩
  rw [hv11] at N11
  have HVS := Lib.hid (And.intro hv0 (And.intro hv1 (And.intro hv2 (And.intro hv3 (And.intro hv4 (And.intro hv5 (And.intro hv6 (And.intro hv7 (And.intro hv8 (And.intro hv9 (And.intro hv10 hv11)))))))))))
  clear hv0 hv1 hv2 hv3 hv4 hv5 hv6 hv7 hv8 hv9 hv10 hv11
  go_upto_region 4 with (fail)
  obtain ⟨wb, off, hpa⟩ : ∃ b o, a = some ⟨b, o, none⟩ := by obtain ⟨b, o, _, e, _⟩ := Hrd.out.str (show 0 < 12 by omega); exact ⟨b, o, e⟩
  subst hpa
  obtain ⟨b0, o0, y0, e0, _, hy0, x0⟩ := Hrd.out.str (show 0 < 12 by omega)
  obtain rfl : a0 = y0 := Option.some.inj hy0
  obtain ⟨rfl, rfl⟩ : wb = b0 ∧ off = o0 := by injection e0 with e; injection e with e1 e2; exact ⟨e1, e2⟩
  clear hy0 e0
  obtain ⟨b1, o1, y1, e1, _, hy1, x1⟩ := Hrd.out.str (show 1 < 12 by omega)
  obtain rfl : a1 = y1 := Option.some.inj hy1
  obtain ⟨rfl, rfl⟩ : wb = b1 ∧ off = o1 := by injection e1 with e; injection e with e1 e2; exact ⟨e1, e2⟩
  clear hy1 e1
  rw [Nat.add_zero] at x0
  have HLa := Lib.hid (World.block_lt_of_cell? _ _ x0)
  go_cut [5] from 24 (fun s5 wx => ∃ B5, s5 = .pointer (some ⟨B5, 0, none⟩) ∧ RS w wx B B5 (some ⟨wb, off, none⟩) 12 [a0, a1, a2, a3, a4, a5, a6, a7, a8, a9, a10, a11] { pa0 with id := v0, known := v1 })
  case first =>
    go_region_held3 (fun w' => w'.cell? ⟨wb, off, none⟩ = some (.string ⟨a0.toArray⟩) ∧ w'.cell? ⟨wb, off + 1, none⟩ = some (.string ⟨a1.toArray⟩)) (go_keep)
      (first | (go_at_call 63; with_reducible refine (N0.out _).mono ?_; rintro e w' ⟨rfl, rfl⟩) | (go_at_call 63; with_reducible refine (N1.out _).mono ?_; rintro e w' ⟨rfl, rfl⟩))
    all_goals
      go_wp2_with fail
      go_meet
      case rel => exact ⟨_, rfl, by first | exact RS.made (Hb2.out.below' (dr' (Below.refl _ _))) (Hrd.out.below' (dr' (Below.refl _ _))) (dr' HB2.out) (Nat.le_of_eq HBe.out) (fun q e => by injection e with e; subst e; exact HLa.out) { pa0 with id := v0, known := v1 } _ | exact (RS.made Hb2.out Hrd.out HB2.out (Nat.le_of_eq HBe.out) (fun q e => by injection e with e; subst e; exact HLa.out) { pa0 with id := v0, known := v1 } _).drew⟩
  case rest =>
  obtain ⟨B5, rfl, hS⟩ := hcut
  rename World => w5
  have HS := Lib.hid hS
  have hwb : wb < B5 := hS.la _ rfl
  clear hS x0 x1 Hrd Hb2 HB2 HLa N0 N1
  go_upto_region 6 with (fail)
  obtain ⟨d0, d1, d2, d3, d4, d5, d6, d7, d8, d9, d10, d11, d12, d13⟩ := BoxG.pa HS.out.x5
  dsimp only [pa0] at d2
  clear d0 d1 d3 d4 d5 d6 d7 d8 d9 d10 d11 d12 d13
  have f2 := HS.out.x5.2.1 2
  have bl := HS.out.x5.1
  go_upto_region 7 with (fail)
  have hS := HS.out.set 2 (.int .u8 1) { pa0 with id := v0, known := v1, kind := 1 } rfl (by decide)
  clear HS d2 f2 bl
  generalize w5.setCell ⟨B5, 2, none⟩ (.int .u8 1) = wn at *
  rename World => w5
  have HS := Lib.hid hS
  clear hS
  obtain ⟨bb, oo, yy, ee, _, hy, x3⟩ := HS.out.rd.str (show 3 < 12 by omega)
  obtain rfl : a3 = yy := Option.some.inj hy
  obtain ⟨rfl, rfl⟩ : wb = bb ∧ off = oo := by injection ee with e; injection e with e1 e2; exact ⟨e1, e2⟩
  clear hy ee
  obtain ⟨d0, d1, d2, d3, d4, d5, d6, d7, d8, d9, d10, d11, d12, d13⟩ := BoxG.pa HS.out.x5
  dsimp only [pa0] at d3
  clear d0 d1 d2 d4 d5 d6 d7 d8 d9 d10 d11 d12 d13
  have f3 := HS.out.x5.2.1 3
  have bl := HS.out.x5.1
  go_upto_region 8 with ((go_at_call 63; with_reducible refine (N3.out _).mono ?_; rintro e w' ⟨rfl, rfl⟩))
  rename World => w5
  have hS := HS.out.set 3 (.int .i64 v3) { pa0 with id := v0, known := v1, kind := 1, loss := v3 } rfl (by decide)
  clear HS x3 d3 f3 bl
  generalize w5.setCell ⟨B5, 3, none⟩ (.int .i64 v3) = wn at *
  rename World => w5
  have HS := Lib.hid hS
  clear hS
  obtain ⟨bb, oo, yy, ee, _, hy, x4⟩ := HS.out.rd.str (show 4 < 12 by omega)
  obtain rfl : a4 = yy := Option.some.inj hy
  obtain ⟨rfl, rfl⟩ : wb = bb ∧ off = oo := by injection ee with e; injection e with e1 e2; exact ⟨e1, e2⟩
  clear hy ee
  obtain ⟨d0, d1, d2, d3, d4, d5, d6, d7, d8, d9, d10, d11, d12, d13⟩ := BoxG.pa HS.out.x5
  dsimp only [pa0] at d4
  clear d0 d1 d2 d3 d5 d6 d7 d8 d9 d10 d11 d12 d13
  have f4 := HS.out.x5.2.1 4
  have bl := HS.out.x5.1
  go_upto_region 9 with ((go_at_call 63; with_reducible refine (N4.out _).mono ?_; rintro e w' ⟨rfl, rfl⟩))
  rename World => w5
  have hS := HS.out.set 4 (.int .i64 v4) { pa0 with id := v0, known := v1, kind := 1, loss := v3, pack := v4 } rfl (by decide)
  clear HS x4 d4 f4 bl
  generalize w5.setCell ⟨B5, 4, none⟩ (.int .i64 v4) = wn at *
  rename World => w5
  have HS := Lib.hid hS
  clear hS
  obtain ⟨bb, oo, yy, ee, _, hy, x5⟩ := HS.out.rd.str (show 5 < 12 by omega)
  obtain rfl : a5 = yy := Option.some.inj hy
  obtain ⟨rfl, rfl⟩ : wb = bb ∧ off = oo := by injection ee with e; injection e with e1 e2; exact ⟨e1, e2⟩
  clear hy ee
  obtain ⟨d0, d1, d2, d3, d4, d5, d6, d7, d8, d9, d10, d11, d12, d13⟩ := BoxG.pa HS.out.x5
  dsimp only [pa0] at d5
  clear d0 d1 d2 d3 d4 d6 d7 d8 d9 d10 d11 d12 d13
  have f5 := HS.out.x5.2.1 5
  have bl := HS.out.x5.1
  go_upto_region 10 with ((go_at_call 63; with_reducible refine (N5.out _).mono ?_; rintro e w' ⟨rfl, rfl⟩))
  rename World => w5
  have hS := HS.out.set 5 (.int .i64 v5) { pa0 with id := v0, known := v1, kind := 1, loss := v3, pack := v4, inn := v5 } rfl (by decide)
  clear HS x5 d5 f5 bl
  generalize w5.setCell ⟨B5, 5, none⟩ (.int .i64 v5) = wn at *
  rename World => w5
  have HS := Lib.hid hS
  clear hS
  obtain ⟨bb, oo, yy, ee, _, hy, x6⟩ := HS.out.rd.str (show 6 < 12 by omega)
  obtain rfl : a6 = yy := Option.some.inj hy
  obtain ⟨rfl, rfl⟩ : wb = bb ∧ off = oo := by injection ee with e; injection e with e1 e2; exact ⟨e1, e2⟩
  clear hy ee
  obtain ⟨d0, d1, d2, d3, d4, d5, d6, d7, d8, d9, d10, d11, d12, d13⟩ := BoxG.pa HS.out.x5
  dsimp only [pa0] at d6
  clear d0 d1 d2 d3 d4 d5 d7 d8 d9 d10 d11 d12 d13
  have f6 := HS.out.x5.2.1 6
  have bl := HS.out.x5.1
  go_upto_region 11 with (fail)
  rename World => w5
  have hS := HS.out.set 6 (.string ⟨a6.toArray⟩) { pa0 with id := v0, known := v1, kind := 1, loss := v3, pack := v4, inn := v5, mark := a6 } rfl (by decide)
  clear HS x6 d6 f6 bl
  generalize w5.setCell ⟨B5, 6, none⟩ (.string ⟨a6.toArray⟩) = wn at *
  rename World => w5
  have HS := Lib.hid hS
  clear hS
  obtain ⟨bb, oo, yy, ee, _, hy, x7⟩ := HS.out.rd.str (show 7 < 12 by omega)
  obtain rfl : a7 = yy := Option.some.inj hy
  obtain ⟨rfl, rfl⟩ : wb = bb ∧ off = oo := by injection ee with e; injection e with e1 e2; exact ⟨e1, e2⟩
  clear hy ee
  obtain ⟨d0, d1, d2, d3, d4, d5, d6, d7, d8, d9, d10, d11, d12, d13⟩ := BoxG.pa HS.out.x5
  dsimp only [pa0] at d7
  clear d0 d1 d2 d3 d4 d5 d6 d8 d9 d10 d11 d12 d13
  have f7 := HS.out.x5.2.1 7
  have bl := HS.out.x5.1
  go_upto_region 12 with (fail)
  rename World => w5
  have hS := HS.out.set 7 (.string ⟨a7.toArray⟩) { pa0 with id := v0, known := v1, kind := 1, loss := v3, pack := v4, inn := v5, mark := a6, goods := a7 } rfl (by decide)
  clear HS x7 d7 f7 bl
  generalize w5.setCell ⟨B5, 7, none⟩ (.string ⟨a7.toArray⟩) = wn at *
  rename World => w5
  have HS := Lib.hid hS
  clear hS
  obtain ⟨bb, oo, yy, ee, _, hy, x8⟩ := HS.out.rd.str (show 8 < 12 by omega)
  obtain rfl : a8 = yy := Option.some.inj hy
  obtain ⟨rfl, rfl⟩ : wb = bb ∧ off = oo := by injection ee with e; injection e with e1 e2; exact ⟨e1, e2⟩
  clear hy ee
  obtain ⟨bb, oo, yy, ee, _, hy, x9⟩ := HS.out.rd.str (show 9 < 12 by omega)
  obtain rfl : a9 = yy := Option.some.inj hy
  obtain ⟨rfl, rfl⟩ : wb = bb ∧ off = oo := by injection ee with e; injection e with e1 e2; exact ⟨e1, e2⟩
  clear hy ee
  obtain ⟨d0, d1, d2, d3, d4, d5, d6, d7, d8, d9, d10, d11, d12, d13⟩ := BoxG.pa HS.out.x5
  dsimp only [pa0] at d8 d9
  clear d0 d1 d2 d3 d4 d5 d6 d7 d10 d11 d12 d13
  have f8 := HS.out.x5.2.1 8
  have f9 := HS.out.x5.2.1 9
  have bl := HS.out.x5.1
  go_cut [59] from 60 (fun _ wx => RS w wx B B5 (some ⟨wb, off, none⟩) 12 [a0, a1, a2, a3, a4, a5, a6, a7, a8, a9, a10, a11] { pa0 with id := v0, known := v1, kind := 1, loss := v3, pack := v4, inn := v5, mark := a6, goods := a7, low := v8, high := v9 })
  case first =>
    go_region_held3 (fun w' => w'.cell? ⟨wb, off + 8, none⟩ = some (.string ⟨a8.toArray⟩) ∧ w'.cell? ⟨wb, off + 9, none⟩ = some (.string ⟨a9.toArray⟩)) (first | (constructor <;> (with_reducible refine aside2 hwb ?_) <;> assumption) | go_keep)
      (first | (go_at_call 63; with_reducible refine (N8.out _).mono ?_; rintro e w' ⟨rfl, rfl⟩) | (go_at_call 63; with_reducible refine (N9.out _).mono ?_; rintro e w' ⟨rfl, rfl⟩))
    all_goals
      go_wp2_with fail
      go_meet
      case rel => first | exact ((HS.out.set 8 (.int .i64 v8) { pa0 with id := v0, known := v1, kind := 1, loss := v3, pack := v4, inn := v5, mark := a6, goods := a7, low := v8 } rfl (by decide)).set 9 (.int .i64 v9) { pa0 with id := v0, known := v1, kind := 1, loss := v3, pack := v4, inn := v5, mark := a6, goods := a7, low := v8, high := v9 } rfl (by decide)).drew | exact (HS.out.drew.set 8 (.int .i64 v8) { pa0 with id := v0, known := v1, kind := 1, loss := v3, pack := v4, inn := v5, mark := a6, goods := a7, low := v8 } rfl (by decide)).set 9 (.int .i64 v9) { pa0 with id := v0, known := v1, kind := 1, loss := v3, pack := v4, inn := v5, mark := a6, goods := a7, low := v8, high := v9 } rfl (by decide)
  case rest =>
  rename World => w5
  have HS' := Lib.hid hcut
  clear HS hcut x8 x9 d8 d9 f8 f9 bl
  have HS := Lib.hid HS'.out
  clear HS'
  go_upto_region 13 with (fail)
  obtain ⟨bb, oo, yy, ee, _, hy, x10⟩ := HS.out.rd.str (show 10 < 12 by omega)
  obtain rfl : a10 = yy := Option.some.inj hy
  obtain ⟨rfl, rfl⟩ : wb = bb ∧ off = oo := by injection ee with e; injection e with e1 e2; exact ⟨e1, e2⟩
  clear hy ee
  obtain ⟨d0, d1, d2, d3, d4, d5, d6, d7, d8, d9, d10, d11, d12, d13⟩ := BoxG.pa HS.out.x5
  dsimp only [pa0] at d10
  clear d0 d1 d2 d3 d4 d5 d6 d7 d8 d9 d11 d12 d13
  have f10 := HS.out.x5.2.1 10
  have bl := HS.out.x5.1
  go_upto_region 14 with ((go_at_call 63; with_reducible refine (N10.out _).mono ?_; rintro e w' ⟨rfl, rfl⟩))
  rename World => w5
  have hS := HS.out.set 10 (.int .i64 v10) { pa0 with id := v0, known := v1, kind := 1, loss := v3, pack := v4, inn := v5, mark := a6, goods := a7, low := v8, high := v9, pieces := v10 } rfl (by decide)
  clear HS x10 d10 f10 bl
  generalize w5.setCell ⟨B5, 10, none⟩ (.int .i64 v10) = wn at *
  rename World => w5
  have HS := Lib.hid hS
  clear hS
  obtain ⟨bb, oo, yy, ee, _, hy, x11⟩ := HS.out.rd.str (show 11 < 12 by omega)
  obtain rfl : a11 = yy := Option.some.inj hy
  obtain ⟨rfl, rfl⟩ : wb = bb ∧ off = oo := by injection ee with e; injection e with e1 e2; exact ⟨e1, e2⟩
  clear hy ee
  obtain ⟨d0, d1, d2, d3, d4, d5, d6, d7, d8, d9, d10, d11, d12, d13⟩ := BoxG.pa HS.out.x5
  dsimp only [pa0] at d11
  clear d0 d1 d2 d3 d4 d5 d6 d7 d8 d9 d10 d12 d13
  have f11 := HS.out.x5.2.1 11
  have bl := HS.out.x5.1
  go_upto_region 24 with ((go_at_call 63; with_reducible refine (N11.out _).mono ?_; rintro e w' ⟨rfl, rfl⟩))
  rename World => w5
  have hS := HS.out.set 11 (.int .i64 v11) { pa0 with id := v0, known := v1, kind := 1, loss := v3, pack := v4, inn := v5, mark := a6, goods := a7, low := v8, high := v9, pieces := v10, owner := v11 } rfl (by decide)
  clear HS x11 d11 f11 bl
  generalize w5.setCell ⟨B5, 11, none⟩ (.int .i64 v11) = wn at *
  rename World => w5
  have HS := Lib.hid hS
  clear hS
  have HP := Lib.hid (show paR (spl l) = some { pa0 with id := v0, known := v1, kind := 1, loss := v3, pack := v4, inn := v5, mark := a6, goods := a7, low := v8, high := v9, pieces := v10, owner := v11 } from by rw [HWS.out]; obtain ⟨h0, h1, h2, h3, h4, h5, h6, h7, h8, h9, h10, h11⟩ := HVS.out; subst h0 h1 h2 h3 h4 h5 h6 h7 h8 h9 h10 h11; rfl)
  have HSh := Lib.hid (show ({ pa0 with id := v0, known := v1, kind := 1, loss := v3, pack := v4, inn := v5, mark := a6, goods := a7, low := v8, high := v9, pieces := v10, owner := v11 } : Pa).Short from ⟨by show a6.length ≤ _; omega, by show a7.length ≤ _; omega⟩)
  obtain ⟨x, hxe⟩ : ∃ x : Pa, { pa0 with id := v0, known := v1, kind := 1, loss := v3, pack := v4, inn := v5, mark := a6, goods := a7, low := v8, high := v9, pieces := v10, owner := v11 } = x := ⟨_, rfl⟩
  rw [hxe] at HS HP HSh
  clear hxe HWS HVS N2 N3 N4 N5 N6 N7 N8 N9 N10 N11
  have CW := Lib.hid (fun W => rwrite_any x HSh.out W)
  obtain ⟨c0, c1, c2, c3, c4, c5, c6, c7, c8, c9, c10, c11, c12, c13⟩ := BoxG.pa (x := x) HS.out.x5
  have bl := HS.out.x5.1
  go_wp2_with fail
  refine (CW.out _).mono ?_
  rintro e w6 ⟨hB6, ⟨hf, rfl⟩ | ⟨hf, rfl⟩⟩
  case inr =>
    have HX0 := Lib.hid (HS.out.x0.below' hB6)
    have HX5 := Lib.hid (HS.out.x5.below' hB6)
    have HBw := Lib.hid (HS.out.hb.trans (hB6.mono HS.out.hb.size))
    clear c0 c1 c2 c3 c4 c5 c6 c7 c8 c9 c10 c11 c12 c13 bl CW HS hB6
    have HV := Lib.hid (show readV l = none from by rw [readV_some HP.out]; exact if_neg (fun h => hf h.1))
    clear hf
    obtain ⟨c0, c1, c2, c3, c4, c5, c6, c7, c8, c9, c10, c11, c12, c13⟩ := BoxG.pa (x := pa0) HX0.out
    dsimp only [pa0] at c0 c1 c2 c3 c4 c5 c6 c7 c8 c9 c10 c11 c12 c13
    have bf := HX0.out.2.1
    have bl := HX0.out.1
    go_wp2_with fail
    have hb2' : BoxG w6 B [.int .i64 0, .int .i64 0, .int .u8 0, .int .i64 0, .int .i64 0, .int .i64 0, .string ⟨#[]⟩, .string ⟨#[]⟩, .int .i64 0, .int .i64 0, .int .i64 0, .int .i64 0, .int .i64 0, .int .i64 0] := HX0.out
    obtain ⟨g1, k1⟩ := hb2'.all14 (.int .i64 0) (.int .i64 0) (.int .u8 0) (.int .i64 0) (.int .i64 0) (.int .i64 0) (.string ⟨#[]⟩) (.string ⟨#[]⟩) (.int .i64 0) (.int .i64 0) (.int .i64 0) (.int .i64 0) (.int .i64 0) (.int .i64 0)
    have HBf := Lib.hid (k1.below_then HBw.out (fun y hy => by have := HBe.out; have := List.mem_singleton.1 hy; omega) (Nat.le_refl _))
    clear c0 c1 c2 c3 c4 c5 c6 c7 c8 c9 c10 c11 c12 c13 bf bl hb2' k1
    generalize ((((((((((((((w6.setCell ⟨B, 0, none⟩ (.int .i64 0)).setCell ⟨B, 1, none⟩ (.int .i64 0)).setCell ⟨B, 2, none⟩ (.int .u8 0)).setCell ⟨B, 3, none⟩ (.int .i64 0)).setCell ⟨B, 4, none⟩ (.int .i64 0)).setCell ⟨B, 5, none⟩ (.int .i64 0)).setCell ⟨B, 6, none⟩ (.string ⟨#[]⟩)).setCell ⟨B, 7, none⟩ (.string ⟨#[]⟩)).setCell ⟨B, 8, none⟩ (.int .i64 0)).setCell ⟨B, 9, none⟩ (.int .i64 0)).setCell ⟨B, 10, none⟩ (.int .i64 0)).setCell ⟨B, 11, none⟩ (.int .i64 0)).setCell ⟨B, 12, none⟩ (.int .i64 0)).setCell ⟨B, 13, none⟩ (.int .i64 0)) = wf at *
    have gb' : BoxG wf B (Pa.vals pa0) := g1
    obtain ⟨c0, c1, c2, c3, c4, c5, c6, c7, c8, c9, c10, c11, c12, c13⟩ := BoxG.pa gb'
    have rl := gb'.1
    clear g1 gb'
    exact bodyPost_ret (by simp [results, Tryz.results17, go_sem, c0, c1, c2, c3, c4, c5, c6, c7, c8, c9, c10, c11, c12, c13, rl]) rfl (show ReadPost w l (.returned (.tuple #[.agg #[.int .i64 pa0.id, .int .i64 pa0.known, .int .u8 pa0.kind, .int .i64 pa0.loss, .int .i64 pa0.pack, .int .i64 pa0.inn, .string ⟨pa0.mark.toArray⟩, .string ⟨pa0.goods.toArray⟩, .int .i64 pa0.low, .int .i64 pa0.high, .int .i64 pa0.pieces, .int .i64 pa0.owner, .int .i64 pa0.count, .int .i64 pa0.of], .int .i64 4])) wf from ⟨HBf.out, _, rfl, by rw [HV.out]; rfl⟩)
  case inl =>
    have HX0 := Lib.hid (HS.out.x0.below' hB6)
    have HX5 := Lib.hid (HS.out.x5.below' hB6)
    have HBw := Lib.hid (HS.out.hb.trans (hB6.mono HS.out.hb.size))
    clear c0 c1 c2 c3 c4 c5 c6 c7 c8 c9 c10 c11 c12 c13 bl CW HS hB6
    by_cases hl2 : writeP x = l
    case neg =>
      have HV := Lib.hid (show readV l = none from by rw [readV_some HP.out]; exact if_neg (fun h => hl2 h.2))
      have hne : (writeP x == l) = false := by simp [hl2]
      clear hl2 hf
      obtain ⟨c0, c1, c2, c3, c4, c5, c6, c7, c8, c9, c10, c11, c12, c13⟩ := BoxG.pa (x := pa0) HX0.out
      dsimp only [pa0] at c0 c1 c2 c3 c4 c5 c6 c7 c8 c9 c10 c11 c12 c13
      have bf := HX0.out.2.1
      have bl := HX0.out.1
      go_wp2_with fail
      have hb2' : BoxG w6 B [.int .i64 0, .int .i64 0, .int .u8 0, .int .i64 0, .int .i64 0, .int .i64 0, .string ⟨#[]⟩, .string ⟨#[]⟩, .int .i64 0, .int .i64 0, .int .i64 0, .int .i64 0, .int .i64 0, .int .i64 0] := HX0.out
      obtain ⟨g1, k1⟩ := hb2'.all14 (.int .i64 0) (.int .i64 0) (.int .u8 0) (.int .i64 0) (.int .i64 0) (.int .i64 0) (.string ⟨#[]⟩) (.string ⟨#[]⟩) (.int .i64 0) (.int .i64 0) (.int .i64 0) (.int .i64 0) (.int .i64 0) (.int .i64 0)
      have HBf := Lib.hid (k1.below_then HBw.out (fun y hy => by have := HBe.out; have := List.mem_singleton.1 hy; omega) (Nat.le_refl _))
      clear c0 c1 c2 c3 c4 c5 c6 c7 c8 c9 c10 c11 c12 c13 bf bl hb2' k1
      generalize ((((((((((((((w6.setCell ⟨B, 0, none⟩ (.int .i64 0)).setCell ⟨B, 1, none⟩ (.int .i64 0)).setCell ⟨B, 2, none⟩ (.int .u8 0)).setCell ⟨B, 3, none⟩ (.int .i64 0)).setCell ⟨B, 4, none⟩ (.int .i64 0)).setCell ⟨B, 5, none⟩ (.int .i64 0)).setCell ⟨B, 6, none⟩ (.string ⟨#[]⟩)).setCell ⟨B, 7, none⟩ (.string ⟨#[]⟩)).setCell ⟨B, 8, none⟩ (.int .i64 0)).setCell ⟨B, 9, none⟩ (.int .i64 0)).setCell ⟨B, 10, none⟩ (.int .i64 0)).setCell ⟨B, 11, none⟩ (.int .i64 0)).setCell ⟨B, 12, none⟩ (.int .i64 0)).setCell ⟨B, 13, none⟩ (.int .i64 0)) = wf at *
      have gb' : BoxG wf B (Pa.vals pa0) := g1
      obtain ⟨c0, c1, c2, c3, c4, c5, c6, c7, c8, c9, c10, c11, c12, c13⟩ := BoxG.pa gb'
      have rl := gb'.1
      clear g1 gb'
      exact bodyPost_ret (by simp [results, Tryz.results17, go_sem, c0, c1, c2, c3, c4, c5, c6, c7, c8, c9, c10, c11, c12, c13, rl]) rfl (show ReadPost w l (.returned (.tuple #[.agg #[.int .i64 pa0.id, .int .i64 pa0.known, .int .u8 pa0.kind, .int .i64 pa0.loss, .int .i64 pa0.pack, .int .i64 pa0.inn, .string ⟨pa0.mark.toArray⟩, .string ⟨pa0.goods.toArray⟩, .int .i64 pa0.low, .int .i64 pa0.high, .int .i64 pa0.pieces, .int .i64 pa0.owner, .int .i64 pa0.count, .int .i64 pa0.of], .int .i64 4])) wf from ⟨HBf.out, _, rfl, by rw [HV.out]; rfl⟩)
    case pos =>
      have HV := Lib.hid (show readV l = some x from by rw [readV_some HP.out]; exact if_pos ⟨hf, hl2⟩)
      have hne : (writeP x == l) = true := by simp [hl2]
      clear hl2 hf
      obtain ⟨c0, c1, c2, c3, c4, c5, c6, c7, c8, c9, c10, c11, c12, c13⟩ := BoxG.pa (x := pa0) HX0.out
      dsimp only [pa0] at c0 c1 c2 c3 c4 c5 c6 c7 c8 c9 c10 c11 c12 c13
      have bf := HX0.out.2.1
      have bl := HX0.out.1
      obtain ⟨d0, d1, d2, d3, d4, d5, d6, d7, d8, d9, d10, d11, d12, d13⟩ := BoxG.pa (x := x) HX5.out
      have dl := HX5.out.1
      go_wp2_with fail
      have hb2' : BoxG w6 B [.int .i64 0, .int .i64 0, .int .u8 0, .int .i64 0, .int .i64 0, .int .i64 0, .string ⟨#[]⟩, .string ⟨#[]⟩, .int .i64 0, .int .i64 0, .int .i64 0, .int .i64 0, .int .i64 0, .int .i64 0] := HX0.out
      obtain ⟨g1, k1⟩ := hb2'.all14 (.int .i64 x.id) (.int .i64 x.known) (.int .u8 x.kind) (.int .i64 x.loss) (.int .i64 x.pack) (.int .i64 x.inn) (.string ⟨x.mark.toArray⟩) (.string ⟨x.goods.toArray⟩) (.int .i64 x.low) (.int .i64 x.high) (.int .i64 x.pieces) (.int .i64 x.owner) (.int .i64 x.count) (.int .i64 x.of)
      have HBf := Lib.hid (k1.below_then HBw.out (fun y hy => by have := HBe.out; have := List.mem_singleton.1 hy; omega) (Nat.le_refl _))
      clear c0 c1 c2 c3 c4 c5 c6 c7 c8 c9 c10 c11 c12 c13 bf bl hb2' k1 d0 d1 d2 d3 d4 d5 d6 d7 d8 d9 d10 d11 d12 d13 dl
      generalize ((((((((((((((w6.setCell ⟨B, 0, none⟩ (.int .i64 x.id)).setCell ⟨B, 1, none⟩ (.int .i64 x.known)).setCell ⟨B, 2, none⟩ (.int .u8 x.kind)).setCell ⟨B, 3, none⟩ (.int .i64 x.loss)).setCell ⟨B, 4, none⟩ (.int .i64 x.pack)).setCell ⟨B, 5, none⟩ (.int .i64 x.inn)).setCell ⟨B, 6, none⟩ (.string ⟨x.mark.toArray⟩)).setCell ⟨B, 7, none⟩ (.string ⟨x.goods.toArray⟩)).setCell ⟨B, 8, none⟩ (.int .i64 x.low)).setCell ⟨B, 9, none⟩ (.int .i64 x.high)).setCell ⟨B, 10, none⟩ (.int .i64 x.pieces)).setCell ⟨B, 11, none⟩ (.int .i64 x.owner)).setCell ⟨B, 12, none⟩ (.int .i64 x.count)).setCell ⟨B, 13, none⟩ (.int .i64 x.of)) = wf at *
      have gb' : BoxG wf B (Pa.vals x) := g1
      obtain ⟨c0, c1, c2, c3, c4, c5, c6, c7, c8, c9, c10, c11, c12, c13⟩ := BoxG.pa gb'
      have rl := gb'.1
      clear g1 gb'
      exact bodyPost_ret (by simp [results, Tryz.results17, go_sem, c0, c1, c2, c3, c4, c5, c6, c7, c8, c9, c10, c11, c12, c13, rl]) rfl (show ReadPost w l (.returned (.tuple #[.agg #[.int .i64 x.id, .int .i64 x.known, .int .u8 x.kind, .int .i64 x.loss, .int .i64 x.pack, .int .i64 x.inn, .string ⟨x.mark.toArray⟩, .string ⟨x.goods.toArray⟩, .int .i64 x.low, .int .i64 x.high, .int .i64 x.pieces, .int .i64 x.owner, .int .i64 x.count, .int .i64 x.of], .int .i64 0])) wf from ⟨HBf.out, _, rfl, by rw [HV.out]; rfl⟩)
set_option maxRecDepth 100000 in
set_option maxHeartbeats 16000000 in
theorem rread_no (l : List UInt8) (hl : l.length ≤ 1000) (w : World) (hlen0 : ¬ ((spl l).length = 4 ∨ (spl l).length = 8 ∨ (spl l).length = 12)) :
    Calls Tryz.prog 17 #[.string ⟨l.toArray⟩] w (ReadPost w l) := by
  have hB0 := al' (Below.refl w.heap.size w) (.cells #[.int .i64 0, .int .i64 0, .int .u8 0, .int .i64 0, .int .i64 0, .int .i64 0, .string ⟨#[]⟩, .string ⟨#[]⟩, .int .i64 0, .int .i64 0, .int .i64 0, .int .i64 0, .int .i64 0, .int .i64 0] 28)
  have hb := BoxG.made w pa0.vals 28
  simp only [Pa.vals, pa0] at hb
  have HB0 := Lib.hid hB0
  have Hb := Lib.hid hb
  clear hB0 hb
  go_enter Tryz.func17, Tryz.ntmps17
  go_upto_region 1 with (fail)
  generalize w.alloc (.cells #[.int .i64 0, .int .i64 0, .int .u8 0, .int .i64 0, .int .i64 0, .int .i64 0, .string ⟨#[]⟩, .string ⟨#[]⟩, .int .i64 0, .int .i64 0, .int .i64 0, .int .i64 0, .int .i64 0, .int .i64 0] 28) = w1 at *
  obtain ⟨B, hBe⟩ : ∃ B, w.heap.size = B := ⟨_, rfl⟩
  have HBe := Lib.hid hBe
  rw [hBe] at Hb ⊢
  clear hBe
  go_upto_region 2 with (go_at_call 62; refine (words_r l hl _).mono ?_; rintro e w2 ⟨a, c, rfl, hrd, hB2⟩)
  have Hrd := Lib.hid hrd
  have Hb2 := Lib.hid (show BoxG w2 B pa0.vals from Hb.out.below' hB2)
  have HB2 := Lib.hid (below_on HB0.out hB2 (Nat.le_refl _))
  clear hrd hB2 Hb HB0
  obtain ⟨n, hn⟩ : ∃ n, (spl l).length = n := ⟨_, rfl⟩
  have Hn := Lib.hid hn
  rw [hn] at Hrd ⊢
  clear hn
  have hlen : ¬ (n = 4 ∨ n = 8 ∨ n = 12) := by rw [← Hn.out]; exact hlen0
  clear hlen0
  have g4 : ((n : Int) != 4) = true := by simp; omega
  have g8 : ((n : Int) != 8) = true := by simp; omega
  have g12 : ((n : Int) != 12) = true := by simp; omega
  have HV := Lib.hid (readV_none (paR_none (by rw [Hn.out]; exact hlen)))
  clear hlen Hrd Hn
  obtain ⟨c0, c1, c2, c3, c4, c5, c6, c7, c8, c9, c10, c11, c12, c13⟩ := Hb2.out.pa
  dsimp only [pa0] at c0 c1 c2 c3 c4 c5 c6 c7 c8 c9 c10 c11 c12 c13
  have bf := Hb2.out.2.1
  have bl := Hb2.out.1
  go_wp2_with fail
  have hb2' : BoxG w2 B [.int .i64 0, .int .i64 0, .int .u8 0, .int .i64 0, .int .i64 0, .int .i64 0, .string ⟨#[]⟩, .string ⟨#[]⟩, .int .i64 0, .int .i64 0, .int .i64 0, .int .i64 0, .int .i64 0, .int .i64 0] := Hb2.out
  obtain ⟨g1, k1⟩ := hb2'.all14 (.int .i64 0) (.int .i64 0) (.int .u8 0) (.int .i64 0) (.int .i64 0) (.int .i64 0) (.string ⟨#[]⟩) (.string ⟨#[]⟩) (.int .i64 0) (.int .i64 0) (.int .i64 0) (.int .i64 0) (.int .i64 0) (.int .i64 0)
  have HBf := Lib.hid (k1.below_then HB2.out (fun y hy => by have := HBe.out; have := List.mem_singleton.1 hy; omega) (Nat.le_refl _))
  clear c0 c1 c2 c3 c4 c5 c6 c7 c8 c9 c10 c11 c12 c13 bf bl hb2' k1
  generalize ((((((((((((((w2.setCell ⟨B, 0, none⟩ (.int .i64 0)).setCell ⟨B, 1, none⟩ (.int .i64 0)).setCell ⟨B, 2, none⟩ (.int .u8 0)).setCell ⟨B, 3, none⟩ (.int .i64 0)).setCell ⟨B, 4, none⟩ (.int .i64 0)).setCell ⟨B, 5, none⟩ (.int .i64 0)).setCell ⟨B, 6, none⟩ (.string ⟨#[]⟩)).setCell ⟨B, 7, none⟩ (.string ⟨#[]⟩)).setCell ⟨B, 8, none⟩ (.int .i64 0)).setCell ⟨B, 9, none⟩ (.int .i64 0)).setCell ⟨B, 10, none⟩ (.int .i64 0)).setCell ⟨B, 11, none⟩ (.int .i64 0)).setCell ⟨B, 12, none⟩ (.int .i64 0)).setCell ⟨B, 13, none⟩ (.int .i64 0)) = wf at *
  have gb' : BoxG wf B pa0.vals := g1
  obtain ⟨c0, c1, c2, c3, c4, c5, c6, c7, c8, c9, c10, c11, c12, c13⟩ := BoxG.pa gb'
  have rl := gb'.1
  clear g1 gb'
  exact bodyPost_ret (by simp [results, Tryz.results17, go_sem, c0, c1, c2, c3, c4, c5, c6, c7, c8, c9, c10, c11, c12, c13, rl]) rfl (show ReadPost w l (.returned (.tuple #[.agg #[.int .i64 pa0.id, .int .i64 pa0.known, .int .u8 pa0.kind, .int .i64 pa0.loss, .int .i64 pa0.pack, .int .i64 pa0.inn, .string ⟨pa0.mark.toArray⟩, .string ⟨pa0.goods.toArray⟩, .int .i64 pa0.low, .int .i64 pa0.high, .int .i64 pa0.pieces, .int .i64 pa0.owner, .int .i64 pa0.count, .int .i64 pa0.of], .int .i64 4])) wf from ⟨HBf.out, _, rfl, by rw [HV.out]; rfl⟩)
theorem rread_any (l : List UInt8) (hl : l.length ≤ 1000) (w : World) : Calls Tryz.prog 17 #[.string ⟨l.toArray⟩] w (ReadPost w l) := by
  by_cases h4 : (spl l).length = 4
  · exact rread_4 l hl w h4
  by_cases h8 : (spl l).length = 8
  · exact rread_8 l hl w h8
  by_cases h12 : (spl l).length = 12
  · exact rread_12 l hl w h12
  exact rread_no l hl w (by omega)
end Go.Proofs.YtpgojnofdgibeaaGreatDoor
