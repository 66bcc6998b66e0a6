/- The walk of the reference's Read. -/
import Derived.Test.YtjleembfocghlaaGreatDoorNumber
import Derived.Test.YtjleembfocghlaaGreatDoorRCut
import Derived.Deep.RegionHeld3
import Derived.Deep.Cut
set_option linter.unusedSimpArgs false
set_option linter.unusedVariables false
namespace Go.Proofs.YtjleembfocghlaaGreatDoor
open Go.RowKit

theorem ext_is (l : List UInt8) (f k : Nat) : (⟨l.toArray⟩ : ByteArray).extract f k = ⟨((l.take k).drop f).toArray⟩ := by
  apply ByteArray.ext
  rw [ByteArray.data_extract]
  simp [List.extract_eq_take_drop, List.drop_take]
theorem own_str_next {w : World} {t : TypeId} {base : Nat} {v : Value} {ws : List (List UInt8)} {x : List UInt8} (h : w.ownsRow base t 1 v (ws.length + 1) (ws.flatMap strs ++ strs x)) : w.ownsRow base t 1 v (ws ++ [x]).length ((ws ++ [x]).flatMap strs) := by
  rw [List.length_append, List.flatMap_append]
  simpa using h
theorem own_int_next {w : World} {t : TypeId} {base : Nat} {v : Value} {ws : List Int} {x : Int} (h : w.ownsRow base t 1 v (ws.length + 1) (ws.flatMap ints ++ ints x)) : w.ownsRow base t 1 v (ws ++ [x]).length ((ws ++ [x]).flatMap ints) := by
  rw [List.length_append, List.flatMap_append]
  simpa using h
theorem own_ints {w : World} {t : TypeId} {base n : Nat} {v : Value} {xs : List Int} (h : w.ownsRow base t 1 v n (xs.flatMap ints)) (hn : 0 < n) :
    ∃ g cap, v = .slice (some ⟨g, 0, none⟩) n cap ∧ n ≤ cap ∧ g < w.heap.size ∧ ∀ j x, xs[j]? = some x → w.cell? ⟨g, j, none⟩ = some (.int .i64 x) := by
  have h0 := h
  rcases h.2 with ⟨rfl, rfl⟩ | ⟨g, cap, cur, rfl, hb, hg, hc, _, hs, ht⟩
  · omega
  · refine ⟨g, cap, rfl, hc, (Array.getElem?_eq_some_iff.1 hg).1, fun j x hx => ?_⟩
    have h1 := flat_at ints_length xs j x 0 hx (by decide)
    have := h0.cells (g := g) rfl (j * 1 + 0) (.int .i64 x) (by rw [h1]; rfl)
    rw [Addr.add_lit] at this
    simpa using this
theorem off1 {w : World} {B i g j : Nat} {u v : Value} (h : w.cell? ⟨g, j, none⟩ = some u) (hn : g < B) : (w.setCell ⟨B, i, none⟩ v).cell? ⟨g, j, none⟩ = some u := by
  rw [World.cell?_setCell_other _ _ _ _ (fun e => by have := congrArg Addr.block e; simp only at this; omega)]; exact h
theorem cell_drew' (w : World) (a : Addr) : w.drew.cell? a = w.cell? a := rfl
theorem off8 {w : World} {B g k : Nat} {u : Value} (h : w.cell? ⟨g, k, none⟩ = some u) (hn : g < B) (a b c d e f i j : Value) : ((((((((w.setCell ⟨B, 0, none⟩ a).setCell ⟨B, 1, none⟩ b).setCell ⟨B, 2, none⟩ c).setCell ⟨B, 3, none⟩ d).setCell ⟨B, 4, none⟩ e).setCell ⟨B, 5, none⟩ f).setCell ⟨B, 6, none⟩ i).setCell ⟨B, 7, none⟩ j).cell? ⟨g, k, none⟩ = some u := by
  have h0 := off1 (i := 0) (v := a) h hn
  have h1 := off1 (i := 1) (v := b) h0 hn
  have h2 := off1 (i := 2) (v := c) h1 hn
  have h3 := off1 (i := 3) (v := d) h2 hn
  have h4 := off1 (i := 4) (v := e) h3 hn
  have h5 := off1 (i := 5) (v := f) h4 hn
  have h6 := off1 (i := 6) (v := i) h5 hn
  have h7 := off1 (i := 7) (v := j) h6 hn
  exact h7
theorem off8d {w : World} {B g k : Nat} {u : Value} (h : w.cell? ⟨g, k, none⟩ = some u) (hn : g < B) (a b c d e f i j : Value) : ((((((((w.setCell ⟨B, 0, none⟩ a).setCell ⟨B, 1, none⟩ b).setCell ⟨B, 2, none⟩ c).setCell ⟨B, 3, none⟩ d).setCell ⟨B, 4, none⟩ e).setCell ⟨B, 5, none⟩ f).setCell ⟨B, 6, none⟩ i).setCell ⟨B, 7, none⟩ j).drew.cell? ⟨g, k, none⟩ = some u := by
  have h0 := off1 (i := 0) (v := a) h hn
  have h1 := off1 (i := 1) (v := b) h0 hn
  have h2 := off1 (i := 2) (v := c) h1 hn
  have h3 := off1 (i := 3) (v := d) h2 hn
  have h4 := off1 (i := 4) (v := e) h3 hn
  have h5 := off1 (i := 5) (v := f) h4 hn
  have h6 := off1 (i := 6) (v := i) h5 hn
  have h7 := off1 (i := 7) (v := j) h6 hn
  rw [cell_drew']
  exact h7
theorem BoxF.aside1 {w : World} {A B : Nat} {q : Po} (h : BoxF w A q) (hn : A < B) (i : Nat) (v : Value) : BoxF (w.setCell ⟨B, i, none⟩ v) A q :=
  ⟨⟨by have := h.1.1; simpa [World.setCell] using this, fun j hj => by
    rw [World.cell?_setCell_other _ _ _ _ (fun e => by have := congrArg Addr.block e; simp only at this; omega)]; exact h.1.2 j hj⟩, fun j => by rw [World.frozen?_setCell]; exact h.2 j⟩
theorem BoxF.aside8 {w : World} {A B : Nat} {q : Po} (h : BoxF w A q) (hn : A < B) (P : Po) : BoxF (put8 w B P) A q := by
  unfold put8
  have h0 := BoxF.aside1 h hn 0 (.int .i64 P.id)
  have h1 := BoxF.aside1 h0 hn 1 (.int .i64 P.hour)
  have h2 := BoxF.aside1 h1 hn 2 (.int .u8 P.kind)
  have h3 := BoxF.aside1 h2 hn 3 (.int .i64 P.party)
  have h4 := BoxF.aside1 h3 hn 4 (.int .i64 P.parcel)
  have h5 := BoxF.aside1 h4 hn 5 (.int .i64 P.amount)
  have h6 := BoxF.aside1 h5 hn 6 (.int .i64 P.reason)
  exact BoxF.aside1 h6 hn 7 (.int .i64 P.known)
theorem BoxF.set2 {w : World} {B : Nat} {a b c d e f g h : Int} (hb : BoxF w B ⟨a, b, c, d, e, f, g, h⟩) (v : Int) : BoxF (w.setCell ⟨B, 2, none⟩ (.int .u8 v)) B ⟨a, b, v, d, e, f, g, h⟩ := by
  obtain ⟨c0, c1, c2, c3, c4, c5, c6, c7⟩ := hb.1.cells
  refine ⟨⟨by simpa [World.setCell] using hb.1.1, fun j hj => ?_⟩, fun j => by rw [World.frozen?_setCell]; exact hb.2 j⟩
  have h' : j = 0 ∨ j = 1 ∨ j = 2 ∨ j = 3 ∨ j = 4 ∨ j = 5 ∨ j = 6 ∨ j = 7 := by omega
  rcases h' with rfl | rfl | rfl | rfl | rfl | rfl | rfl | rfl
  · exact cell_off c0 (by decide)
  · exact cell_off c1 (by decide)
  · exact cell_on c2
  · exact cell_off c3 (by decide)
  · exact cell_off c4 (by decide)
  · exact cell_off c5 (by decide)
  · exact cell_off c6 (by decide)
  · exact cell_off c7 (by decide)
theorem keep6 {W W' : World} {a0 a1 a2 a3 a4 a5 : Addr} {u0 u1 u2 u3 u4 u5 : Value} (h : W.cell? a0 = some u0 ∧ W.cell? a1 = some u1 ∧ W.cell? a2 = some u2 ∧ W.cell? a3 = some u3 ∧ W.cell? a4 = some u4 ∧ W.cell? a5 = some u5) (hB : Below W.heap.size W W') : W'.cell? a0 = some u0 ∧ W'.cell? a1 = some u1 ∧ W'.cell? a2 = some u2 ∧ W'.cell? a3 = some u3 ∧ W'.cell? a4 = some u4 ∧ W'.cell? a5 = some u5 := by
  obtain ⟨h0, h1, h2, h3, h4, h5⟩ := h
  exact ⟨cell_stays h0 hB, cell_stays h1 hB, cell_stays h2 hB, cell_stays h3 hB, cell_stays h4 hB, cell_stays h5 hB⟩
theorem keep7 {W W' : World} {a0 a1 a2 a3 a4 a5 a6 : Addr} {u0 u1 u2 u3 u4 u5 u6 : Value} (h : W.cell? a0 = some u0 ∧ W.cell? a1 = some u1 ∧ W.cell? a2 = some u2 ∧ W.cell? a3 = some u3 ∧ W.cell? a4 = some u4 ∧ W.cell? a5 = some u5 ∧ W.cell? a6 = some u6) (hB : Below W.heap.size W W') : W'.cell? a0 = some u0 ∧ W'.cell? a1 = some u1 ∧ W'.cell? a2 = some u2 ∧ W'.cell? a3 = some u3 ∧ W'.cell? a4 = some u4 ∧ W'.cell? a5 = some u5 ∧ W'.cell? a6 = some u6 := by
  obtain ⟨h0, h1, h2, h3, h4, h5, h6⟩ := h
  exact ⟨cell_stays h0 hB, cell_stays h1 hB, cell_stays h2 hB, cell_stays h3 hB, cell_stays h4 hB, cell_stays h5 hB, cell_stays h6 hB⟩
set_option maxRecDepth 100000 in
set_option maxHeartbeats 4000000 in
theorem rread_any (l : List UInt8) (hl : l.length ≤ 1000) (w : World) :
    Calls Tryz.prog 8 #[.string ⟨l.toArray⟩] w (ReadPost w (readL l)) := by
  obtain ⟨i0, hi0, hz0, hz1, hz2⟩ := info_parts info_str
  obtain ⟨j0, hj0, hy0, hy1, hy2⟩ := info_parts info_int
  go_enter Tryz.func8, Tryz.ntmps8
  go_upto_region 1 with (fail)
  have bx := BoxF.made w po0 23
  have hb := (Below.refl w.heap.size w).alloc (Nat.le_refl _) (.cells #[.int .i64 0, .int .i64 0, .int .u8 0, .int .i64 0, .int .i64 0, .int .i64 0, .int .i64 0, .int .i64 0] 23)
  simp only [po0] at bx
  generalize hw1 : w.alloc (.cells #[.int .i64 0, .int .i64 0, .int .u8 0, .int .i64 0, .int .i64 0, .int .i64 0, .int .i64 0, .int .i64 0] 23) = w1 at *
  have HB1 := Lib.hid hb
  have HX1 := Lib.hid bx
  clear hw1 hb bx
  go_wp2_with fail
  go_loopw [4, 5, 6] (fun v fr i wr => ∃ (k f : Nat) (ws : List (List UInt8)), i = .int .i64 k ∧ fr = .int .i64 f ∧ cutInv l k f ws ∧ wr.ownsRow w1.heap.size 9 1 v ws.length (ws.flatMap strs) ∧ Below w1.heap.size w1 wr) (fun _ _ i _ => l.length + 1 - (intOf i).toNat)
  case atStart => exact ⟨0, 0, [], rfl, rfl, cutInv_0 l, World.ownsRow_nil _ _ _ _, Below.refl _ _⟩
  case round =>
    obtain ⟨k, f, ws, rfl, rfl, hI, hrow, hB⟩ := hrel
    have hfk := hI.1
    have hkl := cutInv_le hI
    have hwk := hI.2.1
    have HI := Lib.hid hI
    have HR := Lib.hid hrow
    have HB := Lib.hid hB
    clear hI hrow hB
    by_cases hk : k ≤ l.length
    · have hk' : (k : Int) ≤ (l.length : Int) := by omega
      by_cases he : k = l.length
      · have e1 : ((k : Int) == (l.length : Int)) = true := by simp [he]
        have HK := Lib.hid (cutInv_end HI.out he)
        obtain ⟨x, hxd⟩ : ∃ x, (l.take k).drop f = x := ⟨_, rfl⟩
        have hx := ext_is l f k
        rw [hxd] at hx
        have HK := Lib.hid (cutInv_end HI.out he)
        rw [hxd] at HK
        clear hxd he
        go_wp2_with (at_builtin; go_loud (refine wpList_append_own _ rfl _ _ 53 rfl w1.heap.size 9 i0 _ 1 16 Tryz.underlying53 hi0 hz0 hz1 hz2 rfl (by decide) _ _ _ rfl (HR.out.alloc _) ⟨wr.heap.size, 0, none⟩ 1 1 (strs x) rfl rfl (cell_one_new _ _ _) (by simp [strs, Value.oneCell']) (by unfold maxLen; omega) (by omega) (Nat.le_trans HB.out.size (by simp)) ?_; intro v2 w2 hown2 hgrow2 _))
        have HB2 := Lib.hid ((HB.out.alloc HB.out.size (.cells #[.string ⟨x.toArray⟩] 9)).grown hgrow2 (Nat.le_trans HB.out.size (by simp)) (fun k e => (HR.out.lt k e).1))
        have HO2 := Lib.hid (own_str_next hown2)
        clear hgrow2 hown2 hx
        go_wp2_with fail
        exact ⟨⟨k + 1, k + 1, _, by go_num, by go_num, HK.out, HO2.out, HB2.out⟩, by simp [intOf]; omega⟩
      · have hlt : k < l.length := by omega
        have hlt' : (k : Int) < (l.length : Int) := by omega
        have e1 : ((k : Int) == (l.length : Int)) = false := by simp; omega
        obtain ⟨c, hc⟩ : ∃ c, l[k]? = some c := ⟨_, List.getElem?_eq_getElem hlt⟩
        by_cases h32 : c = 32
        · subst h32
          have hi : ∀ h, (⟨l.toArray⟩ : ByteArray)[k]'h = 32 := fun h => (List.getElem?_eq_some_iff.1 hc).2
          obtain ⟨x, hxd⟩ : ∃ x, (l.take k).drop f = x := ⟨_, rfl⟩
          have hx := ext_is l f k
          rw [hxd] at hx
          have HK := Lib.hid (cutInv_sp HI.out hc)
          rw [hxd] at HK
          clear hxd he hc
          go_wp2_with (at_builtin; go_loud (refine wpList_append_own _ rfl _ _ 53 rfl w1.heap.size 9 i0 _ 1 16 Tryz.underlying53 hi0 hz0 hz1 hz2 rfl (by decide) _ _ _ rfl (HR.out.alloc _) ⟨wr.heap.size, 0, none⟩ 1 1 (strs x) rfl rfl (cell_one_new _ _ _) (by simp [strs, Value.oneCell']) (by unfold maxLen; omega) (by omega) (Nat.le_trans HB.out.size (by simp)) ?_; intro v2 w2 hown2 hgrow2 _))
          have HB2 := Lib.hid ((HB.out.alloc HB.out.size (.cells #[.string ⟨x.toArray⟩] 9)).grown hgrow2 (Nat.le_trans HB.out.size (by simp)) (fun k e => (HR.out.lt k e).1))
          have HO2 := Lib.hid (own_str_next hown2)
          clear hgrow2 hown2 hx
          go_wp2_with fail
          exact ⟨⟨k + 1, k + 1, _, by go_num, by go_num, HK.out, HO2.out, HB2.out⟩, by simp [intOf]; omega⟩
        · have HK := Lib.hid (cutInv_on HI.out hc h32)
          have hi : ∀ h, (⟨l.toArray⟩ : ByteArray)[k]'h = c := fun h => (List.getElem?_eq_some_iff.1 hc).2
          have hc2 : ((c.toNat : Int) == 32) = false := by
            have : ¬ c.toNat = 32 := fun e => h32 (UInt8.toNat_inj.1 (by rw [e]; rfl))
            simp; omega
          clear he hc h32
          go_wp2_with fail
          exact ⟨⟨k + 1, f, ws, by go_num, by go_num, HK.out, HR.out, HB.out⟩, by simp [intOf]; omega⟩
    · have hkg : ¬ (k : Int) ≤ (l.length : Int) := by omega
      have HWS := Lib.hid (cutInv_done HI.out hk)
      obtain ⟨a, cap, rfl, hcap, hrd, hblk⟩ := Rd.of_own HR.out strs_length (by decide) rfl (by unfold maxLen; omega)
      obtain ⟨n, hn⟩ : ∃ n, ws.length = n := ⟨_, rfl⟩
      rw [hn] at hrd hcap ⊢
      have HX := Lib.hid (HX1.out.below' HB.out)
      have HB2 := Lib.hid (below_on HB1.out HB.out (Nat.le_refl _))
      have HRD := Lib.hid hrd
      have HBL := Lib.hid hblk
      have HN := Lib.hid hn
      have hnl : n ≤ 1001 := by omega
      clear hrd hblk hn hk HI HR HX1
      by_cases h7 : n < 7
      · have h7' : (n : Int) < 7 := by omega
        have HE := Lib.hid (show readL l = (po0, 4) from by rw [← ans_same, ← HWS.out, paB_none ws (by rw [HN.out]; omega)]; rfl)
        obtain ⟨c0, c1, c2, c3, c4', c5, c6, c7, f0, f1, f2, f3, f4, f5, f6, f7⟩ := HX.out.all
        dsimp only at c0 c1 c2 c3 c4' c5 c6 c7
        go_wp2_with fail
        clear c0 c1 c2 c3 c4' c5 c6 c7 f0 f1 f2 f3 f4 f5 f6 f7
        have HY := And.intro (HX.out.put po0).1 (put8_below HB2.out (Nat.le_refl _) po0)
        simp only [put8, po0] at HY
        generalize ((((((((wr.setCell ⟨w.heap.size, 0, none⟩ (.int .i64 0)).setCell ⟨w.heap.size, 1, none⟩ (.int .i64 0)).setCell ⟨w.heap.size, 2, none⟩ (.int .u8 0)).setCell ⟨w.heap.size, 3, none⟩ (.int .i64 0)).setCell ⟨w.heap.size, 4, none⟩ (.int .i64 0)).setCell ⟨w.heap.size, 5, none⟩ (.int .i64 0)).setCell ⟨w.heap.size, 6, none⟩ (.int .i64 0)).setCell ⟨w.heap.size, 7, none⟩ (.int .i64 0)) = W3 at *
        obtain ⟨HY, HBY⟩ := HY
        have zl3 := HY.1
        obtain ⟨r0, r1, r2, r3, r4, r5, r6, r7⟩ := HY.cells
        dsimp only at r0 r1 r2 r3 r4 r5 r6 r7
        have Hres := Lib.hid HBY
        clear HBY HY
        refine bodyPost_ret (v := .tuple #[.agg #[.int .i64 0, .int .i64 0, .int .u8 0, .int .i64 0, .int .i64 0, .int .i64 0, .int .i64 0, .int .i64 0], .int .i64 4]) (by simp [results, Tryz.results8, go_sem, zl3, r0, r1, r2, r3, r4, r5, r6, r7]) rfl ⟨?_, Hres.out⟩
        rw [HE.out]; rfl
      have h7' : ¬ (n : Int) < 7 := by omega
      by_cases h8 : 8 < n
      · have h8' : (8 : Int) < (n : Int) := by omega
        have HE := Lib.hid (show readL l = (po0, 4) from by rw [← ans_same, ← HWS.out, paB_none ws (by rw [HN.out]; omega)]; rfl)
        obtain ⟨c0, c1, c2, c3, c4', c5, c6, c7, f0, f1, f2, f3, f4, f5, f6, f7⟩ := HX.out.all
        dsimp only at c0 c1 c2 c3 c4' c5 c6 c7
        go_wp2_with fail
        clear c0 c1 c2 c3 c4' c5 c6 c7 f0 f1 f2 f3 f4 f5 f6 f7
        have HY := And.intro (HX.out.put po0).1 (put8_below HB2.out (Nat.le_refl _) po0)
        simp only [put8, po0] at HY
        generalize ((((((((wr.setCell ⟨w.heap.size, 0, none⟩ (.int .i64 0)).setCell ⟨w.heap.size, 1, none⟩ (.int .i64 0)).setCell ⟨w.heap.size, 2, none⟩ (.int .u8 0)).setCell ⟨w.heap.size, 3, none⟩ (.int .i64 0)).setCell ⟨w.heap.size, 4, none⟩ (.int .i64 0)).setCell ⟨w.heap.size, 5, none⟩ (.int .i64 0)).setCell ⟨w.heap.size, 6, none⟩ (.int .i64 0)).setCell ⟨w.heap.size, 7, none⟩ (.int .i64 0)) = W3 at *
        obtain ⟨HY, HBY⟩ := HY
        have zl3 := HY.1
        obtain ⟨r0, r1, r2, r3, r4, r5, r6, r7⟩ := HY.cells
        dsimp only at r0 r1 r2 r3 r4 r5 r6 r7
        have Hres := Lib.hid HBY
        clear HBY HY
        refine bodyPost_ret (v := .tuple #[.agg #[.int .i64 0, .int .i64 0, .int .u8 0, .int .i64 0, .int .i64 0, .int .i64 0, .int .i64 0, .int .i64 0], .int .i64 4]) (by simp [results, Tryz.results8, go_sem, zl3, r0, r1, r2, r3, r4, r5, r6, r7]) rfl ⟨?_, Hres.out⟩
        rw [HE.out]; rfl
      have h8' : ¬ (8 : Int) < (n : Int) := by omega
      rename World => W0
      go_wp2_with fail
      go_loopw [7, 8] (fun v i ws2 => ∃ k : Nat, k ≤ n ∧ i = .int .i64 k ∧ (∀ x ∈ nums ws k, okW x = true) ∧ ws2.ownsRow W0.heap.size 3 1 v ((nums ws k).map valL).length (((nums ws k).map valL).flatMap ints) ∧ Below W0.heap.size W0 ws2) (fun _ i _ => n - (intOf i).toNat)
      case atStart => exact ⟨0, Nat.zero_le _, rfl, by simp [nums], World.ownsRow_nil _ _ _ _, Below.refl _ _⟩
      case round =>
        obtain ⟨m, hm, rfl, hok, hrow, hB⟩ := hrel
        have HO := Lib.hid hok
        have HRW := Lib.hid hrow
        have HBW := Lib.hid hB
        have HX3 := Lib.hid (HX.out.below' hB)
        have HB3 := Lib.hid (below_on HB2.out hB (Nat.le_refl _))
        have HRD3 := Lib.hid (HRD.out.below' hB)
        clear hok hrow hB
        by_cases hlt : m < n
        · have hlt' : (m : Int) < (n : Int) := by omega
          have h2' := HRD3.out.str hlt
          obtain ⟨b, off, x, rfl, hb, hx, x0⟩ := h2'
          by_cases h2 : m = 2
          · subst h2
            have HK := Lib.hid (nums_two hx)
            clear hx x0 hb
            go_wp2_with fail
            exact ⟨⟨3, by omega, by go_num, by rw [HK.out]; exact HO.out, by rw [HK.out]; exact HRW.out, HBW.out⟩, by simp [intOf]; omega⟩
          have e2 : ((m : Int) == 2) = false := by simp; omega
          have HNO := Lib.hid (nums_on h2 hx)
          have HBAD := Lib.hid (fun h : ¬ okW x = true => show readL l = (po0, 4) from by rw [← ans_same, ← HWS.out, paB_bad h2 hx h]; rfl)
          clear hx h2
          by_cases l1 : x.length < 1
          · have l1' : (x.length : Int) < 1 := by omega
            have HE := Lib.hid (HBAD.out (fun h => by have := (okW_is h).1; omega))
            obtain ⟨c0, c1, c2, c3, c4', c5, c6, c7, f0, f1, f2, f3, f4, f5, f6, f7⟩ := HX3.out.all
            dsimp only at c0 c1 c2 c3 c4' c5 c6 c7
            go_wp2_with fail
            clear c0 c1 c2 c3 c4' c5 c6 c7 f0 f1 f2 f3 f4 f5 f6 f7
            have HY := And.intro (HX3.out.put po0).1 (put8_below HB3.out (Nat.le_refl _) po0)
            simp only [put8, po0] at HY
            generalize ((((((((wr.setCell ⟨w.heap.size, 0, none⟩ (.int .i64 0)).setCell ⟨w.heap.size, 1, none⟩ (.int .i64 0)).setCell ⟨w.heap.size, 2, none⟩ (.int .u8 0)).setCell ⟨w.heap.size, 3, none⟩ (.int .i64 0)).setCell ⟨w.heap.size, 4, none⟩ (.int .i64 0)).setCell ⟨w.heap.size, 5, none⟩ (.int .i64 0)).setCell ⟨w.heap.size, 6, none⟩ (.int .i64 0)).setCell ⟨w.heap.size, 7, none⟩ (.int .i64 0)) = W3 at *
            obtain ⟨HY, HBY⟩ := HY
            have zl3 := HY.1
            obtain ⟨r0, r1, r2, r3, r4, r5, r6, r7⟩ := HY.cells
            dsimp only at r0 r1 r2 r3 r4 r5 r6 r7
            have Hres := Lib.hid HBY
            clear HBY HY
            refine bodyPost_ret (v := .tuple #[.agg #[.int .i64 0, .int .i64 0, .int .u8 0, .int .i64 0, .int .i64 0, .int .i64 0, .int .i64 0, .int .i64 0], .int .i64 4]) (by simp [results, Tryz.results8, go_sem, zl3, r0, r1, r2, r3, r4, r5, r6, r7]) rfl ⟨?_, Hres.out⟩
            rw [HE.out]; rfl
          have l1' : ¬ (x.length : Int) < 1 := by omega
          by_cases l2 : 10 < x.length
          · have l2' : (10 : Int) < (x.length : Int) := by omega
            have HE := Lib.hid (HBAD.out (fun h => by have := (okW_is h).2.1; omega))
            obtain ⟨c0, c1, c2, c3, c4', c5, c6, c7, f0, f1, f2, f3, f4, f5, f6, f7⟩ := HX3.out.all
            dsimp only at c0 c1 c2 c3 c4' c5 c6 c7
            go_wp2_with fail
            clear c0 c1 c2 c3 c4' c5 c6 c7 f0 f1 f2 f3 f4 f5 f6 f7
            have HY := And.intro (HX3.out.put po0).1 (put8_below HB3.out (Nat.le_refl _) po0)
            simp only [put8, po0] at HY
            generalize ((((((((wr.setCell ⟨w.heap.size, 0, none⟩ (.int .i64 0)).setCell ⟨w.heap.size, 1, none⟩ (.int .i64 0)).setCell ⟨w.heap.size, 2, none⟩ (.int .u8 0)).setCell ⟨w.heap.size, 3, none⟩ (.int .i64 0)).setCell ⟨w.heap.size, 4, none⟩ (.int .i64 0)).setCell ⟨w.heap.size, 5, none⟩ (.int .i64 0)).setCell ⟨w.heap.size, 6, none⟩ (.int .i64 0)).setCell ⟨w.heap.size, 7, none⟩ (.int .i64 0)) = W3 at *
            obtain ⟨HY, HBY⟩ := HY
            have zl3 := HY.1
            obtain ⟨r0, r1, r2, r3, r4, r5, r6, r7⟩ := HY.cells
            dsimp only at r0 r1 r2 r3 r4 r5 r6 r7
            have Hres := Lib.hid HBY
            clear HBY HY
            refine bodyPost_ret (v := .tuple #[.agg #[.int .i64 0, .int .i64 0, .int .u8 0, .int .i64 0, .int .i64 0, .int .i64 0, .int .i64 0, .int .i64 0], .int .i64 4]) (by simp [results, Tryz.results8, go_sem, zl3, r0, r1, r2, r3, r4, r5, r6, r7]) rfl ⟨?_, Hres.out⟩
            rw [HE.out]; rfl
          have l2' : ¬ (10 : Int) < (x.length : Int) := by omega
          rename World => W1
          go_wp2_with fail
          go_loopw [9, 10] (fun xv jv wz => ∃ j : Nat, j ≤ x.length ∧ jv = .int .i64 j ∧ xv = .int .i64 (valL (x.take j)) ∧ digW (x.take j) ∧ wz = W1) (fun _ jv _ => x.length - (intOf jv).toNat)
          case atStart => exact ⟨0, Nat.zero_le _, rfl, rfl, (fun c hc => by simp at hc), rfl⟩
          case round =>
            obtain ⟨j, hj, rfl, rfl, hd, rfl⟩ := hrel
            have HD := Lib.hid hd
            clear hd
            by_cases hjl : j < x.length
            · have hjl' : (j : Int) < (x.length : Int) := by omega
              obtain ⟨c, hc⟩ : ∃ c, x[j]? = some c := ⟨_, List.getElem?_eq_getElem hjl⟩
              have hi : ∀ h, (⟨x.toArray⟩ : ByteArray)[j]'h = c := fun h => (List.getElem?_eq_some_iff.1 hc).2
              by_cases d1 : c.toNat < 48
              · have d1' : (c.toNat : Int) < 48 := by omega
                have HE := Lib.hid (HBAD.out (digW_not hc (.inl d1)))
                clear hc d1
                obtain ⟨c0, c1, c2, c3, c4', c5, c6, c7, f0, f1, f2, f3, f4, f5, f6, f7⟩ := HX3.out.all
                dsimp only at c0 c1 c2 c3 c4' c5 c6 c7
                go_wp2_with fail
                clear c0 c1 c2 c3 c4' c5 c6 c7 f0 f1 f2 f3 f4 f5 f6 f7
                have HY := And.intro (HX3.out.put po0).1 (put8_below HB3.out (Nat.le_refl _) po0)
                simp only [put8, po0] at HY
                generalize ((((((((wr.setCell ⟨w.heap.size, 0, none⟩ (.int .i64 0)).setCell ⟨w.heap.size, 1, none⟩ (.int .i64 0)).setCell ⟨w.heap.size, 2, none⟩ (.int .u8 0)).setCell ⟨w.heap.size, 3, none⟩ (.int .i64 0)).setCell ⟨w.heap.size, 4, none⟩ (.int .i64 0)).setCell ⟨w.heap.size, 5, none⟩ (.int .i64 0)).setCell ⟨w.heap.size, 6, none⟩ (.int .i64 0)).setCell ⟨w.heap.size, 7, none⟩ (.int .i64 0)) = W3 at *
                obtain ⟨HY, HBY⟩ := HY
                have zl3 := HY.1
                obtain ⟨r0, r1, r2, r3, r4, r5, r6, r7⟩ := HY.cells
                dsimp only at r0 r1 r2 r3 r4 r5 r6 r7
                have Hres := Lib.hid HBY
                clear HBY HY
                refine bodyPost_ret (v := .tuple #[.agg #[.int .i64 0, .int .i64 0, .int .u8 0, .int .i64 0, .int .i64 0, .int .i64 0, .int .i64 0, .int .i64 0], .int .i64 4]) (by simp [results, Tryz.results8, go_sem, zl3, r0, r1, r2, r3, r4, r5, r6, r7]) rfl ⟨?_, Hres.out⟩
                rw [HE.out]; rfl
              have d1' : ¬ (c.toNat : Int) < 48 := by omega
              by_cases d2 : 57 < c.toNat
              · have d2' : (57 : Int) < (c.toNat : Int) := by omega
                have HE := Lib.hid (HBAD.out (digW_not hc (.inr d2)))
                clear hc d2
                obtain ⟨c0, c1, c2, c3, c4', c5, c6, c7, f0, f1, f2, f3, f4, f5, f6, f7⟩ := HX3.out.all
                dsimp only at c0 c1 c2 c3 c4' c5 c6 c7
                go_wp2_with fail
                clear c0 c1 c2 c3 c4' c5 c6 c7 f0 f1 f2 f3 f4 f5 f6 f7
                have HY := And.intro (HX3.out.put po0).1 (put8_below HB3.out (Nat.le_refl _) po0)
                simp only [put8, po0] at HY
                generalize ((((((((wr.setCell ⟨w.heap.size, 0, none⟩ (.int .i64 0)).setCell ⟨w.heap.size, 1, none⟩ (.int .i64 0)).setCell ⟨w.heap.size, 2, none⟩ (.int .u8 0)).setCell ⟨w.heap.size, 3, none⟩ (.int .i64 0)).setCell ⟨w.heap.size, 4, none⟩ (.int .i64 0)).setCell ⟨w.heap.size, 5, none⟩ (.int .i64 0)).setCell ⟨w.heap.size, 6, none⟩ (.int .i64 0)).setCell ⟨w.heap.size, 7, none⟩ (.int .i64 0)) = W3 at *
                obtain ⟨HY, HBY⟩ := HY
                have zl3 := HY.1
                obtain ⟨r0, r1, r2, r3, r4, r5, r6, r7⟩ := HY.cells
                dsimp only at r0 r1 r2 r3 r4 r5 r6 r7
                have Hres := Lib.hid HBY
                clear HBY HY
                refine bodyPost_ret (v := .tuple #[.agg #[.int .i64 0, .int .i64 0, .int .u8 0, .int .i64 0, .int .i64 0, .int .i64 0, .int .i64 0, .int .i64 0], .int .i64 4]) (by simp [results, Tryz.results8, go_sem, zl3, r0, r1, r2, r3, r4, r5, r6, r7]) rfl ⟨?_, Hres.out⟩
                rw [HE.out]; rfl
              have d2' : ¬ (57 : Int) < (c.toNat : Int) := by omega
              have HDN := Lib.hid (dig_take HD.out hc (by omega))
              have HVN := Lib.hid (show valL (x.take (j + 1)) = 10 * valL (x.take j) + ((c.toNat : Int) - 48) from by rw [take_succ_snoc hc, valL_snoc])
              have hvb := valL_max (x := x.take j) (by rw [List.length_take]; omega) HD.out
              obtain ⟨vj, hvj⟩ : ∃ v, valL (x.take j) = v := ⟨_, rfl⟩
              rw [hvj] at hvb HVN ⊢
              obtain ⟨hv0, hv1⟩ := hvb
              clear hc d1 d2 hvj
              go_wp2_with fail
              exact ⟨⟨j + 1, by omega, by go_num, by rw [HVN.out]; exact congrArg _ (by omega), HDN.out, trivial⟩, by simp [intOf]; omega⟩
            have hjg : ¬ (j : Int) < (x.length : Int) := by omega
            have hjx : x.take j = x := List.take_of_length_le (by omega)
            rw [hjx] at HD ⊢
            obtain ⟨vv, hvv⟩ : ∃ v, valL x = v := ⟨_, rfl⟩
            rw [hvv]
            have HOK := Lib.hid (show ∀ z ∈ nums ws (m + 1), okW z = true from by
              rw [HNO.out]
              intro z hz
              rcases List.mem_append.1 hz with h | h
              · exact HO.out z h
              · rw [List.mem_singleton] at h; subst h; exact okW_of (by omega) (by omega) HD.out)
            have hlk : ((nums ws m).map valL).length ≤ 1000 := by rw [List.length_map]; exact Nat.le_trans (nums_len ws m) (by omega)
            have HVV := Lib.hid (show (nums ws (m + 1)).map valL = (nums ws m).map valL ++ [vv] from by rw [HNO.out, List.map_append, ← hvv]; rfl)
            obtain ⟨NS, hNS⟩ : ∃ N, (nums ws m).map valL = N := ⟨_, rfl⟩
            rw [hNS] at hlk HVV HRW
            clear hjl hjx hvv HD HO HNO HBAD hNS
            go_wp2_with (at_builtin; go_loud (refine wpList_append_own _ rfl _ _ 54 rfl W0.heap.size 3 j0 _ 1 8 Tryz.underlying54 hj0 hy0 hy1 hy2 rfl (by decide) _ _ _ rfl (HRW.out.alloc _) ⟨wr.heap.size, 0, none⟩ 1 1 (ints vv) rfl rfl (cell_one_new _ _ _) (by simp [ints, Value.oneCell']) (by unfold maxLen; omega) (by omega) (Nat.le_trans HBW.out.size (by simp)) ?_; intro v2 w2 hown2 hgrow2 _))
            have HBn := Lib.hid ((HBW.out.alloc HBW.out.size (.cells #[.int .i64 vv] 3)).grown hgrow2 (Nat.le_trans HBW.out.size (by simp)) (fun k e => (HRW.out.lt k e).1))
            have HOn := Lib.hid (own_int_next hown2)
            clear hown2 hgrow2
            go_wp2_with fail
            exact ⟨⟨m + 1, by omega, by go_num, HOK.out, by rw [HVV.out]; exact HOn.out, HBn.out⟩, by simp [intOf]; omega⟩
        have hltg : ¬ (m : Int) < (n : Int) := by omega
        obtain rfl : m = n := by omega
        have h78 : m = 7 ∨ m = 8 := by omega
        clear hlt hcap h7 h8 h7' h8' hnl hm hwk hkl hfk
        rcases h78 with rfl | rfl
        · skip
          obtain ⟨a0, a1, a2, a3, a4, a5, a6, rfl⟩ := list7 HN.out
          obtain ⟨v0, hv0⟩ : ∃ v, valL a0 = v := ⟨_, rfl⟩
          obtain ⟨v1, hv1⟩ : ∃ v, valL a1 = v := ⟨_, rfl⟩
          obtain ⟨v3, hv3⟩ : ∃ v, valL a3 = v := ⟨_, rfl⟩
          obtain ⟨v4, hv4⟩ : ∃ v, valL a4 = v := ⟨_, rfl⟩
          obtain ⟨v5, hv5⟩ : ∃ v, valL a5 = v := ⟨_, rfl⟩
          obtain ⟨v6, hv6⟩ : ∃ v, valL a6 = v := ⟨_, rfl⟩
          have hN : (nums [a0, a1, a2, a3, a4, a5, a6] 7).map valL = [v0, v1, v3, v4, v5, v6] := by rw [← hv0, ← hv1, ← hv3, ← hv4, ← hv5, ← hv6]; rfl
          rw [hN] at HRW
          obtain ⟨g, cap2, rfl, hcap2, hg, hcells⟩ := own_ints HRW.out (by simp)
          have k0 := hcells 0 v0 rfl
          have k1 := hcells 1 v1 rfl
          have k2 := hcells 2 v3 rfl
          have k3 := hcells 3 v4 rfl
          have k4 := hcells 4 v5 rfl
          have k5 := hcells 5 v6 rfl
          have HG := Lib.hid (And.intro hg hcells)
          clear hcells hN hg
          simp only [List.length_cons, List.length_nil, Nat.zero_add, Nat.reduceAdd] at hcap2 ⊢
          go_upto_region 26 with (fail)
          go_region_held3 (fun w' => w'.cell? ⟨g, 0, none⟩ = some (.int .i64 v0) ∧ w'.cell? ⟨g, 1, none⟩ = some (.int .i64 v1) ∧ w'.cell? ⟨g, 2, none⟩ = some (.int .i64 v3) ∧ w'.cell? ⟨g, 3, none⟩ = some (.int .i64 v4) ∧ w'.cell? ⟨g, 4, none⟩ = some (.int .i64 v5) ∧ w'.cell? ⟨g, 5, none⟩ = some (.int .i64 v6))
            ((refine keep6 ⟨k0, k1, k2, k3, k4, k5⟩ ?_; repeat (first | with_reducible exact Below.refl _ _ | with_reducible apply dr' | with_reducible apply al' | with_reducible refine below8g ?_ ?_ _ _ _ _ _ _ _ _ | exact Nat.le_refl _)))
            (fail)
          have hX := (BoxF.made wr (⟨v0, v1, 1, 0, v3, v4, v5, v6⟩ : Po) 23).below' (dr' (Below.refl _ _))
          have hB := dr' (al' (Below.refl wr.heap.size wr) (.cells #[.int .i64 v0, .int .i64 v1, .int .u8 1, .int .i64 0, .int .i64 v3, .int .i64 v4, .int .i64 v5, .int .i64 v6] 23))
          dsimp only at hX hB
          generalize (wr.alloc (.cells #[.int .i64 v0, .int .i64 v1, .int .u8 1, .int .i64 0, .int .i64 v3, .int .i64 v4, .int .i64 v5, .int .i64 v6] 23)).drew = w4 at *
          obtain ⟨B4, hB4⟩ : ∃ B, wr.heap.size = B := ⟨_, rfl⟩
          have HX4 := Lib.hid (show BoxF w4 B4 (⟨v0, v1, 1, 0, v3, v4, v5, v6⟩ : Po) from by rw [← hB4]; exact hX)
          have HR4 := Lib.hid (HX3.out.below' hB)
          have HB4 := Lib.hid (below_on HB3.out hB (Nat.le_refl _))
          have HL4 := Lib.hid (show w.heap.size ≤ B4 from by rw [← hB4]; exact HB3.out.size)
          have HD4 := Lib.hid (HRD3.out.below' hB)
          have q0 := cell_stays k0 hB
          have q1 := cell_stays k1 hB
          have q2 := cell_stays k2 hB
          have q3 := cell_stays k3 hB
          have q4 := cell_stays k4 hB
          have q5 := cell_stays k5 hB
          have HG4 := Lib.hid (show g < B4 from by rw [← hB4]; exact HG.out.1)
          rw [hB4]
          clear hX hB hB4 HRD3 HRD HG HX HB HB2 HBW HBL k0 k1 k2 k3 k4 k5
          have o0 := HO.out a0 (by simp [nums])
          have o1 := HO.out a1 (by simp [nums])
          have o3 := HO.out a3 (by simp [nums])
          have o4 := HO.out a4 (by simp [nums])
          have o5 := HO.out a5 (by simp [nums])
          have o6 := HO.out a6 (by simp [nums])
          have HE := Lib.hid (show readL l = ans (some (⟨v0, v1, 1, 0, v3, v4, v5, v6⟩ : Po)) l from by rw [← ans_same, ← HWS.out]; simp only [paB, o0, o1, o3, o4, o5, o6, Bool.and_self, if_true, hv0, hv1, hv3, hv4, hv5, hv6])
          clear o0 o1 o3 o4 o5 o6 hv0 hv1 hv3 hv4 hv5 hv6 HO HWS HN q0 q1 q2 q3 q4 q5 HRW
          obtain ⟨z0, z1, z2, z3, z4, z5, z6, z7, y0, y1, y2, y3, y4, y5, y6, y7⟩ := HX4.out.all
          dsimp only at z0 z1 z2 z3 z4 z5 z6 z7
          go_wp2_with fail
          refine (rwrite_any (⟨v0, v1, 1, 0, v3, v4, v5, v6⟩ : Po) _).mono ?_
          rintro e wa ⟨rfl, hB⟩
          have HXa := Lib.hid (HX4.out.below' hB)
          have HBa := Lib.hid (below_on HB4.out hB (Nat.le_refl _))
          have HRa := Lib.hid (HR4.out.below' hB)
          clear z0 z1 z2 z3 z4 z5 z6 z7 y0 y1 y2 y3 y4 y5 y6 y7 hB
          by_cases hok : okPo (⟨v0, v1, 1, 0, v3, v4, v5, v6⟩ : Po)
          case neg =>
            have hc : chkPo (⟨v0, v1, 1, 0, v3, v4, v5, v6⟩ : Po) = 1 := if_neg hok
            have HE2 := Lib.hid (show readL l = (po0, 4) from by rw [HE.out]; exact if_neg (fun h => hok h.1))
            rw [hc, if_neg (by decide)]
            clear hc hok HE
            obtain ⟨r0, r1, r2, r3, r4, r5, r6, r7, f0, f1, f2, f3, f4, f5, f6, f7⟩ := HRa.out.all
            dsimp only at r0 r1 r2 r3 r4 r5 r6 r7
            simp only [str]
            go_wp2_with fail
            have HY := And.intro (HRa.out.put po0).1 (put8_below HBa.out (Nat.le_refl _) po0)
            simp only [put8, po0] at HY
            clear r0 r1 r2 r3 r4 r5 r6 r7 f0 f1 f2 f3 f4 f5 f6 f7
            generalize ((((((((wa.setCell ⟨w.heap.size, 0, none⟩ (.int .i64 0)).setCell ⟨w.heap.size, 1, none⟩ (.int .i64 0)).setCell ⟨w.heap.size, 2, none⟩ (.int .u8 0)).setCell ⟨w.heap.size, 3, none⟩ (.int .i64 0)).setCell ⟨w.heap.size, 4, none⟩ (.int .i64 0)).setCell ⟨w.heap.size, 5, none⟩ (.int .i64 0)).setCell ⟨w.heap.size, 6, none⟩ (.int .i64 0)).setCell ⟨w.heap.size, 7, none⟩ (.int .i64 0)) = W3 at *
            obtain ⟨HY, HBY⟩ := HY
            have zl3 := HY.1
            obtain ⟨r0, r1, r2, r3, r4, r5, r6, r7⟩ := HY.cells
            dsimp only at r0 r1 r2 r3 r4 r5 r6 r7
            have Hres := Lib.hid HBY
            clear HBY HY
            refine bodyPost_ret (v := .tuple #[.agg #[.int .i64 0, .int .i64 0, .int .u8 0, .int .i64 0, .int .i64 0, .int .i64 0, .int .i64 0, .int .i64 0], .int .i64 4]) (by simp [results, Tryz.results8, go_sem, zl3, r0, r1, r2, r3, r4, r5, r6, r7]) rfl ⟨?_, Hres.out⟩
            rw [HE2.out]; rfl
          have hc : chkPo (⟨v0, v1, 1, 0, v3, v4, v5, v6⟩ : Po) = 0 := if_pos hok
          rw [hc, if_pos rfl]
          clear hc
          simp only [str]
          obtain ⟨l2, hl2⟩ : ∃ x, lineL (⟨v0, v1, 1, 0, v3, v4, v5, v6⟩ : Po) = x := ⟨_, rfl⟩
          rw [hl2]
          by_cases hll : l2 = l
          · have HE2 := Lib.hid (show readL l = ((⟨v0, v1, 1, 0, v3, v4, v5, v6⟩ : Po), 0) from by rw [HE.out]; exact if_pos ⟨hok, hl2.trans hll⟩)
            subst hll
            clear hok HE hl2
            obtain ⟨r0, r1, r2, r3, r4, r5, r6, r7, f0, f1, f2, f3, f4, f5, f6, f7⟩ := HRa.out.all
            dsimp only at r0 r1 r2 r3 r4 r5 r6 r7
            obtain ⟨z0, z1, z2, z3, z4, z5, z6, z7, y0, y1, y2, y3, y4, y5, y6, y7⟩ := HXa.out.all
            dsimp only at z0 z1 z2 z3 z4 z5 z6 z7
            go_wp2_with fail
            have HY := And.intro (HRa.out.put (⟨v0, v1, 1, 0, v3, v4, v5, v6⟩ : Po)).1 (put8_below HBa.out (Nat.le_refl _) (⟨v0, v1, 1, 0, v3, v4, v5, v6⟩ : Po))
            simp only [put8, po0] at HY
            clear r0 r1 r2 r3 r4 r5 r6 r7 f0 f1 f2 f3 f4 f5 f6 f7 z0 z1 z2 z3 z4 z5 z6 z7 y0 y1 y2 y3 y4 y5 y6 y7
            generalize ((((((((wa.setCell ⟨w.heap.size, 0, none⟩ (.int .i64 v0)).setCell ⟨w.heap.size, 1, none⟩ (.int .i64 v1)).setCell ⟨w.heap.size, 2, none⟩ (.int .u8 1)).setCell ⟨w.heap.size, 3, none⟩ (.int .i64 0)).setCell ⟨w.heap.size, 4, none⟩ (.int .i64 v3)).setCell ⟨w.heap.size, 5, none⟩ (.int .i64 v4)).setCell ⟨w.heap.size, 6, none⟩ (.int .i64 v5)).setCell ⟨w.heap.size, 7, none⟩ (.int .i64 v6)) = W3 at *
            obtain ⟨HY, HBY⟩ := HY
            have zl3 := HY.1
            obtain ⟨r0, r1, r2, r3, r4, r5, r6, r7⟩ := HY.cells
            dsimp only at r0 r1 r2 r3 r4 r5 r6 r7
            have Hres := Lib.hid HBY
            clear HBY HY
            refine bodyPost_ret (v := .tuple #[.agg #[.int .i64 v0, .int .i64 v1, .int .u8 1, .int .i64 0, .int .i64 v3, .int .i64 v4, .int .i64 v5, .int .i64 v6], .int .i64 0]) (by simp [results, Tryz.results8, go_sem, zl3, r0, r1, r2, r3, r4, r5, r6, r7]) rfl ⟨?_, Hres.out⟩
            rw [HE2.out]
          · have HE2 := Lib.hid (show readL l = (po0, 4) from by rw [HE.out]; exact if_neg (fun h => hll (hl2.symm.trans h.2)))
            have hb2 : (l2 == l) = false := by simpa using hll
            clear hok HE hl2 hll
            obtain ⟨r0, r1, r2, r3, r4, r5, r6, r7, f0, f1, f2, f3, f4, f5, f6, f7⟩ := HRa.out.all
            dsimp only at r0 r1 r2 r3 r4 r5 r6 r7
            go_wp2_with fail
            have HY := And.intro (HRa.out.put po0).1 (put8_below HBa.out (Nat.le_refl _) po0)
            simp only [put8, po0] at HY
            clear r0 r1 r2 r3 r4 r5 r6 r7 f0 f1 f2 f3 f4 f5 f6 f7
            generalize ((((((((wa.setCell ⟨w.heap.size, 0, none⟩ (.int .i64 0)).setCell ⟨w.heap.size, 1, none⟩ (.int .i64 0)).setCell ⟨w.heap.size, 2, none⟩ (.int .u8 0)).setCell ⟨w.heap.size, 3, none⟩ (.int .i64 0)).setCell ⟨w.heap.size, 4, none⟩ (.int .i64 0)).setCell ⟨w.heap.size, 5, none⟩ (.int .i64 0)).setCell ⟨w.heap.size, 6, none⟩ (.int .i64 0)).setCell ⟨w.heap.size, 7, none⟩ (.int .i64 0)) = W3 at *
            obtain ⟨HY, HBY⟩ := HY
            have zl3 := HY.1
            obtain ⟨r0, r1, r2, r3, r4, r5, r6, r7⟩ := HY.cells
            dsimp only at r0 r1 r2 r3 r4 r5 r6 r7
            have Hres := Lib.hid HBY
            clear HBY HY
            refine bodyPost_ret (v := .tuple #[.agg #[.int .i64 0, .int .i64 0, .int .u8 0, .int .i64 0, .int .i64 0, .int .i64 0, .int .i64 0, .int .i64 0], .int .i64 4]) (by simp [results, Tryz.results8, go_sem, zl3, r0, r1, r2, r3, r4, r5, r6, r7]) rfl ⟨?_, Hres.out⟩
            rw [HE2.out]; rfl
        · skip
          obtain ⟨a0, a1, a2, a3, a4, a5, a6, a7, rfl⟩ := list8 HN.out
          have h2' := HRD3.out.str (i := 2) (by omega)
          obtain ⟨b, off, x2, ha, hbB, hx2, hs2⟩ := h2'
          subst ha
          obtain rfl : a2 = x2 := by simpa using hx2
          clear hx2
          obtain ⟨v0, hv0⟩ : ∃ v, valL a0 = v := ⟨_, rfl⟩
          obtain ⟨v1, hv1⟩ : ∃ v, valL a1 = v := ⟨_, rfl⟩
          obtain ⟨v3, hv3⟩ : ∃ v, valL a3 = v := ⟨_, rfl⟩
          obtain ⟨v4, hv4⟩ : ∃ v, valL a4 = v := ⟨_, rfl⟩
          obtain ⟨v5, hv5⟩ : ∃ v, valL a5 = v := ⟨_, rfl⟩
          obtain ⟨v6, hv6⟩ : ∃ v, valL a6 = v := ⟨_, rfl⟩
          obtain ⟨v7, hv7⟩ : ∃ v, valL a7 = v := ⟨_, rfl⟩
          have hN : (nums [a0, a1, a2, a3, a4, a5, a6, a7] 8).map valL = [v0, v1, v3, v4, v5, v6, v7] := by rw [← hv0, ← hv1, ← hv3, ← hv4, ← hv5, ← hv6, ← hv7]; rfl
          rw [hN] at HRW
          obtain ⟨g, cap2, rfl, hcap2, hg, hcells⟩ := own_ints HRW.out (by simp)
          have k0 := hcells 0 v0 rfl
          have k1 := hcells 1 v1 rfl
          have k2 := hcells 2 v3 rfl
          have k3 := hcells 3 v4 rfl
          have k4 := hcells 4 v5 rfl
          have k5 := hcells 5 v6 rfl
          have k6 := hcells 6 v7 rfl
          have HG := Lib.hid (And.intro hg hcells)
          clear hcells hN hg
          simp only [List.length_cons, List.length_nil, Nat.zero_add, Nat.reduceAdd] at hcap2 ⊢
          go_upto_region 26 with (fail)
          go_region_held3 (fun w' => w'.cell? ⟨g, 0, none⟩ = some (.int .i64 v0) ∧ w'.cell? ⟨g, 1, none⟩ = some (.int .i64 v1) ∧ w'.cell? ⟨g, 2, none⟩ = some (.int .i64 v3) ∧ w'.cell? ⟨g, 3, none⟩ = some (.int .i64 v4) ∧ w'.cell? ⟨g, 4, none⟩ = some (.int .i64 v5) ∧ w'.cell? ⟨g, 5, none⟩ = some (.int .i64 v6) ∧ w'.cell? ⟨g, 6, none⟩ = some (.int .i64 v7))
            ((refine keep7 ⟨k0, k1, k2, k3, k4, k5, k6⟩ ?_; repeat (first | with_reducible exact Below.refl _ _ | with_reducible apply dr' | with_reducible apply al' | with_reducible refine below8g ?_ ?_ _ _ _ _ _ _ _ _ | exact Nat.le_refl _)))
            (fail)
          have hX := (BoxF.made wr (⟨v0, v1, 1, 0, v3, v4, v5, v6⟩ : Po) 23).below' (dr' (Below.refl _ _))
          have hB := dr' (al' (Below.refl wr.heap.size wr) (.cells #[.int .i64 v0, .int .i64 v1, .int .u8 1, .int .i64 0, .int .i64 v3, .int .i64 v4, .int .i64 v5, .int .i64 v6] 23))
          dsimp only at hX hB
          generalize (wr.alloc (.cells #[.int .i64 v0, .int .i64 v1, .int .u8 1, .int .i64 0, .int .i64 v3, .int .i64 v4, .int .i64 v5, .int .i64 v6] 23)).drew = w4 at *
          obtain ⟨B4, hB4⟩ : ∃ B, wr.heap.size = B := ⟨_, rfl⟩
          have HX4 := Lib.hid (show BoxF w4 B4 (⟨v0, v1, 1, 0, v3, v4, v5, v6⟩ : Po) from by rw [← hB4]; exact hX)
          have HR4 := Lib.hid (HX3.out.below' hB)
          have HB4 := Lib.hid (below_on HB3.out hB (Nat.le_refl _))
          have HL4 := Lib.hid (show w.heap.size ≤ B4 from by rw [← hB4]; exact HB3.out.size)
          have HD4 := Lib.hid (HRD3.out.below' hB)
          have q0 := cell_stays k0 hB
          have q1 := cell_stays k1 hB
          have q2 := cell_stays k2 hB
          have q3 := cell_stays k3 hB
          have q4 := cell_stays k4 hB
          have q5 := cell_stays k5 hB
          have q6 := cell_stays k6 hB
          have s24 := cell_stays hs2 hB
          have HbB := Lib.hid (show b < B4 from by rw [← hB4]; exact hbB)
          have HA4 := Lib.hid (show w.heap.size < B4 from by rw [← hB4]; exact HX3.out.1.1)
          clear hbB hs2
          have HG4 := Lib.hid (show g < B4 from by rw [← hB4]; exact HG.out.1)
          rw [hB4]
          clear hX hB hB4 HRD3 HRD HG HX HB HB2 HBW HBL k0 k1 k2 k3 k4 k5 k6
          have o0 := HO.out a0 (by simp [nums])
          have o1 := HO.out a1 (by simp [nums])
          have o3 := HO.out a3 (by simp [nums])
          have o4 := HO.out a4 (by simp [nums])
          have o5 := HO.out a5 (by simp [nums])
          have o6 := HO.out a6 (by simp [nums])
          have o7 := HO.out a7 (by simp [nums])
          have HE0 := Lib.hid (show readL l = ans (some (⟨v0, v1, if a2 = [98, 97, 99, 107] then 3 else 2, v3, v4, v5, v6, v7⟩ : Po)) l from by rw [← ans_same, ← HWS.out]; simp only [paB, o0, o1, o3, o4, o5, o6, o7, Bool.and_self, if_true, hv0, hv1, hv3, hv4, hv5, hv6, hv7])
          clear o0 o1 o3 o4 o5 o6 o7 hv0 hv1 hv3 hv4 hv5 hv6 hv7 HO HWS HN HRW
          obtain ⟨z0, z1, z2, z3, z4, z5, z6, z7, y0, y1, y2, y3, y4, y5, y6, y7⟩ := HX4.out.all
          dsimp only at z0 z1 z2 z3 z4 z5 z6 z7
          go_upto_region 28 with (fail)
          go_region_held3 (fun w' => w'.cell? ⟨g, 0, none⟩ = some (.int .i64 v0) ∧ w'.cell? ⟨g, 1, none⟩ = some (.int .i64 v1) ∧ w'.cell? ⟨g, 2, none⟩ = some (.int .i64 v3) ∧ w'.cell? ⟨g, 3, none⟩ = some (.int .i64 v4) ∧ w'.cell? ⟨g, 4, none⟩ = some (.int .i64 v5) ∧ w'.cell? ⟨g, 5, none⟩ = some (.int .i64 v6) ∧ w'.cell? ⟨g, 6, none⟩ = some (.int .i64 v7))
            (first | with_reducible exact ⟨off8 q0 HG4.out _ _ _ _ _ _ _ _, off8 q1 HG4.out _ _ _ _ _ _ _ _, off8 q2 HG4.out _ _ _ _ _ _ _ _, off8 q3 HG4.out _ _ _ _ _ _ _ _, off8 q4 HG4.out _ _ _ _ _ _ _ _, off8 q5 HG4.out _ _ _ _ _ _ _ _, off8 q6 HG4.out _ _ _ _ _ _ _ _⟩ | with_reducible exact ⟨off8d q0 HG4.out _ _ _ _ _ _ _ _, off8d q1 HG4.out _ _ _ _ _ _ _ _, off8d q2 HG4.out _ _ _ _ _ _ _ _, off8d q3 HG4.out _ _ _ _ _ _ _ _, off8d q4 HG4.out _ _ _ _ _ _ _ _, off8d q5 HG4.out _ _ _ _ _ _ _ _, off8d q6 HG4.out _ _ _ _ _ _ _ _⟩ | (refine keep7 ⟨q0, q1, q2, q3, q4, q5, q6⟩ ?_; repeat (first | with_reducible exact Below.refl _ _ | with_reducible apply dr' | with_reducible apply al')))
            (fail)
          have hX := (HX4.out.put (⟨v0, v1, 2, v3, v4, v5, v6, v7⟩ : Po)).below' (dr' (Below.refl _ _))
          have hB := dr' (put8_below HB4.out HL4.out (⟨v0, v1, 2, v3, v4, v5, v6, v7⟩ : Po))
          have hR := (HR4.out.aside8 HA4.out (⟨v0, v1, 2, v3, v4, v5, v6, v7⟩ : Po)).below' (dr' (Below.refl _ _))
          have s25 := off8d s24 HbB.out (.int .i64 v0) (.int .i64 v1) (.int .u8 2) (.int .i64 v3) (.int .i64 v4) (.int .i64 v5) (.int .i64 v6) (.int .i64 v7)
          simp only [put8] at hX hB hR
          generalize ((((((((w4.setCell ⟨B4, 0, none⟩ (.int .i64 v0)).setCell ⟨B4, 1, none⟩ (.int .i64 v1)).setCell ⟨B4, 2, none⟩ (.int .u8 2)).setCell ⟨B4, 3, none⟩ (.int .i64 v3)).setCell ⟨B4, 4, none⟩ (.int .i64 v4)).setCell ⟨B4, 5, none⟩ (.int .i64 v5)).setCell ⟨B4, 6, none⟩ (.int .i64 v6)).setCell ⟨B4, 7, none⟩ (.int .i64 v7)).drew = w5 at *
          have HX5 := Lib.hid hX
          have HB5 := Lib.hid hB
          have HR5 := Lib.hid hR
          clear hX hB hR s24 z0 z1 z2 z3 z4 z5 z6 z7 y0 y1 y2 y3 y4 y5 y6 y7 q0 q1 q2 q3 q4 q5 q6 HX4 HB4 HR4 HG4 HbB
          by_cases hbk : a2 = [98, 97, 99, 107]
          · have HE := Lib.hid (show readL l = ans (some (⟨v0, v1, 3, v3, v4, v5, v6, v7⟩ : Po)) l from by rw [HE0.out, if_pos hbk])
            subst hbk
            obtain ⟨z0, z1, z2, z3, z4, z5, z6, z7, y0, y1, y2, y3, y4, y5, y6, y7⟩ := HX5.out.all
            dsimp only at z0 z1 z2 z3 z4 z5 z6 z7
            go_upto_region 31 with (fail)
            have HX6 := Lib.hid (HX5.out.set2 3)
            have HB6 := Lib.hid (HB5.out.setCell (p := ⟨B4, 2, none⟩) HL4.out (.int .u8 3))
            have HR6 := Lib.hid (HR5.out.aside1 HA4.out 2 (.int .u8 3))
            generalize w5.setCell ⟨B4, 2, none⟩ (.int .u8 3) = w6 at *
            clear z0 z1 z2 z3 z4 z5 z6 z7 y0 y1 y2 y3 y4 y5 y6 y7 s25 HX5 HB5 HR5 HE0
            obtain ⟨z0, z1, z2, z3, z4, z5, z6, z7, y0, y1, y2, y3, y4, y5, y6, y7⟩ := HX6.out.all
            dsimp only at z0 z1 z2 z3 z4 z5 z6 z7
            go_wp2_with fail
            refine (rwrite_any (⟨v0, v1, 3, v3, v4, v5, v6, v7⟩ : Po) _).mono ?_
            rintro e wa ⟨rfl, hB⟩
            have HXa := Lib.hid (HX6.out.below' hB)
            have HBa := Lib.hid (below_on HB6.out hB (Nat.le_refl _))
            have HRa := Lib.hid (HR6.out.below' hB)
            clear z0 z1 z2 z3 z4 z5 z6 z7 y0 y1 y2 y3 y4 y5 y6 y7 hB
            by_cases hok : okPo (⟨v0, v1, 3, v3, v4, v5, v6, v7⟩ : Po)
            case neg =>
              have hc : chkPo (⟨v0, v1, 3, v3, v4, v5, v6, v7⟩ : Po) = 1 := if_neg hok
              have HE2 := Lib.hid (show readL l = (po0, 4) from by rw [HE.out]; exact if_neg (fun h => hok h.1))
              rw [hc, if_neg (by decide)]
              clear hc hok HE
              obtain ⟨r0, r1, r2, r3, r4, r5, r6, r7, f0, f1, f2, f3, f4, f5, f6, f7⟩ := HRa.out.all
              dsimp only at r0 r1 r2 r3 r4 r5 r6 r7
              simp only [str]
              go_wp2_with fail
              have HY := And.intro (HRa.out.put po0).1 (put8_below HBa.out (Nat.le_refl _) po0)
              simp only [put8, po0] at HY
              clear r0 r1 r2 r3 r4 r5 r6 r7 f0 f1 f2 f3 f4 f5 f6 f7
              generalize ((((((((wa.setCell ⟨w.heap.size, 0, none⟩ (.int .i64 0)).setCell ⟨w.heap.size, 1, none⟩ (.int .i64 0)).setCell ⟨w.heap.size, 2, none⟩ (.int .u8 0)).setCell ⟨w.heap.size, 3, none⟩ (.int .i64 0)).setCell ⟨w.heap.size, 4, none⟩ (.int .i64 0)).setCell ⟨w.heap.size, 5, none⟩ (.int .i64 0)).setCell ⟨w.heap.size, 6, none⟩ (.int .i64 0)).setCell ⟨w.heap.size, 7, none⟩ (.int .i64 0)) = W3 at *
              obtain ⟨HY, HBY⟩ := HY
              have zl3 := HY.1
              obtain ⟨r0, r1, r2, r3, r4, r5, r6, r7⟩ := HY.cells
              dsimp only at r0 r1 r2 r3 r4 r5 r6 r7
              have Hres := Lib.hid HBY
              clear HBY HY
              refine bodyPost_ret (v := .tuple #[.agg #[.int .i64 0, .int .i64 0, .int .u8 0, .int .i64 0, .int .i64 0, .int .i64 0, .int .i64 0, .int .i64 0], .int .i64 4]) (by simp [results, Tryz.results8, go_sem, zl3, r0, r1, r2, r3, r4, r5, r6, r7]) rfl ⟨?_, Hres.out⟩
              rw [HE2.out]; rfl
            have hc : chkPo (⟨v0, v1, 3, v3, v4, v5, v6, v7⟩ : Po) = 0 := if_pos hok
            rw [hc, if_pos rfl]
            clear hc
            simp only [str]
            obtain ⟨l2, hl2⟩ : ∃ x, lineL (⟨v0, v1, 3, v3, v4, v5, v6, v7⟩ : Po) = x := ⟨_, rfl⟩
            rw [hl2]
            by_cases hll : l2 = l
            · have HE2 := Lib.hid (show readL l = ((⟨v0, v1, 3, v3, v4, v5, v6, v7⟩ : Po), 0) from by rw [HE.out]; exact if_pos ⟨hok, hl2.trans hll⟩)
              subst hll
              clear hok HE hl2
              obtain ⟨r0, r1, r2, r3, r4, r5, r6, r7, f0, f1, f2, f3, f4, f5, f6, f7⟩ := HRa.out.all
              dsimp only at r0 r1 r2 r3 r4 r5 r6 r7
              obtain ⟨z0, z1, z2, z3, z4, z5, z6, z7, y0, y1, y2, y3, y4, y5, y6, y7⟩ := HXa.out.all
              dsimp only at z0 z1 z2 z3 z4 z5 z6 z7
              go_wp2_with fail
              have HY := And.intro (HRa.out.put (⟨v0, v1, 3, v3, v4, v5, v6, v7⟩ : Po)).1 (put8_below HBa.out (Nat.le_refl _) (⟨v0, v1, 3, v3, v4, v5, v6, v7⟩ : Po))
              simp only [put8, po0] at HY
              clear r0 r1 r2 r3 r4 r5 r6 r7 f0 f1 f2 f3 f4 f5 f6 f7 z0 z1 z2 z3 z4 z5 z6 z7 y0 y1 y2 y3 y4 y5 y6 y7
              generalize ((((((((wa.setCell ⟨w.heap.size, 0, none⟩ (.int .i64 v0)).setCell ⟨w.heap.size, 1, none⟩ (.int .i64 v1)).setCell ⟨w.heap.size, 2, none⟩ (.int .u8 3)).setCell ⟨w.heap.size, 3, none⟩ (.int .i64 v3)).setCell ⟨w.heap.size, 4, none⟩ (.int .i64 v4)).setCell ⟨w.heap.size, 5, none⟩ (.int .i64 v5)).setCell ⟨w.heap.size, 6, none⟩ (.int .i64 v6)).setCell ⟨w.heap.size, 7, none⟩ (.int .i64 v7)) = W3 at *
              obtain ⟨HY, HBY⟩ := HY
              have zl3 := HY.1
              obtain ⟨r0, r1, r2, r3, r4, r5, r6, r7⟩ := HY.cells
              dsimp only at r0 r1 r2 r3 r4 r5 r6 r7
              have Hres := Lib.hid HBY
              clear HBY HY
              refine bodyPost_ret (v := .tuple #[.agg #[.int .i64 v0, .int .i64 v1, .int .u8 3, .int .i64 v3, .int .i64 v4, .int .i64 v5, .int .i64 v6, .int .i64 v7], .int .i64 0]) (by simp [results, Tryz.results8, go_sem, zl3, r0, r1, r2, r3, r4, r5, r6, r7]) rfl ⟨?_, Hres.out⟩
              rw [HE2.out]
            · have HE2 := Lib.hid (show readL l = (po0, 4) from by rw [HE.out]; exact if_neg (fun h => hll (hl2.symm.trans h.2)))
              have hb2 : (l2 == l) = false := by simpa using hll
              clear hok HE hl2 hll
              obtain ⟨r0, r1, r2, r3, r4, r5, r6, r7, f0, f1, f2, f3, f4, f5, f6, f7⟩ := HRa.out.all
              dsimp only at r0 r1 r2 r3 r4 r5 r6 r7
              go_wp2_with fail
              have HY := And.intro (HRa.out.put po0).1 (put8_below HBa.out (Nat.le_refl _) po0)
              simp only [put8, po0] at HY
              clear r0 r1 r2 r3 r4 r5 r6 r7 f0 f1 f2 f3 f4 f5 f6 f7
              generalize ((((((((wa.setCell ⟨w.heap.size, 0, none⟩ (.int .i64 0)).setCell ⟨w.heap.size, 1, none⟩ (.int .i64 0)).setCell ⟨w.heap.size, 2, none⟩ (.int .u8 0)).setCell ⟨w.heap.size, 3, none⟩ (.int .i64 0)).setCell ⟨w.heap.size, 4, none⟩ (.int .i64 0)).setCell ⟨w.heap.size, 5, none⟩ (.int .i64 0)).setCell ⟨w.heap.size, 6, none⟩ (.int .i64 0)).setCell ⟨w.heap.size, 7, none⟩ (.int .i64 0)) = W3 at *
              obtain ⟨HY, HBY⟩ := HY
              have zl3 := HY.1
              obtain ⟨r0, r1, r2, r3, r4, r5, r6, r7⟩ := HY.cells
              dsimp only at r0 r1 r2 r3 r4 r5 r6 r7
              have Hres := Lib.hid HBY
              clear HBY HY
              refine bodyPost_ret (v := .tuple #[.agg #[.int .i64 0, .int .i64 0, .int .u8 0, .int .i64 0, .int .i64 0, .int .i64 0, .int .i64 0, .int .i64 0], .int .i64 4]) (by simp [results, Tryz.results8, go_sem, zl3, r0, r1, r2, r3, r4, r5, r6, r7]) rfl ⟨?_, Hres.out⟩
              rw [HE2.out]; rfl
          · have HE := Lib.hid (show readL l = ans (some (⟨v0, v1, 2, v3, v4, v5, v6, v7⟩ : Po)) l from by rw [HE0.out, if_neg hbk])
            have hbb : (a2 == [98, 97, 99, 107]) = false := by simpa using hbk
            clear hbk HE0
            obtain ⟨z0, z1, z2, z3, z4, z5, z6, z7, y0, y1, y2, y3, y4, y5, y6, y7⟩ := HX5.out.all
            dsimp only at z0 z1 z2 z3 z4 z5 z6 z7
            go_wp2_with fail
            refine (rwrite_any (⟨v0, v1, 2, v3, v4, v5, v6, v7⟩ : Po) _).mono ?_
            rintro e wa ⟨rfl, hB⟩
            have HXa := Lib.hid (HX5.out.below' hB)
            have HBa := Lib.hid (below_on HB5.out hB (Nat.le_refl _))
            have HRa := Lib.hid (HR5.out.below' hB)
            clear z0 z1 z2 z3 z4 z5 z6 z7 y0 y1 y2 y3 y4 y5 y6 y7 hB
            by_cases hok : okPo (⟨v0, v1, 2, v3, v4, v5, v6, v7⟩ : Po)
            case neg =>
              have hc : chkPo (⟨v0, v1, 2, v3, v4, v5, v6, v7⟩ : Po) = 1 := if_neg hok
              have HE2 := Lib.hid (show readL l = (po0, 4) from by rw [HE.out]; exact if_neg (fun h => hok h.1))
              rw [hc, if_neg (by decide)]
              clear hc hok HE
              obtain ⟨r0, r1, r2, r3, r4, r5, r6, r7, f0, f1, f2, f3, f4, f5, f6, f7⟩ := HRa.out.all
              dsimp only at r0 r1 r2 r3 r4 r5 r6 r7
              simp only [str]
              go_wp2_with fail
              have HY := And.intro (HRa.out.put po0).1 (put8_below HBa.out (Nat.le_refl _) po0)
              simp only [put8, po0] at HY
              clear r0 r1 r2 r3 r4 r5 r6 r7 f0 f1 f2 f3 f4 f5 f6 f7
              generalize ((((((((wa.setCell ⟨w.heap.size, 0, none⟩ (.int .i64 0)).setCell ⟨w.heap.size, 1, none⟩ (.int .i64 0)).setCell ⟨w.heap.size, 2, none⟩ (.int .u8 0)).setCell ⟨w.heap.size, 3, none⟩ (.int .i64 0)).setCell ⟨w.heap.size, 4, none⟩ (.int .i64 0)).setCell ⟨w.heap.size, 5, none⟩ (.int .i64 0)).setCell ⟨w.heap.size, 6, none⟩ (.int .i64 0)).setCell ⟨w.heap.size, 7, none⟩ (.int .i64 0)) = W3 at *
              obtain ⟨HY, HBY⟩ := HY
              have zl3 := HY.1
              obtain ⟨r0, r1, r2, r3, r4, r5, r6, r7⟩ := HY.cells
              dsimp only at r0 r1 r2 r3 r4 r5 r6 r7
              have Hres := Lib.hid HBY
              clear HBY HY
              refine bodyPost_ret (v := .tuple #[.agg #[.int .i64 0, .int .i64 0, .int .u8 0, .int .i64 0, .int .i64 0, .int .i64 0, .int .i64 0, .int .i64 0], .int .i64 4]) (by simp [results, Tryz.results8, go_sem, zl3, r0, r1, r2, r3, r4, r5, r6, r7]) rfl ⟨?_, Hres.out⟩
              rw [HE2.out]; rfl
            have hc : chkPo (⟨v0, v1, 2, v3, v4, v5, v6, v7⟩ : Po) = 0 := if_pos hok
            rw [hc, if_pos rfl]
            clear hc
            simp only [str]
            obtain ⟨l2, hl2⟩ : ∃ x, lineL (⟨v0, v1, 2, v3, v4, v5, v6, v7⟩ : Po) = x := ⟨_, rfl⟩
            rw [hl2]
            by_cases hll : l2 = l
            · have HE2 := Lib.hid (show readL l = ((⟨v0, v1, 2, v3, v4, v5, v6, v7⟩ : Po), 0) from by rw [HE.out]; exact if_pos ⟨hok, hl2.trans hll⟩)
              subst hll
              clear hok HE hl2
              obtain ⟨r0, r1, r2, r3, r4, r5, r6, r7, f0, f1, f2, f3, f4, f5, f6, f7⟩ := HRa.out.all
              dsimp only at r0 r1 r2 r3 r4 r5 r6 r7
              obtain ⟨z0, z1, z2, z3, z4, z5, z6, z7, y0, y1, y2, y3, y4, y5, y6, y7⟩ := HXa.out.all
              dsimp only at z0 z1 z2 z3 z4 z5 z6 z7
              go_wp2_with fail
              have HY := And.intro (HRa.out.put (⟨v0, v1, 2, v3, v4, v5, v6, v7⟩ : Po)).1 (put8_below HBa.out (Nat.le_refl _) (⟨v0, v1, 2, v3, v4, v5, v6, v7⟩ : Po))
              simp only [put8, po0] at HY
              clear r0 r1 r2 r3 r4 r5 r6 r7 f0 f1 f2 f3 f4 f5 f6 f7 z0 z1 z2 z3 z4 z5 z6 z7 y0 y1 y2 y3 y4 y5 y6 y7
              generalize ((((((((wa.setCell ⟨w.heap.size, 0, none⟩ (.int .i64 v0)).setCell ⟨w.heap.size, 1, none⟩ (.int .i64 v1)).setCell ⟨w.heap.size, 2, none⟩ (.int .u8 2)).setCell ⟨w.heap.size, 3, none⟩ (.int .i64 v3)).setCell ⟨w.heap.size, 4, none⟩ (.int .i64 v4)).setCell ⟨w.heap.size, 5, none⟩ (.int .i64 v5)).setCell ⟨w.heap.size, 6, none⟩ (.int .i64 v6)).setCell ⟨w.heap.size, 7, none⟩ (.int .i64 v7)) = W3 at *
              obtain ⟨HY, HBY⟩ := HY
              have zl3 := HY.1
              obtain ⟨r0, r1, r2, r3, r4, r5, r6, r7⟩ := HY.cells
              dsimp only at r0 r1 r2 r3 r4 r5 r6 r7
              have Hres := Lib.hid HBY
              clear HBY HY
              refine bodyPost_ret (v := .tuple #[.agg #[.int .i64 v0, .int .i64 v1, .int .u8 2, .int .i64 v3, .int .i64 v4, .int .i64 v5, .int .i64 v6, .int .i64 v7], .int .i64 0]) (by simp [results, Tryz.results8, go_sem, zl3, r0, r1, r2, r3, r4, r5, r6, r7]) rfl ⟨?_, Hres.out⟩
              rw [HE2.out]
            · have HE2 := Lib.hid (show readL l = (po0, 4) from by rw [HE.out]; exact if_neg (fun h => hll (hl2.symm.trans h.2)))
              have hb2 : (l2 == l) = false := by simpa using hll
              clear hok HE hl2 hll
              obtain ⟨r0, r1, r2, r3, r4, r5, r6, r7, f0, f1, f2, f3, f4, f5, f6, f7⟩ := HRa.out.all
              dsimp only at r0 r1 r2 r3 r4 r5 r6 r7
              go_wp2_with fail
              have HY := And.intro (HRa.out.put po0).1 (put8_below HBa.out (Nat.le_refl _) po0)
              simp only [put8, po0] at HY
              clear r0 r1 r2 r3 r4 r5 r6 r7 f0 f1 f2 f3 f4 f5 f6 f7
              generalize ((((((((wa.setCell ⟨w.heap.size, 0, none⟩ (.int .i64 0)).setCell ⟨w.heap.size, 1, none⟩ (.int .i64 0)).setCell ⟨w.heap.size, 2, none⟩ (.int .u8 0)).setCell ⟨w.heap.size, 3, none⟩ (.int .i64 0)).setCell ⟨w.heap.size, 4, none⟩ (.int .i64 0)).setCell ⟨w.heap.size, 5, none⟩ (.int .i64 0)).setCell ⟨w.heap.size, 6, none⟩ (.int .i64 0)).setCell ⟨w.heap.size, 7, none⟩ (.int .i64 0)) = W3 at *
              obtain ⟨HY, HBY⟩ := HY
              have zl3 := HY.1
              obtain ⟨r0, r1, r2, r3, r4, r5, r6, r7⟩ := HY.cells
              dsimp only at r0 r1 r2 r3 r4 r5 r6 r7
              have Hres := Lib.hid HBY
              clear HBY HY
              refine bodyPost_ret (v := .tuple #[.agg #[.int .i64 0, .int .i64 0, .int .u8 0, .int .i64 0, .int .i64 0, .int .i64 0, .int .i64 0, .int .i64 0], .int .i64 4]) (by simp [results, Tryz.results8, go_sem, zl3, r0, r1, r2, r3, r4, r5, r6, r7]) rfl ⟨?_, Hres.out⟩
              rw [HE2.out]; rfl
end Go.Proofs.YtjleembfocghlaaGreatDoor
