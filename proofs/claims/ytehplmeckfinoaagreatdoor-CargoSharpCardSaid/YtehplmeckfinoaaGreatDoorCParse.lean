/- The walk of parse. -/
import Derived.Test.YtehplmeckfinoaaGreatDoorCLine
import Derived.Test.YtehplmeckfinoaaGreatDoorCMiss
import Derived.Deep.Cut
set_option linter.unusedSimpArgs false
set_option linter.unusedVariables false
namespace Go.Proofs.YtehplmeckfinoaaGreatDoor
open Go.RowKit
def ParsePost (w : World) (l : List UInt8) (e : Ending) (w' : World) : Prop :=
 Below w.heap.size w w' ∧ ((∃ x, parseW (spl l) = some x ∧ e = .returned (.agg #[.int .i64 x.id, .int .i64 x.known, .int .u8 x.kind, .int .i64 x.loss, .int .i64 x.pack, .int .i64 x.inn, .string ⟨x.mark.toArray⟩, .string ⟨x.goods.toArray⟩, .int .i64 x.low, .int .i64 x.high, .int .i64 x.pieces, .int .i64 x.owner, .int .i64 x.count, .int .i64 x.of])) ∨ (parseW (spl l) = none ∧ e = .panicked [{ v := formlessV, recovered := false }]))
theorem RdAt.made (w : World) (a : Option Addr) (n cap : Nat) (ws : List (List UInt8)) (T : TypeId) (h : Rd strs 1 w a n ws) (hn : n ≤ cap) (hq : ∀ q, a = some q → q.block < w.heap.size) :
 RdAt (w.alloc (.cells #[.slice a n cap] T)) w.heap.size ws :=
 ⟨frz0 (heap_alloc_new w _) 0, a, n, cap, by rw [cell_of_row _ _ _ _ _ (0, 0) (heap_alloc_new w _)]; rfl, h.below' (al' (Below.refl _ _) _), hn, hq⟩
set_option maxRecDepth 100000 in
set_option maxHeartbeats 4000000 in
theorem parse_any (l : List UInt8) (hl : l.length ≤ 10000) (w : World) (hw : Laid w) :
 Calls Tryz.prog 51 #[.string ⟨l.toArray⟩] w (ParsePost w l) := by
 have HW := Hd hw
 have hz := BoxG.made w pa0.vals 42
 have hB := al' (Below.refl w.heap.size w) (.cells pa0.vals.toArray 42)
 simp only [Pa.vals, pa0] at hz hB
 clear hw
 go_enter Tryz.func51, Tryz.ntmps51
 go_upto_region 1 with (fail)
 generalize w.alloc (.cells #[.int .i64 0, .int .i64 0, .int .u8 0, .int .i64 0, .int .i64 0, .int .i64 0, .string ⟨#[]⟩, .string ⟨#[]⟩, .int .i64 0, .int .i64 0, .int .i64 0, .int .i64 0, .int .i64 0, .int .i64 0] 42) = w1 at *
 have HZ1 := Hd (show BoxG w1 w.heap.size pa0.vals from hz)
 have HB1 := Hd hB
 clear hz hB
 go_wp2_with fail
 refine (split_any l (by omega) _ (HW.out.below HB1.out)).mono ?_
 rintro e w2 ⟨rfl, hw2⟩
 have hnl := spl_len l
 have hml := spl_mem_len l
 obtain ⟨ws, hws⟩ : ∃ ws, spl l = ws := ⟨_, rfl⟩
 obtain ⟨n, hn⟩ : ∃ n, ws.length = n := ⟨_, rfl⟩
 rw [hws, hn] at hnl
 rw [hws] at hml hw2
 rw [hws, hn]
 have hr2 : Rd strs 1 w2 (some ⟨w1.heap.size, 0, none⟩) n ws := by rw [hw2]; exact rd_words w1 ws n hn (by unfold maxLen; omega) 9
 have hb12 : Below w1.heap.size w1 w2 := by rw [hw2]; exact al' (Below.refl _ _) _
 have hlt2 : w1.heap.size < w2.heap.size := by rw [hw2]; simp
 have HZ2 := Hd (HZ1.out.below' hb12)
 have HB2 := Hd (HB1.out.trans (hb12.mono HB1.out.size))
 have HP := Hd (show parseW (spl l) = parseW ws from by rw [hws])
 have HML := Hd (show ∀ x ∈ ws, x.length ≤ 100000 from fun x hx => Nat.le_trans (hml x hx) (by omega))
 clear hw2 hb12 HZ1 HB1 hws hml hnl hn
 obtain ⟨S, hS⟩ : ∃ S, w1.heap.size = S := ⟨_, rfl⟩
 rw [hS] at hr2 hlt2 ⊢
 clear hS
 have hrd := RdAt.made w2 _ n n ws 131 hr2 (Nat.le_refl _) (fun q e => by cases e; exact hlt2)
 have hb23 := al' (Below.refl w2.heap.size w2) (.cells #[.slice (some ⟨S, 0, none⟩) n n] 131)
 go_upto_region 2 with (fail)
 have HZ3 := Hd (HZ2.out.below' hb23)
 have HB3 := Hd (HB2.out.trans (hb23.mono HB2.out.size))
 have hzR : w.heap.size < w2.heap.size := HZ2.out.1
 generalize w2.alloc (.cells #[.slice (some ⟨S, 0, none⟩) n n] 131) = w3 at *
 obtain ⟨R, hR⟩ : ∃ R, w2.heap.size = R := ⟨_, rfl⟩
 rw [hR] at hrd hzR ⊢
 have HR3 := Hd hrd
 have HzR := Hd hzR
 clear hrd hb23 hr2 hlt2 hR hzR HZ2 HB2
 have HP3 := HP
 have HML3 := HML
 clear HP HML
 go_wp2_with fail
 rcases ws with _ | ⟨x1, r1⟩
 · refine (number_none R _ HR3.out).mono ?_
   rintro e w' ⟨rfl, rfl⟩
   go_wp2_with fail
   exact ⟨rfl, HB3.out, .inr ⟨HP3.out.trans rfl, rfl⟩⟩
 refine (number_some R x1 (HML3.out x1 (by simp)) r1 _ HR3.out (fun W hg => HW.out.below (HB3.out.trans (below_of_grownR HR3.out.lt hg (Nat.le_of_lt HzR.out))))).mono ?_
 rintro e w4 ⟨hN, hv⟩
 have HB4 := Hd (HB3.out.trans (below_of_grownR HR3.out.lt hN.2 (Nat.le_of_lt HzR.out)))
 have HZ4 := Hd (HZ3.out.farR hN.2 (Nat.ne_of_lt HzR.out))
 have HR4 := Hd hN.1
 rcases hv with ⟨a, hv, rfl⟩ | ⟨hv, rfl⟩
 rotate_left
 · have HPn := Hd (HP3.out.trans (bindN_bad hv))
   clear hv hN
   go_wp2_with fail
   exact ⟨rfl, HB4.out, .inr ⟨HPn.out, rfl⟩⟩
 have HP4 := Hd (HP3.out.trans (bindN_some hv))
 have HML4 := Hd (show ∀ x ∈ r1, x.length ≤ 100000 from fun x hx => HML3.out x (List.mem_cons_of_mem _ hx))
 clear hv hN HR3 HB3 HZ3 HML3 HP3
 go_wp2_with fail
 rcases r1 with _ | ⟨x2, r2⟩
 · refine (number_none R _ HR4.out).mono ?_
   rintro e w' ⟨rfl, rfl⟩
   go_wp2_with fail
   exact ⟨rfl, HB4.out, .inr ⟨HP4.out.trans rfl, rfl⟩⟩
 refine (number_some R x2 (HML4.out x2 (by simp)) r2 _ HR4.out (fun W hg => HW.out.below (HB4.out.trans (below_of_grownR HR4.out.lt hg (Nat.le_of_lt HzR.out))))).mono ?_
 rintro e w5 ⟨hN, hv⟩
 have HB5 := Hd (HB4.out.trans (below_of_grownR HR4.out.lt hN.2 (Nat.le_of_lt HzR.out)))
 have HZ5 := Hd (HZ4.out.farR hN.2 (Nat.ne_of_lt HzR.out))
 have HR5 := Hd hN.1
 rcases hv with ⟨b, hv, rfl⟩ | ⟨hv, rfl⟩
 rotate_left
 · have HPn := Hd (HP4.out.trans (bindN_bad hv))
   clear hv hN
   go_wp2_with fail
   exact ⟨rfl, HB5.out, .inr ⟨HPn.out, rfl⟩⟩
 have HP5 := Hd (HP4.out.trans (bindN_some hv))
 have HML5 := Hd (show ∀ x ∈ r2, x.length ≤ 100000 from fun x hx => HML4.out x (List.mem_cons_of_mem _ hx))
 clear hv hN HR4 HB4 HZ4 HML4 HP4
 have hbx := BoxG.made w5 (Pa.vals ⟨a, b, 0, 0, 0, 0, [], [], 0, 0, 0, 0, 0, 0⟩) 42
 have hbb := al' (Below.refl w5.heap.size w5) (.cells (Pa.vals ⟨a, b, 0, 0, 0, 0, [], [], 0, 0, 0, 0, 0, 0⟩).toArray 42)
 simp only [Pa.vals] at hbx hbb
 go_upto_region 3 with (fail)
 have HR6 := Hd (HR5.out.below' hbb)
 have HZ6 := Hd (HZ5.out.below' hbb)
 have HB6 := Hd (HB5.out.trans (hbb.mono HB5.out.size))
 have hxR : R < w5.heap.size := HR5.out.lt
 generalize w5.alloc (.cells #[.int .i64 a, .int .i64 b, .int .u8 0, .int .i64 0, .int .i64 0, .int .i64 0, .string ⟨#[]⟩, .string ⟨#[]⟩, .int .i64 0, .int .i64 0, .int .i64 0, .int .i64 0, .int .i64 0, .int .i64 0] 42) = w6 at *
 obtain ⟨X, hX⟩ : ∃ X, w5.heap.size = X := ⟨_, rfl⟩
 rw [hX] at hbx hxR ⊢
 have HX6 := Hd (show BoxG w6 X (Pa.vals ⟨a, b, 0, 0, 0, 0, [], [], 0, 0, 0, 0, 0, 0⟩) from hbx)
 have HxR := Hd hxR
 have HP6 := HP5
 have HML6 := HML5
 clear hbx hbb hX hxR HR5 HZ5 HB5 HP5 HML5
 go_wp2_with fail
 refine (words_any _).mono ?_
 rintro e w7 ⟨rfl, hB⟩
 have HR7 := Hd (HR6.out.below' hB)
 have HZ7 := Hd (HZ6.out.below' hB)
 have HX7 := Hd (HX6.out.below' hB)
 have HB7 := Hd (HB6.out.trans (hB.mono HB6.out.size))
 have HP7 := HP6
 have HML7 := HML6
 clear hB HR6 HZ6 HB6 HP6 HML6 HX6
 go_wp2_with fail
 rcases r2 with _ | ⟨kw, rkw⟩
 · refine (next_none R _ HR7.out).mono ?_
   rintro e w' ⟨rfl, rfl⟩
   go_wp2_with fail
   exact ⟨rfl, HB7.out, .inr ⟨HP7.out.trans rfl, rfl⟩⟩
 refine (next_some R kw rkw _ HR7.out).mono ?_
 rintro e w8 ⟨rfl, hN⟩
 have HB8 := Hd (HB7.out.trans (below_of_grownR HR7.out.lt hN.2 (Nat.le_of_lt HzR.out)))
 have HZ8 := Hd (HZ7.out.farR hN.2 (Nat.ne_of_lt HzR.out))
 have HX8 := Hd (HX7.out.farR hN.2 (Nat.ne_of_gt HxR.out))
 have HR8 := Hd hN.1
 have HP8 := Hd (HP7.out.trans bindS_some)
 have HML8 := Hd (show ∀ x ∈ rkw, x.length ≤ 100000 from fun x hx => HML7.out x (List.mem_cons_of_mem _ hx))
 clear hN HR7 HB7 HZ7 HML7 HP7 HX7
 have hkb := BoxG.made w8 [.string ⟨#[]⟩, .string ⟨#[112, 97, 99, 107, 97, 103, 101]⟩, .string ⟨#[116, 111, 116, 97, 108]⟩, .string ⟨#[118, 111, 105, 100]⟩] 133
 have hbb := al' (Below.refl w8.heap.size w8) (.cells #[.string ⟨#[]⟩, .string ⟨#[112, 97, 99, 107, 97, 103, 101]⟩, .string ⟨#[116, 111, 116, 97, 108]⟩, .string ⟨#[118, 111, 105, 100]⟩] 133)
 go_upto_region 4 with (fail)
 have HR9 := Hd (HR8.out.below' hbb)
 have HZ9 := Hd (HZ8.out.below' hbb)
 have HX9 := Hd (HX8.out.below' hbb)
 have HB9 := Hd (HB8.out.trans (hbb.mono HB8.out.size))
 generalize w8.alloc (.cells #[.string ⟨#[]⟩, .string ⟨#[112, 97, 99, 107, 97, 103, 101]⟩, .string ⟨#[116, 111, 116, 97, 108]⟩, .string ⟨#[118, 111, 105, 100]⟩] 133) = w9 at *
 obtain ⟨KB, hK⟩ : ∃ X, w8.heap.size = X := ⟨_, rfl⟩
 rw [hK] at hkb ⊢
 have HKB := Hd hkb
 have HP9 := HP8
 have HML9 := HML8
 clear hkb hbb hK HR8 HZ8 HB8 HP8 HML8 HX8
 go_wp2_with fail
 refine (index_any KB kw _ (fun j hj => HKB.out.2.2 j hj)).mono ?_
 rintro e w9 ⟨rfl, rfl⟩
 obtain ⟨ki, hki⟩ : ∃ v, idxK kw = v := ⟨_, rfl⟩
 have HKI := Hd (show max 0 ki % 256 = kindP kw from by rw [← hki]; exact kind_mod kw)
 rw [hki]
 clear hki
 skip
 obtain ⟨d0, d1, d2, d3, d4, d5, d6, d7, d8, d9, d10, d11, d12, d13⟩ := HX9.out.pa
 obtain ⟨f0, f1, f2, f3, f4, f5, f6, f7, f8, f9, f10, f11, f12, f13⟩ := HX9.out.fr
 dsimp only at d0 d1 d2 d3 d4 d5 d6 d7 d8 d9 d10 d11 d12 d13
 go_upto_region 5 with (fail)
 rw [HKI.out]
 have hx : BoxG (w9.setCell ⟨X, 2, none⟩ (.int .u8 (kindP kw))) X (Pa.vals ⟨a, b, (kindP kw), 0, 0, 0, [], [], 0, 0, 0, 0, 0, 0⟩) := (HX9.out.set 2 (.int .u8 (kindP kw)) (by simp [Pa.vals]))
 have hg := (grownBy_setCell'' w9 X 2 (.int .u8 (kindP kw)))
 clear d0 d1 d2 d3 d4 d5 d6 d7 d8 d9 d10 d11 d12 d13 f0 f1 f2 f3 f4 f5 f6 f7 f8 f9 f10 f11 f12 f13
 have hlt := HX9.out.1
 generalize (w9.setCell ⟨X, 2, none⟩ (.int .u8 (kindP kw))) = w10 at *
 have HX10 := Hd hx
 have HR10 := Hd (HR9.out.farX hg HxR.out)
 have HZ10 := Hd (HZ9.out.farR hg (Nat.ne_of_lt (Nat.lt_trans HzR.out HxR.out)))
 have HB10 := Hd (HB9.out.trans (below_of_grownR hlt hg (Nat.le_of_lt (Nat.lt_trans HzR.out HxR.out))))
 have HP10 := HP9
 have HML10 := HML9
 clear hx hg hlt HR9 HZ9 HB9 HP9 HML9 HX9
 have HML10 := HML10
 by_cases k1 : kindP kw = 1
 case pos =>
  have hpk : parseW (spl l) = (if kindP kw = 1 then packageP a b rkw else if kindP kw = 2 then totalP a b rkw else if kindP kw = 3 then voidP a b rkw else some ⟨a, b, 0, 0, 0, 0, [], [], 0, 0, 0, 0, 0, 0⟩) := HP10.out
  rw [if_pos k1] at hpk
  have HPk := Hd hpk
  clear hpk
  have HK := Hd k1
  rw [k1] at HX10
  clear HP10 k1
  have HP10 := HPk
  clear HPk
  obtain ⟨d0, d1, d2, d3, d4, d5, d6, d7, d8, d9, d10, d11, d12, d13⟩ := HX10.out.pa
  dsimp only at d0 d1 d2 d3 d4 d5 d6 d7 d8 d9 d10 d11 d12 d13
  go_wp2_with fail
  rcases rkw with _ | ⟨x3, r3⟩
  · refine (number_none R _ HR10.out).mono ?_
    rintro e w' ⟨rfl, rfl⟩
    go_wp2_with fail
    exact ⟨rfl, HB10.out, .inr ⟨HP10.out.trans rfl, rfl⟩⟩
  refine (number_some R x3 (HML10.out x3 (by simp)) r3 _ HR10.out (fun W hg => HW.out.below (HB10.out.trans (below_of_grownR HR10.out.lt hg (Nat.le_of_lt HzR.out))))).mono ?_
  rintro e w11 ⟨hN, hv⟩
  have HB11 := Hd (HB10.out.trans (below_of_grownR HR10.out.lt hN.2 (Nat.le_of_lt HzR.out)))
  have HZ11 := Hd (HZ10.out.farR hN.2 (Nat.ne_of_lt HzR.out))
  have HX11 := Hd (HX10.out.farR hN.2 (Nat.ne_of_gt HxR.out))
  have HR11 := Hd hN.1
  rcases hv with ⟨c, hv, rfl⟩ | ⟨hv, rfl⟩
  rotate_left
  · have HPn := Hd (HP10.out.trans (bindN_bad hv))
    clear hv hN
    go_wp2_with fail
    exact ⟨rfl, HB11.out, .inr ⟨HPn.out, rfl⟩⟩
  have HP11 := Hd (HP10.out.trans (bindN_some hv))
  have HML11 := Hd (show ∀ x ∈ r3, x.length ≤ 100000 from fun x hx => HML10.out x (List.mem_cons_of_mem _ hx))
  clear hv hN HR10 HB10 HZ10 HML10 HP10 HX10
  go_wp2_with fail
  rcases r3 with _ | ⟨x4, r4⟩
  · refine (number_none R _ HR11.out).mono ?_
    rintro e w' ⟨rfl, rfl⟩
    go_wp2_with fail
    exact ⟨rfl, HB11.out, .inr ⟨HP11.out.trans rfl, rfl⟩⟩
  refine (number_some R x4 (HML11.out x4 (by simp)) r4 _ HR11.out (fun W hg => HW.out.below (HB11.out.trans (below_of_grownR HR11.out.lt hg (Nat.le_of_lt HzR.out))))).mono ?_
  rintro e w12 ⟨hN, hv⟩
  have HB12 := Hd (HB11.out.trans (below_of_grownR HR11.out.lt hN.2 (Nat.le_of_lt HzR.out)))
  have HZ12 := Hd (HZ11.out.farR hN.2 (Nat.ne_of_lt HzR.out))
  have HX12 := Hd (HX11.out.farR hN.2 (Nat.ne_of_gt HxR.out))
  have HR12 := Hd hN.1
  rcases hv with ⟨d, hv, rfl⟩ | ⟨hv, rfl⟩
  rotate_left
  · have HPn := Hd (HP11.out.trans (bindN_bad hv))
    clear hv hN
    go_wp2_with fail
    exact ⟨rfl, HB12.out, .inr ⟨HPn.out, rfl⟩⟩
  have HP12 := Hd (HP11.out.trans (bindN_some hv))
  have HML12 := Hd (show ∀ x ∈ r4, x.length ≤ 100000 from fun x hx => HML11.out x (List.mem_cons_of_mem _ hx))
  clear hv hN HR11 HB11 HZ11 HML11 HP11 HX11
  go_wp2_with fail
  rcases r4 with _ | ⟨x5, r5⟩
  · refine (number_none R _ HR12.out).mono ?_
    rintro e w' ⟨rfl, rfl⟩
    go_wp2_with fail
    exact ⟨rfl, HB12.out, .inr ⟨HP12.out.trans rfl, rfl⟩⟩
  refine (number_some R x5 (HML12.out x5 (by simp)) r5 _ HR12.out (fun W hg => HW.out.below (HB12.out.trans (below_of_grownR HR12.out.lt hg (Nat.le_of_lt HzR.out))))).mono ?_
  rintro e w13 ⟨hN, hv⟩
  have HB13 := Hd (HB12.out.trans (below_of_grownR HR12.out.lt hN.2 (Nat.le_of_lt HzR.out)))
  have HZ13 := Hd (HZ12.out.farR hN.2 (Nat.ne_of_lt HzR.out))
  have HX13 := Hd (HX12.out.farR hN.2 (Nat.ne_of_gt HxR.out))
  have HR13 := Hd hN.1
  rcases hv with ⟨e, hv, rfl⟩ | ⟨hv, rfl⟩
  rotate_left
  · have HPn := Hd (HP12.out.trans (bindN_bad hv))
    clear hv hN
    go_wp2_with fail
    exact ⟨rfl, HB13.out, .inr ⟨HPn.out, rfl⟩⟩
  have HP13 := Hd (HP12.out.trans (bindN_some hv))
  have HML13 := Hd (show ∀ x ∈ r5, x.length ≤ 100000 from fun x hx => HML12.out x (List.mem_cons_of_mem _ hx))
  clear hv hN HR12 HB12 HZ12 HML12 HP12 HX12
  obtain ⟨d0, d1, d2, d3, d4, d5, d6, d7, d8, d9, d10, d11, d12, d13⟩ := HX13.out.pa
  obtain ⟨f0, f1, f2, f3, f4, f5, f6, f7, f8, f9, f10, f11, f12, f13⟩ := HX13.out.fr
  dsimp only at d0 d1 d2 d3 d4 d5 d6 d7 d8 d9 d10 d11 d12 d13
  go_upto_region 8 with (fail)
  have hx : BoxG (((w13.setCell ⟨X, 3, none⟩ (.int .i64 c)).setCell ⟨X, 4, none⟩ (.int .i64 d)).setCell ⟨X, 5, none⟩ (.int .i64 e)) X (Pa.vals ⟨a, b, 1, c, d, e, [], [], 0, 0, 0, 0, 0, 0⟩) := (((HX13.out.set 3 (.int .i64 c) (by simp [Pa.vals])).set 4 (.int .i64 d) (by simp [Pa.vals])).set 5 (.int .i64 e) (by simp [Pa.vals]))
  have hg := (((grownBy_setCell'' w13 X 3 (.int .i64 c)).trans (grownBy_setCell'' (w13.setCell ⟨X, 3, none⟩ (.int .i64 c)) X 4 (.int .i64 d))).trans (grownBy_setCell'' ((w13.setCell ⟨X, 3, none⟩ (.int .i64 c)).setCell ⟨X, 4, none⟩ (.int .i64 d)) X 5 (.int .i64 e)))
  clear d0 d1 d2 d3 d4 d5 d6 d7 d8 d9 d10 d11 d12 d13 f0 f1 f2 f3 f4 f5 f6 f7 f8 f9 f10 f11 f12 f13
  have hlt := HX13.out.1
  generalize (((w13.setCell ⟨X, 3, none⟩ (.int .i64 c)).setCell ⟨X, 4, none⟩ (.int .i64 d)).setCell ⟨X, 5, none⟩ (.int .i64 e)) = w14 at *
  have HX14 := Hd hx
  have HR14 := Hd (HR13.out.farX hg HxR.out)
  have HZ14 := Hd (HZ13.out.farR hg (Nat.ne_of_lt (Nat.lt_trans HzR.out HxR.out)))
  have HB14 := Hd (HB13.out.trans (below_of_grownR hlt hg (Nat.le_of_lt (Nat.lt_trans HzR.out HxR.out))))
  have HP14 := HP13
  have HML14 := HML13
  clear hx hg hlt HR13 HZ13 HB13 HP13 HML13 HX13
  go_wp2_with fail
  rcases r5 with _ | ⟨m, rm⟩
  · refine (next_none R _ HR14.out).mono ?_
    rintro e w' ⟨rfl, rfl⟩
    go_wp2_with fail
    exact ⟨rfl, HB14.out, .inr ⟨HP14.out.trans rfl, rfl⟩⟩
  refine (next_some R m rm _ HR14.out).mono ?_
  rintro e w15 ⟨rfl, hN⟩
  have HB15 := Hd (HB14.out.trans (below_of_grownR HR14.out.lt hN.2 (Nat.le_of_lt HzR.out)))
  have HZ15 := Hd (HZ14.out.farR hN.2 (Nat.ne_of_lt HzR.out))
  have HX15 := Hd (HX14.out.farR hN.2 (Nat.ne_of_gt HxR.out))
  have HR15 := Hd hN.1
  have HP15 := Hd (HP14.out.trans bindS_some)
  have HML15 := Hd (show ∀ x ∈ rm, x.length ≤ 100000 from fun x hx => HML14.out x (List.mem_cons_of_mem _ hx))
  clear hN HR14 HB14 HZ14 HML14 HP14 HX14
  go_wp2_with fail
  rcases rm with _ | ⟨g, rg⟩
  · refine (next_none R _ HR15.out).mono ?_
    rintro e w' ⟨rfl, rfl⟩
    go_wp2_with fail
    exact ⟨rfl, HB15.out, .inr ⟨HP15.out.trans rfl, rfl⟩⟩
  refine (next_some R g rg _ HR15.out).mono ?_
  rintro e w16 ⟨rfl, hN⟩
  have HB16 := Hd (HB15.out.trans (below_of_grownR HR15.out.lt hN.2 (Nat.le_of_lt HzR.out)))
  have HZ16 := Hd (HZ15.out.farR hN.2 (Nat.ne_of_lt HzR.out))
  have HX16 := Hd (HX15.out.farR hN.2 (Nat.ne_of_gt HxR.out))
  have HR16 := Hd hN.1
  have HP16 := Hd (HP15.out.trans bindS_some)
  have HML16 := Hd (show ∀ x ∈ rg, x.length ≤ 100000 from fun x hx => HML15.out x (List.mem_cons_of_mem _ hx))
  clear hN HR15 HB15 HZ15 HML15 HP15 HX15
  obtain ⟨d0, d1, d2, d3, d4, d5, d6, d7, d8, d9, d10, d11, d12, d13⟩ := HX16.out.pa
  obtain ⟨f0, f1, f2, f3, f4, f5, f6, f7, f8, f9, f10, f11, f12, f13⟩ := HX16.out.fr
  dsimp only at d0 d1 d2 d3 d4 d5 d6 d7 d8 d9 d10 d11 d12 d13
  go_upto_region 9 with (fail)
  have hx : BoxG ((w16.setCell ⟨X, 6, none⟩ (.string ⟨m.toArray⟩)).setCell ⟨X, 7, none⟩ (.string ⟨g.toArray⟩)) X (Pa.vals ⟨a, b, 1, c, d, e, m, g, 0, 0, 0, 0, 0, 0⟩) := ((HX16.out.set 6 (.string ⟨m.toArray⟩) (by simp [Pa.vals])).set 7 (.string ⟨g.toArray⟩) (by simp [Pa.vals]))
  have hg := ((grownBy_setCell'' w16 X 6 (.string ⟨m.toArray⟩)).trans (grownBy_setCell'' (w16.setCell ⟨X, 6, none⟩ (.string ⟨m.toArray⟩)) X 7 (.string ⟨g.toArray⟩)))
  clear d0 d1 d2 d3 d4 d5 d6 d7 d8 d9 d10 d11 d12 d13 f0 f1 f2 f3 f4 f5 f6 f7 f8 f9 f10 f11 f12 f13
  have hlt := HX16.out.1
  generalize ((w16.setCell ⟨X, 6, none⟩ (.string ⟨m.toArray⟩)).setCell ⟨X, 7, none⟩ (.string ⟨g.toArray⟩)) = w17 at *
  have HX17 := Hd hx
  have HR17 := Hd (HR16.out.farX hg HxR.out)
  have HZ17 := Hd (HZ16.out.farR hg (Nat.ne_of_lt (Nat.lt_trans HzR.out HxR.out)))
  have HB17 := Hd (HB16.out.trans (below_of_grownR hlt hg (Nat.le_of_lt (Nat.lt_trans HzR.out HxR.out))))
  have HP17 := HP16
  have HML17 := HML16
  clear hx hg hlt HR16 HZ16 HB16 HP16 HML16 HX16
  go_wp2_with fail
  rcases rg with _ | ⟨x6, r6⟩
  · refine (number_none R _ HR17.out).mono ?_
    rintro e w' ⟨rfl, rfl⟩
    go_wp2_with fail
    exact ⟨rfl, HB17.out, .inr ⟨HP17.out.trans rfl, rfl⟩⟩
  refine (number_some R x6 (HML17.out x6 (by simp)) r6 _ HR17.out (fun W hg => HW.out.below (HB17.out.trans (below_of_grownR HR17.out.lt hg (Nat.le_of_lt HzR.out))))).mono ?_
  rintro e w18 ⟨hN, hv⟩
  have HB18 := Hd (HB17.out.trans (below_of_grownR HR17.out.lt hN.2 (Nat.le_of_lt HzR.out)))
  have HZ18 := Hd (HZ17.out.farR hN.2 (Nat.ne_of_lt HzR.out))
  have HX18 := Hd (HX17.out.farR hN.2 (Nat.ne_of_gt HxR.out))
  have HR18 := Hd hN.1
  rcases hv with ⟨h, hv, rfl⟩ | ⟨hv, rfl⟩
  rotate_left
  · have HPn := Hd (HP17.out.trans (bindN_bad hv))
    clear hv hN
    go_wp2_with fail
    exact ⟨rfl, HB18.out, .inr ⟨HPn.out, rfl⟩⟩
  have HP18 := Hd (HP17.out.trans (bindN_some hv))
  have HML18 := Hd (show ∀ x ∈ r6, x.length ≤ 100000 from fun x hx => HML17.out x (List.mem_cons_of_mem _ hx))
  clear hv hN HR17 HB17 HZ17 HML17 HP17 HX17
  go_wp2_with fail
  rcases r6 with _ | ⟨x7, r7⟩
  · refine (number_none R _ HR18.out).mono ?_
    rintro e w' ⟨rfl, rfl⟩
    go_wp2_with fail
    exact ⟨rfl, HB18.out, .inr ⟨HP18.out.trans rfl, rfl⟩⟩
  refine (number_some R x7 (HML18.out x7 (by simp)) r7 _ HR18.out (fun W hg => HW.out.below (HB18.out.trans (below_of_grownR HR18.out.lt hg (Nat.le_of_lt HzR.out))))).mono ?_
  rintro e w19 ⟨hN, hv⟩
  have HB19 := Hd (HB18.out.trans (below_of_grownR HR18.out.lt hN.2 (Nat.le_of_lt HzR.out)))
  have HZ19 := Hd (HZ18.out.farR hN.2 (Nat.ne_of_lt HzR.out))
  have HX19 := Hd (HX18.out.farR hN.2 (Nat.ne_of_gt HxR.out))
  have HR19 := Hd hN.1
  rcases hv with ⟨i, hv, rfl⟩ | ⟨hv, rfl⟩
  rotate_left
  · have HPn := Hd (HP18.out.trans (bindN_bad hv))
    clear hv hN
    go_wp2_with fail
    exact ⟨rfl, HB19.out, .inr ⟨HPn.out, rfl⟩⟩
  have HP19 := Hd (HP18.out.trans (bindN_some hv))
  have HML19 := Hd (show ∀ x ∈ r7, x.length ≤ 100000 from fun x hx => HML18.out x (List.mem_cons_of_mem _ hx))
  clear hv hN HR18 HB18 HZ18 HML18 HP18 HX18
  go_wp2_with fail
  rcases r7 with _ | ⟨x8, r8⟩
  · refine (number_none R _ HR19.out).mono ?_
    rintro e w' ⟨rfl, rfl⟩
    go_wp2_with fail
    exact ⟨rfl, HB19.out, .inr ⟨HP19.out.trans rfl, rfl⟩⟩
  refine (number_some R x8 (HML19.out x8 (by simp)) r8 _ HR19.out (fun W hg => HW.out.below (HB19.out.trans (below_of_grownR HR19.out.lt hg (Nat.le_of_lt HzR.out))))).mono ?_
  rintro e w20 ⟨hN, hv⟩
  have HB20 := Hd (HB19.out.trans (below_of_grownR HR19.out.lt hN.2 (Nat.le_of_lt HzR.out)))
  have HZ20 := Hd (HZ19.out.farR hN.2 (Nat.ne_of_lt HzR.out))
  have HX20 := Hd (HX19.out.farR hN.2 (Nat.ne_of_gt HxR.out))
  have HR20 := Hd hN.1
  rcases hv with ⟨j, hv, rfl⟩ | ⟨hv, rfl⟩
  rotate_left
  · have HPn := Hd (HP19.out.trans (bindN_bad hv))
    clear hv hN
    go_wp2_with fail
    exact ⟨rfl, HB20.out, .inr ⟨HPn.out, rfl⟩⟩
  have HP20 := Hd (HP19.out.trans (bindN_some hv))
  have HML20 := Hd (show ∀ x ∈ r8, x.length ≤ 100000 from fun x hx => HML19.out x (List.mem_cons_of_mem _ hx))
  clear hv hN HR19 HB19 HZ19 HML19 HP19 HX19
  go_wp2_with fail
  rcases r8 with _ | ⟨x9, r9⟩
  · refine (number_none R _ HR20.out).mono ?_
    rintro e w' ⟨rfl, rfl⟩
    go_wp2_with fail
    exact ⟨rfl, HB20.out, .inr ⟨HP20.out.trans rfl, rfl⟩⟩
  refine (number_some R x9 (HML20.out x9 (by simp)) r9 _ HR20.out (fun W hg => HW.out.below (HB20.out.trans (below_of_grownR HR20.out.lt hg (Nat.le_of_lt HzR.out))))).mono ?_
  rintro e w21 ⟨hN, hv⟩
  have HB21 := Hd (HB20.out.trans (below_of_grownR HR20.out.lt hN.2 (Nat.le_of_lt HzR.out)))
  have HZ21 := Hd (HZ20.out.farR hN.2 (Nat.ne_of_lt HzR.out))
  have HX21 := Hd (HX20.out.farR hN.2 (Nat.ne_of_gt HxR.out))
  have HR21 := Hd hN.1
  rcases hv with ⟨q, hv, rfl⟩ | ⟨hv, rfl⟩
  rotate_left
  · have HPn := Hd (HP20.out.trans (bindN_bad hv))
    clear hv hN
    go_wp2_with fail
    exact ⟨rfl, HB21.out, .inr ⟨HPn.out, rfl⟩⟩
  have HP21 := Hd (HP20.out.trans (bindN_some hv))
  have HML21 := Hd (show ∀ x ∈ r9, x.length ≤ 100000 from fun x hx => HML20.out x (List.mem_cons_of_mem _ hx))
  clear hv hN HR20 HB20 HZ20 HML20 HP20 HX20
  obtain ⟨d0, d1, d2, d3, d4, d5, d6, d7, d8, d9, d10, d11, d12, d13⟩ := HX21.out.pa
  obtain ⟨f0, f1, f2, f3, f4, f5, f6, f7, f8, f9, f10, f11, f12, f13⟩ := HX21.out.fr
  dsimp only at d0 d1 d2 d3 d4 d5 d6 d7 d8 d9 d10 d11 d12 d13
  go_upto_region 14 with (fail)
  have hx : BoxG ((((w21.setCell ⟨X, 8, none⟩ (.int .i64 h)).setCell ⟨X, 9, none⟩ (.int .i64 i)).setCell ⟨X, 10, none⟩ (.int .i64 j)).setCell ⟨X, 11, none⟩ (.int .i64 q)) X (Pa.vals ⟨a, b, 1, c, d, e, m, g, h, i, j, q, 0, 0⟩) := ((((HX21.out.set 8 (.int .i64 h) (by simp [Pa.vals])).set 9 (.int .i64 i) (by simp [Pa.vals])).set 10 (.int .i64 j) (by simp [Pa.vals])).set 11 (.int .i64 q) (by simp [Pa.vals]))
  have hg := ((((grownBy_setCell'' w21 X 8 (.int .i64 h)).trans (grownBy_setCell'' (w21.setCell ⟨X, 8, none⟩ (.int .i64 h)) X 9 (.int .i64 i))).trans (grownBy_setCell'' ((w21.setCell ⟨X, 8, none⟩ (.int .i64 h)).setCell ⟨X, 9, none⟩ (.int .i64 i)) X 10 (.int .i64 j))).trans (grownBy_setCell'' (((w21.setCell ⟨X, 8, none⟩ (.int .i64 h)).setCell ⟨X, 9, none⟩ (.int .i64 i)).setCell ⟨X, 10, none⟩ (.int .i64 j)) X 11 (.int .i64 q)))
  clear d0 d1 d2 d3 d4 d5 d6 d7 d8 d9 d10 d11 d12 d13 f0 f1 f2 f3 f4 f5 f6 f7 f8 f9 f10 f11 f12 f13
  have hlt := HX21.out.1
  generalize ((((w21.setCell ⟨X, 8, none⟩ (.int .i64 h)).setCell ⟨X, 9, none⟩ (.int .i64 i)).setCell ⟨X, 10, none⟩ (.int .i64 j)).setCell ⟨X, 11, none⟩ (.int .i64 q)) = w22 at *
  have HX22 := Hd hx
  have HR22 := Hd (HR21.out.farX hg HxR.out)
  have HZ22 := Hd (HZ21.out.farR hg (Nat.ne_of_lt (Nat.lt_trans HzR.out HxR.out)))
  have HB22 := Hd (HB21.out.trans (below_of_grownR hlt hg (Nat.le_of_lt (Nat.lt_trans HzR.out HxR.out))))
  have HP22 := HP21
  have HML22 := HML21
  clear hx hg hlt HR21 HZ21 HB21 HP21 HML21 HX21
  obtain ⟨d0, d1, d2, d3, d4, d5, d6, d7, d8, d9, d10, d11, d12, d13⟩ := HX22.out.pa
  dsimp only at d0 d1 d2 d3 d4 d5 d6 d7 d8 d9 d10 d11 d12 d13
  obtain ⟨c0, c1, c2, c3, c4, c5, c6, c7, c8, c9, c10, c11, c12, c13⟩ := HZ22.out.pa
  simp only [pa0] at c0 c1 c2 c3 c4 c5 c6 c7 c8 c9 c10 c11 c12 c13
  obtain ⟨f0, f1, f2, f3, f4, f5, f6, f7, f8, f9, f10, f11, f12, f13⟩ := HZ22.out.fr
  go_wp2_with fail
  have hz : BoxG ((((((((((((((w22.setCell ⟨w.heap.size, 0, none⟩ (.int .i64 a)).setCell ⟨w.heap.size, 1, none⟩ (.int .i64 b)).setCell ⟨w.heap.size, 2, none⟩ (.int .u8 1)).setCell ⟨w.heap.size, 3, none⟩ (.int .i64 c)).setCell ⟨w.heap.size, 4, none⟩ (.int .i64 d)).setCell ⟨w.heap.size, 5, none⟩ (.int .i64 e)).setCell ⟨w.heap.size, 6, none⟩ (.string ⟨m.toArray⟩)).setCell ⟨w.heap.size, 7, none⟩ (.string ⟨g.toArray⟩)).setCell ⟨w.heap.size, 8, none⟩ (.int .i64 h)).setCell ⟨w.heap.size, 9, none⟩ (.int .i64 i)).setCell ⟨w.heap.size, 10, none⟩ (.int .i64 j)).setCell ⟨w.heap.size, 11, none⟩ (.int .i64 q)).setCell ⟨w.heap.size, 12, none⟩ (.int .i64 0)).setCell ⟨w.heap.size, 13, none⟩ (.int .i64 0)) w.heap.size (Pa.vals ⟨a, b, 1, c, d, e, m, g, h, i, j, q, 0, 0⟩) := ((((((((((((((HZ22.out.set 0 (.int .i64 a) (by simp [Pa.vals])).set 1 (.int .i64 b) (by simp [Pa.vals])).set 2 (.int .u8 1) (by simp [Pa.vals])).set 3 (.int .i64 c) (by simp [Pa.vals])).set 4 (.int .i64 d) (by simp [Pa.vals])).set 5 (.int .i64 e) (by simp [Pa.vals])).set 6 (.string ⟨m.toArray⟩) (by simp [Pa.vals])).set 7 (.string ⟨g.toArray⟩) (by simp [Pa.vals])).set 8 (.int .i64 h) (by simp [Pa.vals])).set 9 (.int .i64 i) (by simp [Pa.vals])).set 10 (.int .i64 j) (by simp [Pa.vals])).set 11 (.int .i64 q) (by simp [Pa.vals])).set 12 (.int .i64 0) (by simp [Pa.vals])).set 13 (.int .i64 0) (by simp [Pa.vals]))
  have hb5 := ((((((((((((((HB22.out.setCell (p := ⟨w.heap.size, 0, none⟩) (Nat.le_refl _) (.int .i64 a)).setCell (p := ⟨w.heap.size, 1, none⟩) (Nat.le_refl _) (.int .i64 b)).setCell (p := ⟨w.heap.size, 2, none⟩) (Nat.le_refl _) (.int .u8 1)).setCell (p := ⟨w.heap.size, 3, none⟩) (Nat.le_refl _) (.int .i64 c)).setCell (p := ⟨w.heap.size, 4, none⟩) (Nat.le_refl _) (.int .i64 d)).setCell (p := ⟨w.heap.size, 5, none⟩) (Nat.le_refl _) (.int .i64 e)).setCell (p := ⟨w.heap.size, 6, none⟩) (Nat.le_refl _) (.string ⟨m.toArray⟩)).setCell (p := ⟨w.heap.size, 7, none⟩) (Nat.le_refl _) (.string ⟨g.toArray⟩)).setCell (p := ⟨w.heap.size, 8, none⟩) (Nat.le_refl _) (.int .i64 h)).setCell (p := ⟨w.heap.size, 9, none⟩) (Nat.le_refl _) (.int .i64 i)).setCell (p := ⟨w.heap.size, 10, none⟩) (Nat.le_refl _) (.int .i64 j)).setCell (p := ⟨w.heap.size, 11, none⟩) (Nat.le_refl _) (.int .i64 q)).setCell (p := ⟨w.heap.size, 12, none⟩) (Nat.le_refl _) (.int .i64 0)).setCell (p := ⟨w.heap.size, 13, none⟩) (Nat.le_refl _) (.int .i64 0))
  clear c0 c1 c2 c3 c4 c5 c6 c7 c8 c9 c10 c11 c12 c13 d0 d1 d2 d3 d4 d5 d6 d7 d8 d9 d10 d11 d12 d13 f0 f1 f2 f3 f4 f5 f6 f7 f8 f9 f10 f11 f12 f13
  generalize ((((((((((((((w22.setCell ⟨w.heap.size, 0, none⟩ (.int .i64 a)).setCell ⟨w.heap.size, 1, none⟩ (.int .i64 b)).setCell ⟨w.heap.size, 2, none⟩ (.int .u8 1)).setCell ⟨w.heap.size, 3, none⟩ (.int .i64 c)).setCell ⟨w.heap.size, 4, none⟩ (.int .i64 d)).setCell ⟨w.heap.size, 5, none⟩ (.int .i64 e)).setCell ⟨w.heap.size, 6, none⟩ (.string ⟨m.toArray⟩)).setCell ⟨w.heap.size, 7, none⟩ (.string ⟨g.toArray⟩)).setCell ⟨w.heap.size, 8, none⟩ (.int .i64 h)).setCell ⟨w.heap.size, 9, none⟩ (.int .i64 i)).setCell ⟨w.heap.size, 10, none⟩ (.int .i64 j)).setCell ⟨w.heap.size, 11, none⟩ (.int .i64 q)).setCell ⟨w.heap.size, 12, none⟩ (.int .i64 0)).setCell ⟨w.heap.size, 13, none⟩ (.int .i64 0)) = W5 at *
  have zl3 := hz.1
  obtain ⟨r0, r1, r2, r3, r4, r5, r6, r7, r8, r9, r10, r11, r12, r13⟩ := hz.pa
  dsimp only at r0 r1 r2 r3 r4 r5 r6 r7 r8 r9 r10 r11 r12 r13
  have HB5 := Hd hb5
  clear hb5 hz
  refine bodyPost_ret (v := .agg #[.int .i64 a, .int .i64 b, .int .u8 1, .int .i64 c, .int .i64 d, .int .i64 e, .string ⟨m.toArray⟩, .string ⟨g.toArray⟩, .int .i64 h, .int .i64 i, .int .i64 j, .int .i64 q, .int .i64 0, .int .i64 0]) (by simp [results, Tryz.results51, go_sem, zl3, r0, r1, r2, r3, r4, r5, r6, r7, r8, r9, r10, r11, r12, r13]) rfl ⟨HB5.out, .inl ⟨_, HP22.out.trans rfl, rfl⟩⟩
 have e1 : (kindP kw == 1) = false := by simpa using k1
 have K1 := Hd k1
 clear k1
 by_cases k2 : kindP kw = 2
 case pos =>
  have hpk : parseW (spl l) = (if kindP kw = 1 then packageP a b rkw else if kindP kw = 2 then totalP a b rkw else if kindP kw = 3 then voidP a b rkw else some ⟨a, b, 0, 0, 0, 0, [], [], 0, 0, 0, 0, 0, 0⟩) := HP10.out
  rw [if_neg K1.out, if_pos k2] at hpk
  have HPk := Hd hpk
  clear hpk
  have HK := Hd k2
  rw [k2] at HX10
  clear HP10 k2
  have HP10 := HPk
  clear HPk
  obtain ⟨d0, d1, d2, d3, d4, d5, d6, d7, d8, d9, d10, d11, d12, d13⟩ := HX10.out.pa
  dsimp only at d0 d1 d2 d3 d4 d5 d6 d7 d8 d9 d10 d11 d12 d13
  go_wp2_with fail
  rcases rkw with _ | ⟨x10, r10⟩
  · refine (number_none R _ HR10.out).mono ?_
    rintro e w' ⟨rfl, rfl⟩
    go_wp2_with fail
    exact ⟨rfl, HB10.out, .inr ⟨HP10.out.trans rfl, rfl⟩⟩
  refine (number_some R x10 (HML10.out x10 (by simp)) r10 _ HR10.out (fun W hg => HW.out.below (HB10.out.trans (below_of_grownR HR10.out.lt hg (Nat.le_of_lt HzR.out))))).mono ?_
  rintro e w11 ⟨hN, hv⟩
  have HB11 := Hd (HB10.out.trans (below_of_grownR HR10.out.lt hN.2 (Nat.le_of_lt HzR.out)))
  have HZ11 := Hd (HZ10.out.farR hN.2 (Nat.ne_of_lt HzR.out))
  have HX11 := Hd (HX10.out.farR hN.2 (Nat.ne_of_gt HxR.out))
  have HR11 := Hd hN.1
  rcases hv with ⟨c, hv, rfl⟩ | ⟨hv, rfl⟩
  rotate_left
  · have HPn := Hd (HP10.out.trans (bindN_bad hv))
    clear hv hN
    go_wp2_with fail
    exact ⟨rfl, HB11.out, .inr ⟨HPn.out, rfl⟩⟩
  have HP11 := Hd (HP10.out.trans (bindN_some hv))
  have HML11 := Hd (show ∀ x ∈ r10, x.length ≤ 100000 from fun x hx => HML10.out x (List.mem_cons_of_mem _ hx))
  clear hv hN HR10 HB10 HZ10 HML10 HP10 HX10
  go_wp2_with fail
  rcases r10 with _ | ⟨x11, r11⟩
  · refine (number_none R _ HR11.out).mono ?_
    rintro e w' ⟨rfl, rfl⟩
    go_wp2_with fail
    exact ⟨rfl, HB11.out, .inr ⟨HP11.out.trans rfl, rfl⟩⟩
  refine (number_some R x11 (HML11.out x11 (by simp)) r11 _ HR11.out (fun W hg => HW.out.below (HB11.out.trans (below_of_grownR HR11.out.lt hg (Nat.le_of_lt HzR.out))))).mono ?_
  rintro e w12 ⟨hN, hv⟩
  have HB12 := Hd (HB11.out.trans (below_of_grownR HR11.out.lt hN.2 (Nat.le_of_lt HzR.out)))
  have HZ12 := Hd (HZ11.out.farR hN.2 (Nat.ne_of_lt HzR.out))
  have HX12 := Hd (HX11.out.farR hN.2 (Nat.ne_of_gt HxR.out))
  have HR12 := Hd hN.1
  rcases hv with ⟨d, hv, rfl⟩ | ⟨hv, rfl⟩
  rotate_left
  · have HPn := Hd (HP11.out.trans (bindN_bad hv))
    clear hv hN
    go_wp2_with fail
    exact ⟨rfl, HB12.out, .inr ⟨HPn.out, rfl⟩⟩
  have HP12 := Hd (HP11.out.trans (bindN_some hv))
  have HML12 := Hd (show ∀ x ∈ r11, x.length ≤ 100000 from fun x hx => HML11.out x (List.mem_cons_of_mem _ hx))
  clear hv hN HR11 HB11 HZ11 HML11 HP11 HX11
  go_wp2_with fail
  rcases r11 with _ | ⟨x12, r12⟩
  · refine (number_none R _ HR12.out).mono ?_
    rintro e w' ⟨rfl, rfl⟩
    go_wp2_with fail
    exact ⟨rfl, HB12.out, .inr ⟨HP12.out.trans rfl, rfl⟩⟩
  refine (number_some R x12 (HML12.out x12 (by simp)) r12 _ HR12.out (fun W hg => HW.out.below (HB12.out.trans (below_of_grownR HR12.out.lt hg (Nat.le_of_lt HzR.out))))).mono ?_
  rintro e w13 ⟨hN, hv⟩
  have HB13 := Hd (HB12.out.trans (below_of_grownR HR12.out.lt hN.2 (Nat.le_of_lt HzR.out)))
  have HZ13 := Hd (HZ12.out.farR hN.2 (Nat.ne_of_lt HzR.out))
  have HX13 := Hd (HX12.out.farR hN.2 (Nat.ne_of_gt HxR.out))
  have HR13 := Hd hN.1
  rcases hv with ⟨e, hv, rfl⟩ | ⟨hv, rfl⟩
  rotate_left
  · have HPn := Hd (HP12.out.trans (bindN_bad hv))
    clear hv hN
    go_wp2_with fail
    exact ⟨rfl, HB13.out, .inr ⟨HPn.out, rfl⟩⟩
  have HP13 := Hd (HP12.out.trans (bindN_some hv))
  have HML13 := Hd (show ∀ x ∈ r12, x.length ≤ 100000 from fun x hx => HML12.out x (List.mem_cons_of_mem _ hx))
  clear hv hN HR12 HB12 HZ12 HML12 HP12 HX12
  go_wp2_with fail
  rcases r12 with _ | ⟨x13, r13⟩
  · refine (number_none R _ HR13.out).mono ?_
    rintro e w' ⟨rfl, rfl⟩
    go_wp2_with fail
    exact ⟨rfl, HB13.out, .inr ⟨HP13.out.trans rfl, rfl⟩⟩
  refine (number_some R x13 (HML13.out x13 (by simp)) r13 _ HR13.out (fun W hg => HW.out.below (HB13.out.trans (below_of_grownR HR13.out.lt hg (Nat.le_of_lt HzR.out))))).mono ?_
  rintro e w14 ⟨hN, hv⟩
  have HB14 := Hd (HB13.out.trans (below_of_grownR HR13.out.lt hN.2 (Nat.le_of_lt HzR.out)))
  have HZ14 := Hd (HZ13.out.farR hN.2 (Nat.ne_of_lt HzR.out))
  have HX14 := Hd (HX13.out.farR hN.2 (Nat.ne_of_gt HxR.out))
  have HR14 := Hd hN.1
  rcases hv with ⟨f, hv, rfl⟩ | ⟨hv, rfl⟩
  rotate_left
  · have HPn := Hd (HP13.out.trans (bindN_bad hv))
    clear hv hN
    go_wp2_with fail
    exact ⟨rfl, HB14.out, .inr ⟨HPn.out, rfl⟩⟩
  have HP14 := Hd (HP13.out.trans (bindN_some hv))
  have HML14 := Hd (show ∀ x ∈ r13, x.length ≤ 100000 from fun x hx => HML13.out x (List.mem_cons_of_mem _ hx))
  clear hv hN HR13 HB13 HZ13 HML13 HP13 HX13
  go_wp2_with fail
  rcases r13 with _ | ⟨x14, r14⟩
  · refine (number_none R _ HR14.out).mono ?_
    rintro e w' ⟨rfl, rfl⟩
    go_wp2_with fail
    exact ⟨rfl, HB14.out, .inr ⟨HP14.out.trans rfl, rfl⟩⟩
  refine (number_some R x14 (HML14.out x14 (by simp)) r14 _ HR14.out (fun W hg => HW.out.below (HB14.out.trans (below_of_grownR HR14.out.lt hg (Nat.le_of_lt HzR.out))))).mono ?_
  rintro e w15 ⟨hN, hv⟩
  have HB15 := Hd (HB14.out.trans (below_of_grownR HR14.out.lt hN.2 (Nat.le_of_lt HzR.out)))
  have HZ15 := Hd (HZ14.out.farR hN.2 (Nat.ne_of_lt HzR.out))
  have HX15 := Hd (HX14.out.farR hN.2 (Nat.ne_of_gt HxR.out))
  have HR15 := Hd hN.1
  rcases hv with ⟨g, hv, rfl⟩ | ⟨hv, rfl⟩
  rotate_left
  · have HPn := Hd (HP14.out.trans (bindN_bad hv))
    clear hv hN
    go_wp2_with fail
    exact ⟨rfl, HB15.out, .inr ⟨HPn.out, rfl⟩⟩
  have HP15 := Hd (HP14.out.trans (bindN_some hv))
  have HML15 := Hd (show ∀ x ∈ r14, x.length ≤ 100000 from fun x hx => HML14.out x (List.mem_cons_of_mem _ hx))
  clear hv hN HR14 HB14 HZ14 HML14 HP14 HX14
  obtain ⟨d0, d1, d2, d3, d4, d5, d6, d7, d8, d9, d10, d11, d12, d13⟩ := HX15.out.pa
  obtain ⟨f0, f1, f2, f3, f4, f5, f6, f7, f8, f9, f10, f11, f12, f13⟩ := HX15.out.fr
  dsimp only at d0 d1 d2 d3 d4 d5 d6 d7 d8 d9 d10 d11 d12 d13
  go_upto_region 14 with (fail)
  have hx : BoxG (((((w15.setCell ⟨X, 3, none⟩ (.int .i64 c)).setCell ⟨X, 4, none⟩ (.int .i64 d)).setCell ⟨X, 12, none⟩ (.int .i64 e)).setCell ⟨X, 8, none⟩ (.int .i64 f)).setCell ⟨X, 9, none⟩ (.int .i64 g)) X (Pa.vals ⟨a, b, 2, c, d, 0, [], [], f, g, 0, 0, e, 0⟩) := (((((HX15.out.set 3 (.int .i64 c) (by simp [Pa.vals])).set 4 (.int .i64 d) (by simp [Pa.vals])).set 12 (.int .i64 e) (by simp [Pa.vals])).set 8 (.int .i64 f) (by simp [Pa.vals])).set 9 (.int .i64 g) (by simp [Pa.vals]))
  have hg := (((((grownBy_setCell'' w15 X 3 (.int .i64 c)).trans (grownBy_setCell'' (w15.setCell ⟨X, 3, none⟩ (.int .i64 c)) X 4 (.int .i64 d))).trans (grownBy_setCell'' ((w15.setCell ⟨X, 3, none⟩ (.int .i64 c)).setCell ⟨X, 4, none⟩ (.int .i64 d)) X 12 (.int .i64 e))).trans (grownBy_setCell'' (((w15.setCell ⟨X, 3, none⟩ (.int .i64 c)).setCell ⟨X, 4, none⟩ (.int .i64 d)).setCell ⟨X, 12, none⟩ (.int .i64 e)) X 8 (.int .i64 f))).trans (grownBy_setCell'' ((((w15.setCell ⟨X, 3, none⟩ (.int .i64 c)).setCell ⟨X, 4, none⟩ (.int .i64 d)).setCell ⟨X, 12, none⟩ (.int .i64 e)).setCell ⟨X, 8, none⟩ (.int .i64 f)) X 9 (.int .i64 g)))
  clear d0 d1 d2 d3 d4 d5 d6 d7 d8 d9 d10 d11 d12 d13 f0 f1 f2 f3 f4 f5 f6 f7 f8 f9 f10 f11 f12 f13
  have hlt := HX15.out.1
  generalize (((((w15.setCell ⟨X, 3, none⟩ (.int .i64 c)).setCell ⟨X, 4, none⟩ (.int .i64 d)).setCell ⟨X, 12, none⟩ (.int .i64 e)).setCell ⟨X, 8, none⟩ (.int .i64 f)).setCell ⟨X, 9, none⟩ (.int .i64 g)) = w16 at *
  have HX16 := Hd hx
  have HR16 := Hd (HR15.out.farX hg HxR.out)
  have HZ16 := Hd (HZ15.out.farR hg (Nat.ne_of_lt (Nat.lt_trans HzR.out HxR.out)))
  have HB16 := Hd (HB15.out.trans (below_of_grownR hlt hg (Nat.le_of_lt (Nat.lt_trans HzR.out HxR.out))))
  have HP16 := HP15
  have HML16 := HML15
  clear hx hg hlt HR15 HZ15 HB15 HP15 HML15 HX15
  obtain ⟨d0, d1, d2, d3, d4, d5, d6, d7, d8, d9, d10, d11, d12, d13⟩ := HX16.out.pa
  dsimp only at d0 d1 d2 d3 d4 d5 d6 d7 d8 d9 d10 d11 d12 d13
  obtain ⟨c0, c1, c2, c3, c4, c5, c6, c7, c8, c9, c10, c11, c12, c13⟩ := HZ16.out.pa
  simp only [pa0] at c0 c1 c2 c3 c4 c5 c6 c7 c8 c9 c10 c11 c12 c13
  obtain ⟨f0, f1, f2, f3, f4, f5, f6, f7, f8, f9, f10, f11, f12, f13⟩ := HZ16.out.fr
  go_wp2_with fail
  have hz : BoxG ((((((((((((((w16.setCell ⟨w.heap.size, 0, none⟩ (.int .i64 a)).setCell ⟨w.heap.size, 1, none⟩ (.int .i64 b)).setCell ⟨w.heap.size, 2, none⟩ (.int .u8 2)).setCell ⟨w.heap.size, 3, none⟩ (.int .i64 c)).setCell ⟨w.heap.size, 4, none⟩ (.int .i64 d)).setCell ⟨w.heap.size, 5, none⟩ (.int .i64 0)).setCell ⟨w.heap.size, 6, none⟩ (.string ⟨#[]⟩)).setCell ⟨w.heap.size, 7, none⟩ (.string ⟨#[]⟩)).setCell ⟨w.heap.size, 8, none⟩ (.int .i64 f)).setCell ⟨w.heap.size, 9, none⟩ (.int .i64 g)).setCell ⟨w.heap.size, 10, none⟩ (.int .i64 0)).setCell ⟨w.heap.size, 11, none⟩ (.int .i64 0)).setCell ⟨w.heap.size, 12, none⟩ (.int .i64 e)).setCell ⟨w.heap.size, 13, none⟩ (.int .i64 0)) w.heap.size (Pa.vals ⟨a, b, 2, c, d, 0, [], [], f, g, 0, 0, e, 0⟩) := ((((((((((((((HZ16.out.set 0 (.int .i64 a) (by simp [Pa.vals])).set 1 (.int .i64 b) (by simp [Pa.vals])).set 2 (.int .u8 2) (by simp [Pa.vals])).set 3 (.int .i64 c) (by simp [Pa.vals])).set 4 (.int .i64 d) (by simp [Pa.vals])).set 5 (.int .i64 0) (by simp [Pa.vals])).set 6 (.string ⟨#[]⟩) (by simp [Pa.vals])).set 7 (.string ⟨#[]⟩) (by simp [Pa.vals])).set 8 (.int .i64 f) (by simp [Pa.vals])).set 9 (.int .i64 g) (by simp [Pa.vals])).set 10 (.int .i64 0) (by simp [Pa.vals])).set 11 (.int .i64 0) (by simp [Pa.vals])).set 12 (.int .i64 e) (by simp [Pa.vals])).set 13 (.int .i64 0) (by simp [Pa.vals]))
  have hb5 := ((((((((((((((HB16.out.setCell (p := ⟨w.heap.size, 0, none⟩) (Nat.le_refl _) (.int .i64 a)).setCell (p := ⟨w.heap.size, 1, none⟩) (Nat.le_refl _) (.int .i64 b)).setCell (p := ⟨w.heap.size, 2, none⟩) (Nat.le_refl _) (.int .u8 2)).setCell (p := ⟨w.heap.size, 3, none⟩) (Nat.le_refl _) (.int .i64 c)).setCell (p := ⟨w.heap.size, 4, none⟩) (Nat.le_refl _) (.int .i64 d)).setCell (p := ⟨w.heap.size, 5, none⟩) (Nat.le_refl _) (.int .i64 0)).setCell (p := ⟨w.heap.size, 6, none⟩) (Nat.le_refl _) (.string ⟨#[]⟩)).setCell (p := ⟨w.heap.size, 7, none⟩) (Nat.le_refl _) (.string ⟨#[]⟩)).setCell (p := ⟨w.heap.size, 8, none⟩) (Nat.le_refl _) (.int .i64 f)).setCell (p := ⟨w.heap.size, 9, none⟩) (Nat.le_refl _) (.int .i64 g)).setCell (p := ⟨w.heap.size, 10, none⟩) (Nat.le_refl _) (.int .i64 0)).setCell (p := ⟨w.heap.size, 11, none⟩) (Nat.le_refl _) (.int .i64 0)).setCell (p := ⟨w.heap.size, 12, none⟩) (Nat.le_refl _) (.int .i64 e)).setCell (p := ⟨w.heap.size, 13, none⟩) (Nat.le_refl _) (.int .i64 0))
  clear c0 c1 c2 c3 c4 c5 c6 c7 c8 c9 c10 c11 c12 c13 d0 d1 d2 d3 d4 d5 d6 d7 d8 d9 d10 d11 d12 d13 f0 f1 f2 f3 f4 f5 f6 f7 f8 f9 f10 f11 f12 f13
  generalize ((((((((((((((w16.setCell ⟨w.heap.size, 0, none⟩ (.int .i64 a)).setCell ⟨w.heap.size, 1, none⟩ (.int .i64 b)).setCell ⟨w.heap.size, 2, none⟩ (.int .u8 2)).setCell ⟨w.heap.size, 3, none⟩ (.int .i64 c)).setCell ⟨w.heap.size, 4, none⟩ (.int .i64 d)).setCell ⟨w.heap.size, 5, none⟩ (.int .i64 0)).setCell ⟨w.heap.size, 6, none⟩ (.string ⟨#[]⟩)).setCell ⟨w.heap.size, 7, none⟩ (.string ⟨#[]⟩)).setCell ⟨w.heap.size, 8, none⟩ (.int .i64 f)).setCell ⟨w.heap.size, 9, none⟩ (.int .i64 g)).setCell ⟨w.heap.size, 10, none⟩ (.int .i64 0)).setCell ⟨w.heap.size, 11, none⟩ (.int .i64 0)).setCell ⟨w.heap.size, 12, none⟩ (.int .i64 e)).setCell ⟨w.heap.size, 13, none⟩ (.int .i64 0)) = W5 at *
  have zl3 := hz.1
  obtain ⟨r0, r1, r2, r3, r4, r5, r6, r7, r8, r9, r10, r11, r12, r13⟩ := hz.pa
  dsimp only at r0 r1 r2 r3 r4 r5 r6 r7 r8 r9 r10 r11 r12 r13
  have HB5 := Hd hb5
  clear hb5 hz
  refine bodyPost_ret (v := .agg #[.int .i64 a, .int .i64 b, .int .u8 2, .int .i64 c, .int .i64 d, .int .i64 0, .string ⟨#[]⟩, .string ⟨#[]⟩, .int .i64 f, .int .i64 g, .int .i64 0, .int .i64 0, .int .i64 e, .int .i64 0]) (by simp [results, Tryz.results51, go_sem, zl3, r0, r1, r2, r3, r4, r5, r6, r7, r8, r9, r10, r11, r12, r13]) rfl ⟨HB5.out, .inl ⟨_, HP16.out.trans rfl, rfl⟩⟩
 have e2 : (kindP kw == 2) = false := by simpa using k2
 have K2 := Hd k2
 clear k2
 by_cases k3 : kindP kw = 3
 case pos =>
  have hpk : parseW (spl l) = (if kindP kw = 1 then packageP a b rkw else if kindP kw = 2 then totalP a b rkw else if kindP kw = 3 then voidP a b rkw else some ⟨a, b, 0, 0, 0, 0, [], [], 0, 0, 0, 0, 0, 0⟩) := HP10.out
  rw [if_neg K1.out, if_neg K2.out, if_pos k3] at hpk
  have HPk := Hd hpk
  clear hpk
  have HK := Hd k3
  rw [k3] at HX10
  clear HP10 k3
  have HP10 := HPk
  clear HPk
  obtain ⟨d0, d1, d2, d3, d4, d5, d6, d7, d8, d9, d10, d11, d12, d13⟩ := HX10.out.pa
  dsimp only at d0 d1 d2 d3 d4 d5 d6 d7 d8 d9 d10 d11 d12 d13
  go_wp2_with fail
  rcases rkw with _ | ⟨x15, r15⟩
  · refine (number_none R _ HR10.out).mono ?_
    rintro e w' ⟨rfl, rfl⟩
    go_wp2_with fail
    exact ⟨rfl, HB10.out, .inr ⟨HP10.out.trans rfl, rfl⟩⟩
  refine (number_some R x15 (HML10.out x15 (by simp)) r15 _ HR10.out (fun W hg => HW.out.below (HB10.out.trans (below_of_grownR HR10.out.lt hg (Nat.le_of_lt HzR.out))))).mono ?_
  rintro e w11 ⟨hN, hv⟩
  have HB11 := Hd (HB10.out.trans (below_of_grownR HR10.out.lt hN.2 (Nat.le_of_lt HzR.out)))
  have HZ11 := Hd (HZ10.out.farR hN.2 (Nat.ne_of_lt HzR.out))
  have HX11 := Hd (HX10.out.farR hN.2 (Nat.ne_of_gt HxR.out))
  have HR11 := Hd hN.1
  rcases hv with ⟨c, hv, rfl⟩ | ⟨hv, rfl⟩
  rotate_left
  · have HPn := Hd (HP10.out.trans (bindN_bad hv))
    clear hv hN
    go_wp2_with fail
    exact ⟨rfl, HB11.out, .inr ⟨HPn.out, rfl⟩⟩
  have HP11 := Hd (HP10.out.trans (bindN_some hv))
  have HML11 := Hd (show ∀ x ∈ r15, x.length ≤ 100000 from fun x hx => HML10.out x (List.mem_cons_of_mem _ hx))
  clear hv hN HR10 HB10 HZ10 HML10 HP10 HX10
  obtain ⟨d0, d1, d2, d3, d4, d5, d6, d7, d8, d9, d10, d11, d12, d13⟩ := HX11.out.pa
  obtain ⟨f0, f1, f2, f3, f4, f5, f6, f7, f8, f9, f10, f11, f12, f13⟩ := HX11.out.fr
  dsimp only at d0 d1 d2 d3 d4 d5 d6 d7 d8 d9 d10 d11 d12 d13
  go_upto_region 14 with (fail)
  have hx : BoxG (w11.setCell ⟨X, 13, none⟩ (.int .i64 c)) X (Pa.vals ⟨a, b, 3, 0, 0, 0, [], [], 0, 0, 0, 0, 0, c⟩) := (HX11.out.set 13 (.int .i64 c) (by simp [Pa.vals]))
  have hg := (grownBy_setCell'' w11 X 13 (.int .i64 c))
  clear d0 d1 d2 d3 d4 d5 d6 d7 d8 d9 d10 d11 d12 d13 f0 f1 f2 f3 f4 f5 f6 f7 f8 f9 f10 f11 f12 f13
  have hlt := HX11.out.1
  generalize (w11.setCell ⟨X, 13, none⟩ (.int .i64 c)) = w12 at *
  have HX12 := Hd hx
  have HR12 := Hd (HR11.out.farX hg HxR.out)
  have HZ12 := Hd (HZ11.out.farR hg (Nat.ne_of_lt (Nat.lt_trans HzR.out HxR.out)))
  have HB12 := Hd (HB11.out.trans (below_of_grownR hlt hg (Nat.le_of_lt (Nat.lt_trans HzR.out HxR.out))))
  have HP12 := HP11
  have HML12 := HML11
  clear hx hg hlt HR11 HZ11 HB11 HP11 HML11 HX11
  obtain ⟨d0, d1, d2, d3, d4, d5, d6, d7, d8, d9, d10, d11, d12, d13⟩ := HX12.out.pa
  dsimp only at d0 d1 d2 d3 d4 d5 d6 d7 d8 d9 d10 d11 d12 d13
  obtain ⟨c0, c1, c2, c3, c4, c5, c6, c7, c8, c9, c10, c11, c12, c13⟩ := HZ12.out.pa
  simp only [pa0] at c0 c1 c2 c3 c4 c5 c6 c7 c8 c9 c10 c11 c12 c13
  obtain ⟨f0, f1, f2, f3, f4, f5, f6, f7, f8, f9, f10, f11, f12, f13⟩ := HZ12.out.fr
  go_wp2_with fail
  have hz : BoxG ((((((((((((((w12.setCell ⟨w.heap.size, 0, none⟩ (.int .i64 a)).setCell ⟨w.heap.size, 1, none⟩ (.int .i64 b)).setCell ⟨w.heap.size, 2, none⟩ (.int .u8 3)).setCell ⟨w.heap.size, 3, none⟩ (.int .i64 0)).setCell ⟨w.heap.size, 4, none⟩ (.int .i64 0)).setCell ⟨w.heap.size, 5, none⟩ (.int .i64 0)).setCell ⟨w.heap.size, 6, none⟩ (.string ⟨#[]⟩)).setCell ⟨w.heap.size, 7, none⟩ (.string ⟨#[]⟩)).setCell ⟨w.heap.size, 8, none⟩ (.int .i64 0)).setCell ⟨w.heap.size, 9, none⟩ (.int .i64 0)).setCell ⟨w.heap.size, 10, none⟩ (.int .i64 0)).setCell ⟨w.heap.size, 11, none⟩ (.int .i64 0)).setCell ⟨w.heap.size, 12, none⟩ (.int .i64 0)).setCell ⟨w.heap.size, 13, none⟩ (.int .i64 c)) w.heap.size (Pa.vals ⟨a, b, 3, 0, 0, 0, [], [], 0, 0, 0, 0, 0, c⟩) := ((((((((((((((HZ12.out.set 0 (.int .i64 a) (by simp [Pa.vals])).set 1 (.int .i64 b) (by simp [Pa.vals])).set 2 (.int .u8 3) (by simp [Pa.vals])).set 3 (.int .i64 0) (by simp [Pa.vals])).set 4 (.int .i64 0) (by simp [Pa.vals])).set 5 (.int .i64 0) (by simp [Pa.vals])).set 6 (.string ⟨#[]⟩) (by simp [Pa.vals])).set 7 (.string ⟨#[]⟩) (by simp [Pa.vals])).set 8 (.int .i64 0) (by simp [Pa.vals])).set 9 (.int .i64 0) (by simp [Pa.vals])).set 10 (.int .i64 0) (by simp [Pa.vals])).set 11 (.int .i64 0) (by simp [Pa.vals])).set 12 (.int .i64 0) (by simp [Pa.vals])).set 13 (.int .i64 c) (by simp [Pa.vals]))
  have hb5 := ((((((((((((((HB12.out.setCell (p := ⟨w.heap.size, 0, none⟩) (Nat.le_refl _) (.int .i64 a)).setCell (p := ⟨w.heap.size, 1, none⟩) (Nat.le_refl _) (.int .i64 b)).setCell (p := ⟨w.heap.size, 2, none⟩) (Nat.le_refl _) (.int .u8 3)).setCell (p := ⟨w.heap.size, 3, none⟩) (Nat.le_refl _) (.int .i64 0)).setCell (p := ⟨w.heap.size, 4, none⟩) (Nat.le_refl _) (.int .i64 0)).setCell (p := ⟨w.heap.size, 5, none⟩) (Nat.le_refl _) (.int .i64 0)).setCell (p := ⟨w.heap.size, 6, none⟩) (Nat.le_refl _) (.string ⟨#[]⟩)).setCell (p := ⟨w.heap.size, 7, none⟩) (Nat.le_refl _) (.string ⟨#[]⟩)).setCell (p := ⟨w.heap.size, 8, none⟩) (Nat.le_refl _) (.int .i64 0)).setCell (p := ⟨w.heap.size, 9, none⟩) (Nat.le_refl _) (.int .i64 0)).setCell (p := ⟨w.heap.size, 10, none⟩) (Nat.le_refl _) (.int .i64 0)).setCell (p := ⟨w.heap.size, 11, none⟩) (Nat.le_refl _) (.int .i64 0)).setCell (p := ⟨w.heap.size, 12, none⟩) (Nat.le_refl _) (.int .i64 0)).setCell (p := ⟨w.heap.size, 13, none⟩) (Nat.le_refl _) (.int .i64 c))
  clear c0 c1 c2 c3 c4 c5 c6 c7 c8 c9 c10 c11 c12 c13 d0 d1 d2 d3 d4 d5 d6 d7 d8 d9 d10 d11 d12 d13 f0 f1 f2 f3 f4 f5 f6 f7 f8 f9 f10 f11 f12 f13
  generalize ((((((((((((((w12.setCell ⟨w.heap.size, 0, none⟩ (.int .i64 a)).setCell ⟨w.heap.size, 1, none⟩ (.int .i64 b)).setCell ⟨w.heap.size, 2, none⟩ (.int .u8 3)).setCell ⟨w.heap.size, 3, none⟩ (.int .i64 0)).setCell ⟨w.heap.size, 4, none⟩ (.int .i64 0)).setCell ⟨w.heap.size, 5, none⟩ (.int .i64 0)).setCell ⟨w.heap.size, 6, none⟩ (.string ⟨#[]⟩)).setCell ⟨w.heap.size, 7, none⟩ (.string ⟨#[]⟩)).setCell ⟨w.heap.size, 8, none⟩ (.int .i64 0)).setCell ⟨w.heap.size, 9, none⟩ (.int .i64 0)).setCell ⟨w.heap.size, 10, none⟩ (.int .i64 0)).setCell ⟨w.heap.size, 11, none⟩ (.int .i64 0)).setCell ⟨w.heap.size, 12, none⟩ (.int .i64 0)).setCell ⟨w.heap.size, 13, none⟩ (.int .i64 c)) = W5 at *
  have zl3 := hz.1
  obtain ⟨r0, r1, r2, r3, r4, r5, r6, r7, r8, r9, r10, r11, r12, r13⟩ := hz.pa
  dsimp only at r0 r1 r2 r3 r4 r5 r6 r7 r8 r9 r10 r11 r12 r13
  have HB5 := Hd hb5
  clear hb5 hz
  refine bodyPost_ret (v := .agg #[.int .i64 a, .int .i64 b, .int .u8 3, .int .i64 0, .int .i64 0, .int .i64 0, .string ⟨#[]⟩, .string ⟨#[]⟩, .int .i64 0, .int .i64 0, .int .i64 0, .int .i64 0, .int .i64 0, .int .i64 c]) (by simp [results, Tryz.results51, go_sem, zl3, r0, r1, r2, r3, r4, r5, r6, r7, r8, r9, r10, r11, r12, r13]) rfl ⟨HB5.out, .inl ⟨_, HP12.out.trans rfl, rfl⟩⟩
 have e3 : (kindP kw == 3) = false := by simpa using k3
 have K3 := Hd k3
 clear k3
 have hpk : parseW (spl l) = (if kindP kw = 1 then packageP a b rkw else if kindP kw = 2 then totalP a b rkw else if kindP kw = 3 then voidP a b rkw else some ⟨a, b, 0, 0, 0, 0, [], [], 0, 0, 0, 0, 0, 0⟩) := HP10.out
 rw [if_neg K1.out, if_neg K2.out, if_neg K3.out] at hpk
 clear HP10
 have HP10 := Hd hpk
 clear hpk
 have k0 : kindP kw = 0 := kindP_zero K1.out K2.out K3.out
 rw [k0] at HX10
 clear k0
 obtain ⟨d0, d1, d2, d3, d4, d5, d6, d7, d8, d9, d10, d11, d12, d13⟩ := HX10.out.pa
 dsimp only at d0 d1 d2 d3 d4 d5 d6 d7 d8 d9 d10 d11 d12 d13
 obtain ⟨c0, c1, c2, c3, c4, c5, c6, c7, c8, c9, c10, c11, c12, c13⟩ := HZ10.out.pa
 simp only [pa0] at c0 c1 c2 c3 c4 c5 c6 c7 c8 c9 c10 c11 c12 c13
 obtain ⟨f0, f1, f2, f3, f4, f5, f6, f7, f8, f9, f10, f11, f12, f13⟩ := HZ10.out.fr
 go_wp2_with fail
 have hz : BoxG ((((((((((((((w10.setCell ⟨w.heap.size, 0, none⟩ (.int .i64 a)).setCell ⟨w.heap.size, 1, none⟩ (.int .i64 b)).setCell ⟨w.heap.size, 2, none⟩ (.int .u8 0)).setCell ⟨w.heap.size, 3, none⟩ (.int .i64 0)).setCell ⟨w.heap.size, 4, none⟩ (.int .i64 0)).setCell ⟨w.heap.size, 5, none⟩ (.int .i64 0)).setCell ⟨w.heap.size, 6, none⟩ (.string ⟨#[]⟩)).setCell ⟨w.heap.size, 7, none⟩ (.string ⟨#[]⟩)).setCell ⟨w.heap.size, 8, none⟩ (.int .i64 0)).setCell ⟨w.heap.size, 9, none⟩ (.int .i64 0)).setCell ⟨w.heap.size, 10, none⟩ (.int .i64 0)).setCell ⟨w.heap.size, 11, none⟩ (.int .i64 0)).setCell ⟨w.heap.size, 12, none⟩ (.int .i64 0)).setCell ⟨w.heap.size, 13, none⟩ (.int .i64 0)) w.heap.size (Pa.vals ⟨a, b, 0, 0, 0, 0, [], [], 0, 0, 0, 0, 0, 0⟩) := ((((((((((((((HZ10.out.set 0 (.int .i64 a) (by simp [Pa.vals])).set 1 (.int .i64 b) (by simp [Pa.vals])).set 2 (.int .u8 0) (by simp [Pa.vals])).set 3 (.int .i64 0) (by simp [Pa.vals])).set 4 (.int .i64 0) (by simp [Pa.vals])).set 5 (.int .i64 0) (by simp [Pa.vals])).set 6 (.string ⟨#[]⟩) (by simp [Pa.vals])).set 7 (.string ⟨#[]⟩) (by simp [Pa.vals])).set 8 (.int .i64 0) (by simp [Pa.vals])).set 9 (.int .i64 0) (by simp [Pa.vals])).set 10 (.int .i64 0) (by simp [Pa.vals])).set 11 (.int .i64 0) (by simp [Pa.vals])).set 12 (.int .i64 0) (by simp [Pa.vals])).set 13 (.int .i64 0) (by simp [Pa.vals]))
 have hb5 := ((((((((((((((HB10.out.setCell (p := ⟨w.heap.size, 0, none⟩) (Nat.le_refl _) (.int .i64 a)).setCell (p := ⟨w.heap.size, 1, none⟩) (Nat.le_refl _) (.int .i64 b)).setCell (p := ⟨w.heap.size, 2, none⟩) (Nat.le_refl _) (.int .u8 0)).setCell (p := ⟨w.heap.size, 3, none⟩) (Nat.le_refl _) (.int .i64 0)).setCell (p := ⟨w.heap.size, 4, none⟩) (Nat.le_refl _) (.int .i64 0)).setCell (p := ⟨w.heap.size, 5, none⟩) (Nat.le_refl _) (.int .i64 0)).setCell (p := ⟨w.heap.size, 6, none⟩) (Nat.le_refl _) (.string ⟨#[]⟩)).setCell (p := ⟨w.heap.size, 7, none⟩) (Nat.le_refl _) (.string ⟨#[]⟩)).setCell (p := ⟨w.heap.size, 8, none⟩) (Nat.le_refl _) (.int .i64 0)).setCell (p := ⟨w.heap.size, 9, none⟩) (Nat.le_refl _) (.int .i64 0)).setCell (p := ⟨w.heap.size, 10, none⟩) (Nat.le_refl _) (.int .i64 0)).setCell (p := ⟨w.heap.size, 11, none⟩) (Nat.le_refl _) (.int .i64 0)).setCell (p := ⟨w.heap.size, 12, none⟩) (Nat.le_refl _) (.int .i64 0)).setCell (p := ⟨w.heap.size, 13, none⟩) (Nat.le_refl _) (.int .i64 0))
 clear c0 c1 c2 c3 c4 c5 c6 c7 c8 c9 c10 c11 c12 c13 d0 d1 d2 d3 d4 d5 d6 d7 d8 d9 d10 d11 d12 d13 f0 f1 f2 f3 f4 f5 f6 f7 f8 f9 f10 f11 f12 f13
 generalize ((((((((((((((w10.setCell ⟨w.heap.size, 0, none⟩ (.int .i64 a)).setCell ⟨w.heap.size, 1, none⟩ (.int .i64 b)).setCell ⟨w.heap.size, 2, none⟩ (.int .u8 0)).setCell ⟨w.heap.size, 3, none⟩ (.int .i64 0)).setCell ⟨w.heap.size, 4, none⟩ (.int .i64 0)).setCell ⟨w.heap.size, 5, none⟩ (.int .i64 0)).setCell ⟨w.heap.size, 6, none⟩ (.string ⟨#[]⟩)).setCell ⟨w.heap.size, 7, none⟩ (.string ⟨#[]⟩)).setCell ⟨w.heap.size, 8, none⟩ (.int .i64 0)).setCell ⟨w.heap.size, 9, none⟩ (.int .i64 0)).setCell ⟨w.heap.size, 10, none⟩ (.int .i64 0)).setCell ⟨w.heap.size, 11, none⟩ (.int .i64 0)).setCell ⟨w.heap.size, 12, none⟩ (.int .i64 0)).setCell ⟨w.heap.size, 13, none⟩ (.int .i64 0)) = W5 at *
 have zl3 := hz.1
 obtain ⟨r0, r1, r2, r3, r4, r5, r6, r7, r8, r9, r10, r11, r12, r13⟩ := hz.pa
 dsimp only at r0 r1 r2 r3 r4 r5 r6 r7 r8 r9 r10 r11 r12 r13
 have HB5 := Hd hb5
 clear hb5 hz
 refine bodyPost_ret (v := .agg #[.int .i64 a, .int .i64 b, .int .u8 0, .int .i64 0, .int .i64 0, .int .i64 0, .string ⟨#[]⟩, .string ⟨#[]⟩, .int .i64 0, .int .i64 0, .int .i64 0, .int .i64 0, .int .i64 0, .int .i64 0]) (by simp [results, Tryz.results51, go_sem, zl3, r0, r1, r2, r3, r4, r5, r6, r7, r8, r9, r10, r11, r12, r13]) rfl ⟨HB5.out, .inl ⟨_, HP10.out.trans rfl, rfl⟩⟩
end Go.Proofs.YtehplmeckfinoaaGreatDoor
