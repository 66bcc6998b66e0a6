/- The law CargoPapers walked. -/
import Derived.Test.YtpgojnofdgibeaaGreatDoorCAlive
import Derived.Test.YtpgojnofdgibeaaGreatDoorCRAppend
import Derived.Test.YtpgojnofdgibeaaGreatDoorLater
set_option linter.unusedSimpArgs false
set_option linter.unusedVariables false
namespace Go.Proofs.YtpgojnofdgibeaaGreatDoor
open Go.RowKit Go.Shelf

theorem Rd.of_block {α : Type} {E : α → List Value} {k : Nat} {w : World} {b : Nat} {cs : Array Value} {t : TypeId} {xs : List α} (hb : w.heap[b]? = some (.cells cs t (0, 0))) (hcs : cs.toList = xs.flatMap E) (hk : ∀ x, (E x).length = k) (hn : xs.length ≤ maxLen) :
    Rd E k w (some ⟨b, 0, none⟩) xs.length xs :=
  ⟨rfl, hn, fun i hi => ⟨b, 0, xs[i], rfl, (Array.getElem?_eq_some_iff.1 hb).1, List.getElem?_eq_getElem hi, fun j hj => by
    rw [cell_of_row _ _ _ _ _ (0, 0) hb, ← Array.getElem?_toList, hcs, Nat.zero_add]
    exact flat_at hk xs i xs[i] j (List.getElem?_eq_getElem hi) hj⟩⟩
theorem rd_pa (w : World) (x : Pa) (T : TypeId) : Rd Pa.vals 14 (w.alloc (.cells #[.int .i64 x.id, .int .i64 x.known, .int .u8 x.kind, .int .i64 x.loss, .int .i64 x.pack, .int .i64 x.inn, .string ⟨x.mark.toArray⟩, .string ⟨x.goods.toArray⟩, .int .i64 x.low, .int .i64 x.high, .int .i64 x.pieces, .int .i64 x.owner, .int .i64 x.count, .int .i64 x.of] T)) (some ⟨w.heap.size, 0, none⟩) 1 [x] :=
  Rd.of_block (xs := [x]) (heap_alloc_new w _) (by simp [Pa.vals]) Pa.vals_length (by unfold maxLen; simp)
/-- what Append answers -/
def appE (xs : List Pa) (x : Pa) : Int := if (checkC xs).2 = 0 then followsL xs x else (checkC xs).2
def appR (xs : List Pa) (x : Pa) : List Pa := if (checkC xs).2 = 0 then (if followsL xs x = 0 then xs ++ [x] else []) else []
def AppPost (w : World) (xs : List Pa) (x : Pa) (e : Ending) (w' : World) : Prop :=
  ∃ a n c, e = .returned (.tuple #[.slice a n c, .int .i64 (appE xs x)]) ∧ Rd Pa.vals 14 w' a n (appR xs x) ∧ n ≤ c ∧ Below w.heap.size w w'
theorem app_of {w w' : World} {xs : List Pa} {x : Pa} {e : Ending} (h : AppendC w xs x e w') : AppPost w xs x e w' := by
  obtain ⟨hB, ⟨h1, rfl⟩ | ⟨h1, h2, rfl⟩ | ⟨h1, h2, v, rfl, ho⟩⟩ := h
  · refine ⟨none, 0, 0, by unfold appE; rw [if_neg h1], ?_, Nat.le_refl _, hB⟩
    unfold appR; rw [if_neg h1]; exact Rd.empty _ _
  · refine ⟨none, 0, 0, by unfold appE; rw [if_pos h1], ?_, Nat.le_refl _, hB⟩
    unfold appR; rw [if_pos h1, if_neg h2]; exact Rd.empty _ _
  · have hl := followsL_len h2
    obtain ⟨a, c, rfl, hc, hr, _⟩ := Rd.of_own (n := xs.length + 1) ho Pa.vals_length (by decide) (by simp) (by unfold maxLen; omega)
    refine ⟨a, xs.length + 1, c, by unfold appE; rw [if_pos h1, h2], ?_, hc, hB⟩
    unfold appR; rw [if_pos h1, if_pos h2]; exact hr
theorem cpE_is (x : Pa) : (if formedP x then (0 : Int) else 1) = cpE x := rfl

set_option maxRecDepth 100000 in
set_option maxHeartbeats 8000000 in
theorem law_papers (a : Option Addr) (n cap : Nat) (xs : List Pa) (x : Pa) (w : World) (h : Rd Pa.vals 14 w a n xs) (hz : a = none → cap = 0) (hcap : n ≤ cap) (hw : Laid w) :
    Calls Tryz.prog 5 #[.slice a n cap, .agg #[.int .i64 x.id, .int .i64 x.known, .int .u8 x.kind, .int .i64 x.loss, .int .i64 x.pack, .int .i64 x.inn, .string ⟨x.mark.toArray⟩, .string ⟨x.goods.toArray⟩, .int .i64 x.low, .int .i64 x.high, .int .i64 x.pieces, .int .i64 x.owner, .int .i64 x.count, .int .i64 x.of]] w fun e w' => e = .returned (.bool true) ∧ Below w.heap.size w w' := by
  have CA := Lib.hid (show ∀ W, Below w.heap.size w W → Calls Tryz.prog 8 #[] W fun e w' => e = .returned (.bool true) ∧ Below W.heap.size W w' from fun W hB => alive_any W (hw.below hB))
  have hb := BoxG.made w x.vals 28
  have hB := al' (Below.refl w.heap.size w) (.cells x.vals.toArray 28)
  simp only [Pa.vals] at hb hB
  have HX0 := Lib.hid hb
  have HB := Lib.hid hB
  have HR := Lib.hid (h.below' hB)
  have HL := Lib.hid (hw.below hB)
  have Hlen := Lib.hid h.len
  have Hz := Lib.hid hz
  clear hb hB h hw hz
  go_enter Tryz.func5, Tryz.ntmps5
  go_upto_region 1 with (fail)
  generalize w.alloc (.cells #[.int .i64 x.id, .int .i64 x.known, .int .u8 x.kind, .int .i64 x.loss, .int .i64 x.pack, .int .i64 x.inn, .string ⟨x.mark.toArray⟩, .string ⟨x.goods.toArray⟩, .int .i64 x.low, .int .i64 x.high, .int .i64 x.pieces, .int .i64 x.owner, .int .i64 x.count, .int .i64 x.of] 28) = w1 at *
  have HX := Lib.hid (show BoxG w1 w.heap.size x.vals from HX0.out)
  clear HX0
  obtain ⟨F1, hF1⟩ : ∃ b, fewB xs 305 = b := ⟨_, rfl⟩
  go_wp2_with fail
  refine (rfew_any a n cap xs 305 _ HR.out).mono ?_
  rintro e w2 ⟨rfl, rfl⟩
  rw [hF1]
  cases F1 with
  | false =>
    clear hF1
    go_wp2_with fail
    refine (CA.out _ HB.out).mono ?_
    rintro e w3 ⟨rfl, hS⟩
    have HB' := Lib.hid (below_on HB.out hS (Nat.le_refl _))
    clear hS
    go_wp2_with fail
    go_ret
    exact ⟨rfl, HB'.out⟩
  | true =>
  have HF1 := Lib.hid (few_short hF1)
  clear hF1
  obtain ⟨c0, c1, c2, c3, c4, c5, c6, c7, c8, c9, c10, c11, c12, c13⟩ := HX.out.pa
  have HP := Lib.hid (rd_pa w2 x 28)
  have hS := al' (Below.refl w2.heap.size w2) (.cells #[.int .i64 x.id, .int .i64 x.known, .int .u8 x.kind, .int .i64 x.loss, .int .i64 x.pack, .int .i64 x.inn, .string ⟨x.mark.toArray⟩, .string ⟨x.goods.toArray⟩, .int .i64 x.low, .int .i64 x.high, .int .i64 x.pieces, .int .i64 x.owner, .int .i64 x.count, .int .i64 x.of] 28)
  have HX' := Lib.hid (HX.out.below' hS)
  have HR' := Lib.hid (HR.out.below' hS)
  have HL' := Lib.hid (HL.out.below hS)
  have HB' := Lib.hid (below_on HB.out hS (Nat.le_refl _))
  clear hS
  obtain ⟨F2, hF2⟩ : ∃ b, fewB [x] 1 = b := ⟨_, rfl⟩
  go_wp2_with fail
  generalize w2.alloc (.cells #[.int .i64 x.id, .int .i64 x.known, .int .u8 x.kind, .int .i64 x.loss, .int .i64 x.pack, .int .i64 x.inn, .string ⟨x.mark.toArray⟩, .string ⟨x.goods.toArray⟩, .int .i64 x.low, .int .i64 x.high, .int .i64 x.pieces, .int .i64 x.owner, .int .i64 x.count, .int .i64 x.of] 28) = w3 at *
  refine (rfew_any _ 1 1 [x] 1 _ HP.out).mono ?_
  rintro e w4 ⟨rfl, rfl⟩
  rw [hF2]
  clear HX HR HL HB HP c0 c1 c2 c3 c4 c5 c6 c7 c8 c9 c10 c11 c12 c13
  have HX := Lib.hid HX'.out
  have HR := Lib.hid HR'.out
  have HL := Lib.hid HL'.out
  have HB := Lib.hid HB'.out
  clear HX' HR' HL' HB'
  cases F2 with
  | false =>
    clear hF2
    go_wp2_with fail
    refine (CA.out _ HB.out).mono ?_
    rintro e w3 ⟨rfl, hS⟩
    have HB' := Lib.hid (below_on HB.out hS (Nat.le_refl _))
    clear hS
    go_wp2_with fail
    go_ret
    exact ⟨rfl, HB'.out⟩
  | true =>
  have HS := Lib.hid (show ∀ y ∈ xs, y.Short from fun y hy => by have := HF1.out.2 y hy; exact ⟨by omega, by omega⟩)
  have HSx := Lib.hid (show x.Short from by have := (few_short hF2).2 x (by simp); exact ⟨by omega, by omega⟩)
  have hn : n ≤ 1000 := by have h1 := HF1.out.1; rw [Hlen.out] at h1; omega
  clear hF2 HF1
  obtain ⟨I, hI⟩ : ∃ I, (checkC xs).1 = I := ⟨_, rfl⟩
  obtain ⟨E, hE⟩ : ∃ I, (checkC xs).2 = I := ⟨_, rfl⟩
  obtain ⟨G, hG⟩ : ∃ I, appE xs x = I := ⟨_, rfl⟩
  obtain ⟨R, hR⟩ : ∃ I, appR xs x = I := ⟨_, rfl⟩
  have C1 := Lib.hid (fun W (h : Rd Pa.vals 14 W a n xs) => check_any a n cap xs HS.out W h hcap)
  have C2 := Lib.hid (fun W (h : Rd Pa.vals 14 W a n xs) => rcheck_any a n cap xs HS.out W h hcap)
  rw [hI, hE] at C1 C2
  have C3 := Lib.hid (fun W (h : Rd Pa.vals 14 W a n xs) => (append_any a n cap xs HS.out x HSx.out W h hcap).mono (fun _ _ h => app_of h))
  have C4 := Lib.hid (fun W (h : Rd Pa.vals 14 W a n xs) => (rappend_any a n cap xs HS.out x HSx.out W h hn hcap Hz.out).mono (fun _ _ h => app_of h))
  unfold AppPost at C3 C4
  rw [hG, hR] at C3 C4
  clear hI hE hG hR
  go_wp2_with fail
  refine (C1.out _ HR.out).mono ?_
  rintro e w5 ⟨rfl, hS⟩
  have HX' := Lib.hid (HX.out.below' hS)
  have HR' := Lib.hid (HR.out.below' hS)
  have HL' := Lib.hid (HL.out.below hS)
  have HB' := Lib.hid (below_on HB.out hS (Nat.le_refl _))
  clear hS HB HX HR HL 
  have HX := Lib.hid HX'.out
  have HR := Lib.hid HR'.out
  have HL := Lib.hid HL'.out
  have HB := Lib.hid HB'.out
  clear HB' HX' HR' HL'
  go_wp2_with fail
  refine (C2.out _ HR.out).mono ?_
  rintro e w6 ⟨rfl, hS⟩
  have HX' := Lib.hid (HX.out.below' hS)
  have HR' := Lib.hid (HR.out.below' hS)
  have HL' := Lib.hid (HL.out.below hS)
  have HB' := Lib.hid (below_on HB.out hS (Nat.le_refl _))
  clear hS HB HX HR HL 
  have HX := Lib.hid HX'.out
  have HR := Lib.hid HR'.out
  have HL := Lib.hid HL'.out
  have HB := Lib.hid HB'.out
  clear HB' HX' HR' HL'
  obtain ⟨c0, c1, c2, c3, c4, c5, c6, c7, c8, c9, c10, c11, c12, c13⟩ := HX.out.pa
  go_wp2_with fail
  refine (C3.out _ HR.out).mono ?_
  rintro e w7 ⟨va, vn, vc, rfl, hva, hvc, hS⟩
  have HX' := Lib.hid (HX.out.below' hS)
  have HR' := Lib.hid (HR.out.below' hS)
  have HL' := Lib.hid (HL.out.below hS)
  have HB' := Lib.hid (below_on HB.out hS (Nat.le_refl _))
  clear hS HB HX HR HL c0 c1 c2 c3 c4 c5 c6 c7 c8 c9 c10 c11 c12 c13 C1 C2
  have HX := Lib.hid HX'.out
  have HR := Lib.hid HR'.out
  have HL := Lib.hid HL'.out
  have HB := Lib.hid HB'.out
  clear HB' HX' HR' HL'
  have HV := Lib.hid hva
  clear hva
  obtain ⟨c0, c1, c2, c3, c4, c5, c6, c7, c8, c9, c10, c11, c12, c13⟩ := HX.out.pa
  go_wp2_with fail
  refine (C4.out _ HR.out).mono ?_
  rintro e w8 ⟨ua, un, uc, rfl, hua, huc, hS⟩
  have HX' := Lib.hid (HX.out.below' hS)
  have HR' := Lib.hid (HR.out.below' hS)
  have HL' := Lib.hid (HL.out.below hS)
  have HV' := Lib.hid (HV.out.below' hS)
  have HB' := Lib.hid (below_on HB.out hS (Nat.le_refl _))
  clear hS HB HX HR HL HV c0 c1 c2 c3 c4 c5 c6 c7 c8 c9 c10 c11 c12 c13 C3 C4
  have HX := Lib.hid HX'.out
  have HR := Lib.hid HR'.out
  have HL := Lib.hid HL'.out
  have HV := Lib.hid HV'.out
  have HB := Lib.hid HB'.out
  clear HB' HX' HR' HL' HV'
  rename World => w8
  have HU := Lib.hid hua
  clear hua
  obtain ⟨c0, c1, c2, c3, c4, c5, c6, c7, c8, c9, c10, c11, c12, c13⟩ := HX.out.pa
  have hII : (I == I) = true := by simp
  have hEE : (E == E) = true := by simp
  have hGG : (G == G) = true := by simp
  obtain ⟨K, hK⟩ : ∃ K, cpE x = K := ⟨_, rfl⟩
  have hKK : (K == K) = true := by simp
  have CA2 := Lib.hid (fun z : Later w8 => alive_any z.w (HL.out.below z.hB))
  have CS := Lib.hid (show ∀ z : Later w8, Calls Tryz.prog 22 #[.slice va vn vc, .slice ua un uc] z.w fun e w' => e = .returned (.bool true) ∧ Below z.w.heap.size z.w w' from fun z => by
    have := rsame_any va ua vn un vc uc R R z.w (HV.out.below' z.hB) (HU.out.below' z.hB)
    rw [decide_eq_true rfl] at this
    exact this)
  have CP1 := Lib.hid (fun z : Later w8 => checkPaper_any x HSx.out z.w)
  have CP2 := Lib.hid (fun z : Later w8 => rcheckPaper_any x HSx.out z.w)
  rw [hK] at CP1 CP2
  have k0 := fun z : Later w8 => z.cell c0
  have k1 := fun z : Later w8 => z.cell c1
  have k2 := fun z : Later w8 => z.cell c2
  have k3 := fun z : Later w8 => z.cell c3
  have k4 := fun z : Later w8 => z.cell c4
  have k5 := fun z : Later w8 => z.cell c5
  have k6 := fun z : Later w8 => z.cell c6
  have k7 := fun z : Later w8 => z.cell c7
  have k8 := fun z : Later w8 => z.cell c8
  have k9 := fun z : Later w8 => z.cell c9
  have k10 := fun z : Later w8 => z.cell c10
  have k11 := fun z : Later w8 => z.cell c11
  have k12 := fun z : Later w8 => z.cell c12
  have k13 := fun z : Later w8 => z.cell c13
  clear hK c0 c1 c2 c3 c4 c5 c6 c7 c8 c9 c10 c11 c12 c13
  go_wp2_with fail
  refine wp_region_later (by kernel_rfl) (by kernel_rfl) ?_
  repeat (go_big_quiet_step ((first | (go_at_call 8; with_reducible exact Calls.later_of (CA2.out _)) | (go_at_call 22; with_reducible exact Calls.later_of (CS.out _)) | (go_at_call 23; with_reducible exact Calls.later_of (CP1.out _)) | (go_at_call 24; with_reducible exact Calls.later_of (CP2.out _)))))
  refine wpQuiet_nil ?_
  intro wz hw'
  obtain ⟨⟨W, hW⟩, hw2⟩ := hw'
  obtain rfl : W = wz := hw2.symm
  clear hw2 k0 k1 k2 k3 k4 k5 k6 k7 k8 k9 k10 k11 k12 k13
  have HB3 := Lib.hid (HB.out.trans (hW.mono HB.out.size))
  clear hW
  go_wp2_with fail
  go_ret
  exact ⟨rfl, HB3.out⟩
end Go.Proofs.YtpgojnofdgibeaaGreatDoor
