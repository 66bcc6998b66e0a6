/- The law CargoTexts walked. -/
import Derived.Test.YtpgojnofdgibeaaGreatDoorCAlive
import Derived.Test.YtpgojnofdgibeaaGreatDoorCRRead
import Derived.Test.YtpgojnofdgibeaaGreatDoorCRPapers
set_option linter.unusedSimpArgs false
set_option linter.unusedVariables false
namespace Go.Proofs.YtpgojnofdgibeaaGreatDoor
open Go.RowKit Go.Shelf

theorem write_len {x : Pa} (h : formedP x) : (writeP x).length ≤ 1000 := by
  rw [← join_words]
  have hw : ∀ y ∈ wordsP x, y.length ≤ 24 := by
    intro y hy
    unfold formedP at h
    unfold wordsP at hy
    rw [List.mem_append] at hy
    have dl : ∀ z : Int, z ≤ 1000000000000 → (dig z).length ≤ 24 := fun z hz => Nat.le_trans (dig_le hz) (by omega)
    have wl : ∀ k, (wordP k).length ≤ 24 := fun k => by unfold wordP; (repeat' split) <;> simp
    rcases hy with hy | hy
    · simp only [List.mem_cons, List.not_mem_nil, or_false] at hy
      rcases hy with rfl | rfl | rfl
      · exact dl _ (by omega)
      · exact dl _ (by omega)
      · exact wl _
    · obtain ⟨_, _, h3⟩ := h
      split at hy
      · rename_i hk
        have h1 : isMark x.mark = true ∧ isName x.goods = true ∧ (x.loss ≤ 20 ∧ x.pack ≤ 200 ∧ x.inn ≤ 200 ∧ x.low ≤ 100000 ∧ x.high ≤ 100000 ∧ x.pieces ≤ 20 ∧ x.owner ≤ 40) := by
          rcases h3 with h3 | h3 | h3
          · exact ⟨h3.2.2.2.2.2.1, h3.2.2.2.2.2.2.1, by omega⟩
          · omega
          · omega
        obtain ⟨m1, m2, m3⟩ := h1
        simp only [isMark, Bool.and_eq_true, decide_eq_true_eq] at m1
        simp only [isName, Bool.and_eq_true, decide_eq_true_eq] at m2
        simp only [List.mem_cons, List.not_mem_nil, or_false] at hy
        rcases hy with rfl | rfl | rfl | rfl | rfl | rfl | rfl | rfl | rfl
        · exact dl _ (by omega)
        · exact dl _ (by omega)
        · exact dl _ (by omega)
        · omega
        · omega
        · exact dl _ (by omega)
        · exact dl _ (by omega)
        · exact dl _ (by omega)
        · exact dl _ (by omega)
      · split at hy
        · simp only [List.mem_cons, List.not_mem_nil, or_false] at hy
          rcases hy with rfl | rfl | rfl | rfl | rfl <;> exact dl _ (by omega)
        · simp only [List.mem_cons, List.not_mem_nil, or_false] at hy
          subst hy; exact dl _ (by omega)
  have h1 := join_len (wordsP x) 24 hw
  have h2 : (wordsP x).length ≤ 12 := by unfold wordsP; split <;> (try split) <;> simp
  have h3 : (wordsP x).length * (24 + 1) ≤ 12 * 25 := Nat.mul_le_mul h2 (by omega)
  omega
def wrS (x : Pa) : List UInt8 := if formedP x then writeP x else []
theorem write_is {w w' : World} {x : Pa} {e : Ending} (h : WritePost w x e w') : e = .returned (.tuple #[.string ⟨(wrS x).toArray⟩, .int .i64 (cpE x)]) ∧ Below w.heap.size w w' := by
  obtain ⟨hB, ⟨hf, rfl⟩ | ⟨hf, rfl⟩⟩ := h
  · exact ⟨by unfold wrS cpE; rw [if_pos hf, if_pos hf], hB⟩
  · exact ⟨by unfold wrS cpE; rw [if_neg hf, if_neg hf], hB⟩
def rdE (l : List UInt8) : Int := if (readV l).isSome then 0 else 4
theorem read_is {w w' : World} {l : List UInt8} {q : Pa} {e : Ending} (hq : (readV l).getD pa0 = q) (h : ReadPost w l e w') : e = .returned (.tuple #[.agg #[.int .i64 q.id, .int .i64 q.known, .int .u8 q.kind, .int .i64 q.loss, .int .i64 q.pack, .int .i64 q.inn, .string ⟨q.mark.toArray⟩, .string ⟨q.goods.toArray⟩, .int .i64 q.low, .int .i64 q.high, .int .i64 q.pieces, .int .i64 q.owner, .int .i64 q.count, .int .i64 q.of], .int .i64 (rdE l)]) ∧ Below w.heap.size w w' := by
  obtain ⟨hB, q', hq', rfl⟩ := h
  obtain rfl : q = q' := hq.symm.trans hq'
  exact ⟨rfl, hB⟩
theorem readV_short {l : List UInt8} (hl : l.length ≤ 1000) {q : Pa} (h : (readV l).getD pa0 = q) : q.Short := by
  cases e : readV l with
  | none => rw [e] at h; subst h; exact ⟨Nat.zero_le _, Nat.zero_le _⟩
  | some y =>
    rw [e] at h
    obtain rfl : y = q := h
    have hp : parseW (spl l) = some y := by
      unfold readV at e
      split at e
      · rename_i z hz
        split at e
        · rw [hz]; exact e
        · cases e
      · cases e
    have := parse_short (n := l.length) (spl_mem_len l) hp
    exact ⟨by omega, by omega⟩
theorem Rd.of_block' (w : World) (x : Pa) (T : TypeId) : Rd Pa.vals 14 (w.alloc (.cells #[.int .i64 x.id, .int .i64 x.known, .int .u8 x.kind, .int .i64 x.loss, .int .i64 x.pack, .int .i64 x.inn, .string ⟨x.mark.toArray⟩, .string ⟨x.goods.toArray⟩, .int .i64 x.low, .int .i64 x.high, .int .i64 x.pieces, .int .i64 x.owner, .int .i64 x.count, .int .i64 x.of] T)) (some ⟨w.heap.size, 0, none⟩) 1 [x] :=
  ⟨rfl, by unfold maxLen; simp, fun i hi => ⟨w.heap.size, 0, x, rfl, by simp, by obtain rfl : i = 0 := (by omega); rfl, fun j hj => by
    obtain rfl : i = 0 := (by omega)
    simp [Pa.vals]⟩⟩

set_option maxRecDepth 100000 in
set_option maxHeartbeats 8000000 in
theorem law_texts (x : Pa) (l : List UInt8) (w : World) (hw : Laid w) :
    Calls Tryz.prog 4 #[.agg #[.int .i64 x.id, .int .i64 x.known, .int .u8 x.kind, .int .i64 x.loss, .int .i64 x.pack, .int .i64 x.inn, .string ⟨x.mark.toArray⟩, .string ⟨x.goods.toArray⟩, .int .i64 x.low, .int .i64 x.high, .int .i64 x.pieces, .int .i64 x.owner, .int .i64 x.count, .int .i64 x.of], .string ⟨l.toArray⟩] w fun e w' => e = .returned (.bool true) ∧ Below w.heap.size w w' := by
  have CA := Lib.hid (show ∀ W, Below w.heap.size w W → Calls Tryz.prog 8 #[] W fun e w' => e = .returned (.bool true) ∧ Below W.heap.size W w' from fun W hB => alive_any W (hw.below hB))
  have hb := BoxG.made w x.vals 28
  have hB := al' (Below.refl w.heap.size w) (.cells x.vals.toArray 28)
  simp only [Pa.vals] at hb hB
  have HX0 := Lib.hid hb
  have HB := Lib.hid hB
  have HL := Lib.hid (hw.below hB)
  clear hb hB hw
  go_enter Tryz.func4, Tryz.ntmps4
  go_upto_region 1 with (fail)
  generalize w.alloc (.cells #[.int .i64 x.id, .int .i64 x.known, .int .u8 x.kind, .int .i64 x.loss, .int .i64 x.pack, .int .i64 x.inn, .string ⟨x.mark.toArray⟩, .string ⟨x.goods.toArray⟩, .int .i64 x.low, .int .i64 x.high, .int .i64 x.pieces, .int .i64 x.owner, .int .i64 x.count, .int .i64 x.of] 28) = w1 at *
  have HX := Lib.hid (show BoxG w1 w.heap.size x.vals from HX0.out)
  clear HX0
  obtain ⟨c0, c1, c2, c3, c4, c5, c6, c7, c8, c9, c10, c11, c12, c13⟩ := HX.out.pa
  have HP := Lib.hid (Rd.of_block' w1 x 28)
  have hS := al' (Below.refl w1.heap.size w1) (.cells #[.int .i64 x.id, .int .i64 x.known, .int .u8 x.kind, .int .i64 x.loss, .int .i64 x.pack, .int .i64 x.inn, .string ⟨x.mark.toArray⟩, .string ⟨x.goods.toArray⟩, .int .i64 x.low, .int .i64 x.high, .int .i64 x.pieces, .int .i64 x.owner, .int .i64 x.count, .int .i64 x.of] 28)
  obtain ⟨F2, hF2⟩ : ∃ b, fewB [x] 1 = b := ⟨_, rfl⟩
  go_wp2_with fail
  generalize w1.alloc (.cells #[.int .i64 x.id, .int .i64 x.known, .int .u8 x.kind, .int .i64 x.loss, .int .i64 x.pack, .int .i64 x.inn, .string ⟨x.mark.toArray⟩, .string ⟨x.goods.toArray⟩, .int .i64 x.low, .int .i64 x.high, .int .i64 x.pieces, .int .i64 x.owner, .int .i64 x.count, .int .i64 x.of] 28) = w2 at *
  refine (rfew_any _ 1 1 [x] 1 _ HP.out).mono ?_
  rintro e w3 ⟨rfl, rfl⟩
  rw [hF2]
  have HX' := Lib.hid (HX.out.below' hS)
  have HL' := Lib.hid (HL.out.below hS)
  have HB' := Lib.hid (below_on HB.out hS (Nat.le_refl _))
  clear hS HB HX HL HP c0 c1 c2 c3 c4 c5 c6 c7 c8 c9 c10 c11 c12 c13
  have HX := Lib.hid HX'.out
  have HL := Lib.hid HL'.out
  have HB := Lib.hid HB'.out
  clear HB' HX' HL'
  cases F2 with
  | false =>
    clear hF2
    go_wp2_with fail
    refine (CA.out _ HB.out).mono ?_
    rintro e w3 ⟨rfl, hS⟩
    have HB' := Lib.hid (below_on HB.out hS (Nat.le_refl _))
    clear hS
    go_wp2_with fail
    go_ret
    exact ⟨rfl, HB'.out⟩
  | true =>
  have HSx := Lib.hid (show x.Short from by have := (few_short hF2).2 x (by simp); exact ⟨by omega, by omega⟩)
  clear hF2
  by_cases hbig : 400 < l.length
  · have hbig' : (400 : Int) < (l.length : Int) := by omega
    clear hbig
    go_wp2_with fail
    refine (CA.out _ HB.out).mono ?_
    rintro e w3 ⟨rfl, hS⟩
    have HB' := Lib.hid (below_on HB.out hS (Nat.le_refl _))
    clear hS
    go_wp2_with fail
    go_ret
    exact ⟨rfl, HB'.out⟩
  have hbig' : ¬ (400 : Int) < (l.length : Int) := by omega
  have hl : l.length ≤ 1000 := by omega
  clear hbig
  obtain ⟨S, hS0⟩ : ∃ s, wrS x = s := ⟨_, rfl⟩
  obtain ⟨E, hE0⟩ : ∃ s, cpE x = s := ⟨_, rfl⟩
  obtain ⟨q, hq0⟩ : ∃ q, (readV l).getD pa0 = q := ⟨_, rfl⟩
  obtain ⟨G, hG0⟩ : ∃ s, rdE l = s := ⟨_, rfl⟩
  have CW := Lib.hid (fun W (h : Laid W) => (write_any x HSx.out W h.tab).mono (fun _ _ h => write_is h))
  have CW2 := Lib.hid (fun W => (rwrite_any x HSx.out W).mono (fun _ _ h => write_is h))
  rw [hS0, hE0] at CW CW2
  have CR := Lib.hid (fun W (h : Laid W) => (read_any l (by omega) W h).mono (fun _ _ h => read_is hq0 h))
  have CR2 := Lib.hid (fun W => (rread_any l hl W).mono (fun _ _ h => read_is hq0 h))
  rw [hG0] at CR CR2
  -- what is written is read, and the other way round
  have CB := Lib.hid (show E = 0 → ∀ W, Laid W → Calls Tryz.prog 16 #[.string ⟨S.toArray⟩] W fun e w' => e = .returned (.tuple #[.agg #[.int .i64 x.id, .int .i64 x.known, .int .u8 x.kind, .int .i64 x.loss, .int .i64 x.pack, .int .i64 x.inn, .string ⟨x.mark.toArray⟩, .string ⟨x.goods.toArray⟩, .int .i64 x.low, .int .i64 x.high, .int .i64 x.pieces, .int .i64 x.owner, .int .i64 x.count, .int .i64 x.of], .int .i64 0]) ∧ Below W.heap.size W w' from fun h W hW => by
    have hf : formedP x := Classical.byContradiction fun hn => by rw [← hE0, cpE, if_neg hn] at h; cases h
    have hs : writeP x = S := by rw [← hS0, wrS, if_pos hf]
    have hv := read_write hf
    rw [← hs]
    refine (read_any (writeP x) (Nat.le_trans (write_len hf) (by omega)) W hW).mono ?_
    intro e w' h
    obtain ⟨h1, h2⟩ := read_is (q := x) (by rw [hv]; rfl) h
    exact ⟨by rw [h1, rdE, hv]; rfl, h2⟩)
  have CD := Lib.hid (show G = 0 → ∀ W, Laid W → Calls Tryz.prog 14 #[.agg #[.int .i64 q.id, .int .i64 q.known, .int .u8 q.kind, .int .i64 q.loss, .int .i64 q.pack, .int .i64 q.inn, .string ⟨q.mark.toArray⟩, .string ⟨q.goods.toArray⟩, .int .i64 q.low, .int .i64 q.high, .int .i64 q.pieces, .int .i64 q.owner, .int .i64 q.count, .int .i64 q.of]] W fun e w' => e = .returned (.tuple #[.string ⟨l.toArray⟩, .int .i64 0]) ∧ Below W.heap.size W w' from fun h W hW => by
    cases hv : readV l with
    | none => rw [← hG0, rdE, hv] at h; cases h
    | some y =>
      rw [hv] at hq0
      obtain rfl : y = q := hq0
      obtain ⟨h1, h2⟩ := write_read hv
      refine (write_any y (readV_short hl (by rw [hv]; rfl)) W hW.tab).mono ?_
      intro e w' h
      obtain ⟨h3, h4⟩ := write_is h
      exact ⟨by rw [h3, wrS, if_pos h1, h2, cpE, if_pos h1], h4⟩)
  have hEE : (E != E) = false := by simp
  have hGG : (G != G) = false := by simp
  have nQ : ∀ W, (binOp .neq 28 (.agg #[.int .i64 q.id, .int .i64 q.known, .int .u8 q.kind, .int .i64 q.loss, .int .i64 q.pack, .int .i64 q.inn, .string ⟨q.mark.toArray⟩, .string ⟨q.goods.toArray⟩, .int .i64 q.low, .int .i64 q.high, .int .i64 q.pieces, .int .i64 q.owner, .int .i64 q.count, .int .i64 q.of]) (.agg #[.int .i64 q.id, .int .i64 q.known, .int .u8 q.kind, .int .i64 q.loss, .int .i64 q.pack, .int .i64 q.inn, .string ⟨q.mark.toArray⟩, .string ⟨q.goods.toArray⟩, .int .i64 q.low, .int .i64 q.high, .int .i64 q.pieces, .int .i64 q.owner, .int .i64 q.count, .int .i64 q.of])).run Tryz.prog W = .ok (.bool false) W := fun W => by rw [neqPa_run]; simp
  have nX : ∀ W, (binOp .neq 28 (.agg #[.int .i64 x.id, .int .i64 x.known, .int .u8 x.kind, .int .i64 x.loss, .int .i64 x.pack, .int .i64 x.inn, .string ⟨x.mark.toArray⟩, .string ⟨x.goods.toArray⟩, .int .i64 x.low, .int .i64 x.high, .int .i64 x.pieces, .int .i64 x.owner, .int .i64 x.count, .int .i64 x.of]) (.agg #[.int .i64 x.id, .int .i64 x.known, .int .u8 x.kind, .int .i64 x.loss, .int .i64 x.pack, .int .i64 x.inn, .string ⟨x.mark.toArray⟩, .string ⟨x.goods.toArray⟩, .int .i64 x.low, .int .i64 x.high, .int .i64 x.pieces, .int .i64 x.owner, .int .i64 x.count, .int .i64 x.of])).run Tryz.prog W = .ok (.bool false) W := fun W => by rw [neqPa_run]; simp
  have NQ := Lib.hid nQ
  have NX := Lib.hid nX
  clear hS0 hE0 hq0 hG0 nQ nX hl
  obtain ⟨c0, c1, c2, c3, c4, c5, c6, c7, c8, c9, c10, c11, c12, c13⟩ := HX.out.pa
  go_wp2_with fail
  refine (CW.out _ HL.out).mono ?_
  rintro e w4 ⟨rfl, hS⟩
  have HX' := Lib.hid (HX.out.below' hS)
  have HL' := Lib.hid (HL.out.below hS)
  have HB' := Lib.hid (below_on HB.out hS (Nat.le_refl _))
  clear hS HB HX HL c0 c1 c2 c3 c4 c5 c6 c7 c8 c9 c10 c11 c12 c13 CW
  have HX := Lib.hid HX'.out
  have HL := Lib.hid HL'.out
  have HB := Lib.hid HB'.out
  clear HB' HX' HL'
  obtain ⟨c0, c1, c2, c3, c4, c5, c6, c7, c8, c9, c10, c11, c12, c13⟩ := HX.out.pa
  go_wp2_with fail
  refine (CW2.out _).mono ?_
  rintro e w5 ⟨rfl, hS⟩
  have HX' := Lib.hid (HX.out.below' hS)
  have HL' := Lib.hid (HL.out.below hS)
  have HB' := Lib.hid (below_on HB.out hS (Nat.le_refl _))
  clear hS HB HX HL c0 c1 c2 c3 c4 c5 c6 c7 c8 c9 c10 c11 c12 c13 CW2
  have HX := Lib.hid HX'.out
  have HL := Lib.hid HL'.out
  have HB := Lib.hid HB'.out
  clear HB' HX' HL'
  go_upto_region 6 with (go_at_call 16; refine (CR.out _ HL.out).mono ?_; rintro e w6 ⟨rfl, hS0⟩)
  have hBa := al' (Below.refl w6.heap.size w6) (.cells #[.int .i64 q.id, .int .i64 q.known, .int .u8 q.kind, .int .i64 q.loss, .int .i64 q.pack, .int .i64 q.inn, .string ⟨q.mark.toArray⟩, .string ⟨q.goods.toArray⟩, .int .i64 q.low, .int .i64 q.high, .int .i64 q.pieces, .int .i64 q.owner, .int .i64 q.count, .int .i64 q.of] 28)
  have hbx := BoxG.made w6 q.vals 28
  simp only [Pa.vals] at hbx
  have hS := hS0.trans (hBa.mono hS0.size)
  clear hBa hS0
  generalize w6.alloc (.cells #[.int .i64 q.id, .int .i64 q.known, .int .u8 q.kind, .int .i64 q.loss, .int .i64 q.pack, .int .i64 q.inn, .string ⟨q.mark.toArray⟩, .string ⟨q.goods.toArray⟩, .int .i64 q.low, .int .i64 q.high, .int .i64 q.pieces, .int .i64 q.owner, .int .i64 q.count, .int .i64 q.of] 28) = w7 at *
  obtain ⟨By, hbe⟩ : ∃ B, w6.heap.size = B := ⟨_, rfl⟩
  rw [hbe] at hbx ⊢
  clear hbe
  have hbx' : BoxG w7 By q.vals := hbx
  have HX' := Lib.hid (HX.out.below' hS)
  have HL' := Lib.hid (HL.out.below hS)
  have HB' := Lib.hid (below_on HB.out hS (Nat.le_refl _))
  clear hS HB HX HL CR hbx
  have HX := Lib.hid HX'.out
  have HL := Lib.hid HL'.out
  have HB := Lib.hid HB'.out
  clear HB' HX' HL'
  have HY := Lib.hid hbx'
  clear hbx'
  go_upto_region 7 with (go_at_call 17; refine (CR2.out _).mono ?_; rintro e w8 ⟨rfl, hS0⟩)
  have hBa := al' (Below.refl w8.heap.size w8) (.cells #[.int .i64 q.id, .int .i64 q.known, .int .u8 q.kind, .int .i64 q.loss, .int .i64 q.pack, .int .i64 q.inn, .string ⟨q.mark.toArray⟩, .string ⟨q.goods.toArray⟩, .int .i64 q.low, .int .i64 q.high, .int .i64 q.pieces, .int .i64 q.owner, .int .i64 q.count, .int .i64 q.of] 28)
  have hbx := BoxG.made w8 q.vals 28
  simp only [Pa.vals] at hbx
  have hS := hS0.trans (hBa.mono hS0.size)
  clear hBa hS0
  generalize w8.alloc (.cells #[.int .i64 q.id, .int .i64 q.known, .int .u8 q.kind, .int .i64 q.loss, .int .i64 q.pack, .int .i64 q.inn, .string ⟨q.mark.toArray⟩, .string ⟨q.goods.toArray⟩, .int .i64 q.low, .int .i64 q.high, .int .i64 q.pieces, .int .i64 q.owner, .int .i64 q.count, .int .i64 q.of] 28) = w9 at *
  obtain ⟨Bz, hbe⟩ : ∃ B, w8.heap.size = B := ⟨_, rfl⟩
  rw [hbe] at hbx ⊢
  clear hbe
  have hbx' : BoxG w9 Bz q.vals := hbx
  have HX' := Lib.hid (HX.out.below' hS)
  have HL' := Lib.hid (HL.out.below hS)
  have HY' := Lib.hid (HY.out.below' hS)
  have HB' := Lib.hid (below_on HB.out hS (Nat.le_refl _))
  clear hS HB HX HL HY CR2 hbx
  have HX := Lib.hid HX'.out
  have HL := Lib.hid HL'.out
  have HY := Lib.hid HY'.out
  have HB := Lib.hid HB'.out
  clear HB' HX' HL' HY'
  have HZ := Lib.hid hbx'
  clear hbx'
  obtain ⟨c0, c1, c2, c3, c4, c5, c6, c7, c8, c9, c10, c11, c12, c13⟩ := HY.out.pa
  obtain ⟨d0, d1, d2, d3, d4, d5, d6, d7, d8, d9, d10, d11, d12, d13⟩ := HZ.out.pa
  have nQ := NQ.out
  go_upto_region 9 with (fail)
  clear c0 c1 c2 c3 c4 c5 c6 c7 c8 c9 c10 c11 c12 c13 d0 d1 d2 d3 d4 d5 d6 d7 d8 d9 d10 d11 d12 d13 nQ HZ NQ hEE hGG
  by_cases hE : E = 0
  case neg =>
    have hE' : (E == 0) = false := by simp [hE]
    clear hE
    go_upto_region 13 with (fail)
    by_cases hG : G = 0
    case pos =>
      have CD2 := Lib.hid (CD.out hG)
      have hG' : (G == 0) = true := by simp [hG]
      clear hG
      obtain ⟨c0, c1, c2, c3, c4, c5, c6, c7, c8, c9, c10, c11, c12, c13⟩ := HY.out.pa
      go_wp2_with fail
      refine (CD2.out _ HL.out).mono ?_
      rintro e w20 ⟨rfl, hS⟩
      have HB' := Lib.hid (below_on HB.out hS (Nat.le_refl _))
      clear hS c0 c1 c2 c3 c4 c5 c6 c7 c8 c9 c10 c11 c12 c13 HB HX HY HL
      have HB := Lib.hid HB'.out
      clear HB'
      go_wp2_with fail
      refine (CA.out _ HB.out).mono ?_
      rintro e w21 ⟨rfl, hS⟩
      have HB' := Lib.hid (below_on HB.out hS (Nat.le_refl _))
      clear hS
      go_wp2_with fail
      go_ret
      exact ⟨rfl, HB'.out⟩
    case neg =>
      have hG' : (G == 0) = false := by simp [hG]
      clear hG
      go_wp2_with fail
      refine (CA.out _ HB.out).mono ?_
      rintro e w21 ⟨rfl, hS⟩
      have HB' := Lib.hid (below_on HB.out hS (Nat.le_refl _))
      clear hS
      go_wp2_with fail
      go_ret
      exact ⟨rfl, HB'.out⟩
  case pos =>
    have CB2 := Lib.hid (CB.out hE)
    have hE' : (E == 0) = true := by simp [hE]
    clear hE
    go_upto_region 11 with (go_at_call 16; refine (CB2.out _ HL.out).mono ?_; rintro e w10 ⟨rfl, hS0⟩)
    have hBa := al' (Below.refl w10.heap.size w10) (.cells #[.int .i64 x.id, .int .i64 x.known, .int .u8 x.kind, .int .i64 x.loss, .int .i64 x.pack, .int .i64 x.inn, .string ⟨x.mark.toArray⟩, .string ⟨x.goods.toArray⟩, .int .i64 x.low, .int .i64 x.high, .int .i64 x.pieces, .int .i64 x.owner, .int .i64 x.count, .int .i64 x.of] 28)
    have hbx := BoxG.made w10 x.vals 28
    simp only [Pa.vals] at hbx
    have hS := hS0.trans (hBa.mono hS0.size)
    clear hBa hS0
    generalize w10.alloc (.cells #[.int .i64 x.id, .int .i64 x.known, .int .u8 x.kind, .int .i64 x.loss, .int .i64 x.pack, .int .i64 x.inn, .string ⟨x.mark.toArray⟩, .string ⟨x.goods.toArray⟩, .int .i64 x.low, .int .i64 x.high, .int .i64 x.pieces, .int .i64 x.owner, .int .i64 x.count, .int .i64 x.of] 28) = w11 at *
    obtain ⟨Bb, hbe⟩ : ∃ B, w10.heap.size = B := ⟨_, rfl⟩
    rw [hbe] at hbx ⊢
    clear hbe
    have hbx' : BoxG w11 Bb x.vals := hbx
    have HX' := Lib.hid (HX.out.below' hS)
    have HL' := Lib.hid (HL.out.below hS)
    have HY' := Lib.hid (HY.out.below' hS)
    have HB' := Lib.hid (below_on HB.out hS (Nat.le_refl _))
    clear hS HB HX HL HY  hbx
    have HX := Lib.hid HX'.out
    have HL := Lib.hid HL'.out
    have HY := Lib.hid HY'.out
    have HB := Lib.hid HB'.out
    clear HB' HX' HL' HY'
    have HK := Lib.hid hbx'
    clear hbx'
    obtain ⟨c0, c1, c2, c3, c4, c5, c6, c7, c8, c9, c10, c11, c12, c13⟩ := HX.out.pa
    obtain ⟨d0, d1, d2, d3, d4, d5, d6, d7, d8, d9, d10, d11, d12, d13⟩ := HK.out.pa
    have nX := NX.out
    go_upto_region 13 with (fail)
    clear c0 c1 c2 c3 c4 c5 c6 c7 c8 c9 c10 c11 c12 c13 d0 d1 d2 d3 d4 d5 d6 d7 d8 d9 d10 d11 d12 d13 nX HK
    by_cases hG : G = 0
    case pos =>
      have CD2 := Lib.hid (CD.out hG)
      have hG' : (G == 0) = true := by simp [hG]
      clear hG
      obtain ⟨c0, c1, c2, c3, c4, c5, c6, c7, c8, c9, c10, c11, c12, c13⟩ := HY.out.pa
      go_wp2_with fail
      refine (CD2.out _ HL.out).mono ?_
      rintro e w20 ⟨rfl, hS⟩
      have HB' := Lib.hid (below_on HB.out hS (Nat.le_refl _))
      clear hS c0 c1 c2 c3 c4 c5 c6 c7 c8 c9 c10 c11 c12 c13 HB HX HY HL
      have HB := Lib.hid HB'.out
      clear HB'
      go_wp2_with fail
      refine (CA.out _ HB.out).mono ?_
      rintro e w21 ⟨rfl, hS⟩
      have HB' := Lib.hid (below_on HB.out hS (Nat.le_refl _))
      clear hS
      go_wp2_with fail
      go_ret
      exact ⟨rfl, HB'.out⟩
    case neg =>
      have hG' : (G == 0) = false := by simp [hG]
      clear hG
      go_wp2_with fail
      refine (CA.out _ HB.out).mono ?_
      rintro e w21 ⟨rfl, hS⟩
      have HB' := Lib.hid (below_on HB.out hS (Nat.le_refl _))
      clear hS
      go_wp2_with fail
      go_ret
      exact ⟨rfl, HB'.out⟩
end Go.Proofs.YtpgojnofdgibeaaGreatDoor
