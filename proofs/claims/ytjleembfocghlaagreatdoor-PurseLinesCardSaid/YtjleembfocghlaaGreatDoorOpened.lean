/- The walk of opened: a book's chest, or the first posting that is refused. -/
import Derived.Test.YtjleembfocghlaaGreatDoorTakeG
import Derived.Test.YtjleembfocghlaaGreatDoorLaw
import Derived.Outline
set_option linter.unusedSimpArgs false
set_option linter.unusedVariables false
namespace Go.Proofs.YtjleembfocghlaaGreatDoor
open Go.RowKit
open Go.Maps (Keyed)

/-- the blocks of a chest lie from B on -/
def Lay.From (L : Lay) (B : Nat) : Prop := ∀ k, L.mem k → B ≤ k
def OpenedPost (w : World) (xs : List Po) (e : Ending) (w' : World) : Prop :=
  Below w.heap.size w w' ∧ (((checkL xs).2 = 0 ∧ ∃ L s, e = .returned (.tuple #[.pointer (some ⟨L.c, 0, none⟩), .int .i64 0, .int .i64 0]) ∧ ChAt w' L s ∧ Bk s xs ∧ L.From w.heap.size) ∨
    (¬ (checkL xs).2 = 0 ∧ e = .returned (.tuple #[.pointer none, .int .i64 (checkL xs).1, .int .i64 (checkL xs).2])))

theorem ret_nil_two {j k : IntKind} {a b c d : Int} (h : a = b) (h' : c = d) : Ending.returned (.tuple #[.pointer none, .int j a, .int k c]) = .returned (.tuple #[.pointer none, .int j b, .int k d]) := by rw [h, h']
set_option maxRecDepth 100000 in
set_option maxHeartbeats 2000000 in
theorem opened_any (a : Option Addr) (n cap : Nat) (xs : List Po) (w : World) (h : Rd Po.vals 8 w a n xs) (hw : ∀ p ∈ xs, p.Wf) :
    Calls Tryz.prog 28 #[.slice a n cap] w (OpenedPost w xs) := by
  have Hl := Lib.hid h.len
  have hm := h.cap
  unfold maxLen at hm
  have hmm := @run_makeMap Tryz.prog
  go_enter Tryz.func28, Tryz.ntmps28
  go_wp2_with fail
  have hsz : ∀ k, (⟨w.heap.size + 1 + 1 + 1 + 1 + 1, w.heap.size, w.heap.size + 1, w.heap.size + 1 + 1, w.heap.size + 1 + 1 + 1, w.heap.size + 1 + 1 + 1 + 1⟩ : Lay).mem k → w.heap.size ≤ k := by
    intro k hk; simp only [Lay.mem] at hk; omega
  have Hsz := Lib.hid hsz
  clear hsz
  have hb0 := ((((((Below.refl w.heap.size w).alloc (Nat.le_refl _) (.map #[] 0)).alloc (by simp) (.map #[] 0)).alloc (by simp; omega) (.map #[] 0)).alloc (by simp; omega) (.map #[] 0)).alloc (by simp; omega) (.map #[] 0)).alloc (by simp; omega) (.cells #[.int .i64 0, .int .i64 0, .map (some w.heap.size), .map (some (w.heap.size + 1)), .map (some (w.heap.size + 1 + 1)), .map (some (w.heap.size + 1 + 1 + 1)), .map (some (w.heap.size + 1 + 1 + 1 + 1))] 77)
  have hc0 : ChAt ((((((w.alloc (.map #[] 0)).alloc (.map #[] 0)).alloc (.map #[] 0)).alloc (.map #[] 0)).alloc (.map #[] 0)).alloc (.cells #[.int .i64 0, .int .i64 0, .map (some w.heap.size), .map (some (w.heap.size + 1)), .map (some (w.heap.size + 1 + 1)), .map (some (w.heap.size + 1 + 1 + 1)), .map (some (w.heap.size + 1 + 1 + 1 + 1))] 77))
      ⟨w.heap.size + 1 + 1 + 1 + 1 + 1, w.heap.size, w.heap.size + 1, w.heap.size + 1 + 1, w.heap.size + 1 + 1 + 1, w.heap.size + 1 + 1 + 1 + 1⟩ ch0 := by
    refine ⟨⟨?_, ?_, ?_, ?_, ?_, ?_, ?_, ?_, ?_, ?_, ?_, ?_, ?_, ?_, ?_⟩, ?_, ?_, ?_, ?_, ?_, ?_⟩
    iterate 15 (dsimp only; omega)
    · have := heap_alloc_new (((((w.alloc (.map #[] 0)).alloc (.map #[] 0)).alloc (.map #[] 0)).alloc (.map #[] 0)).alloc (.map #[] 0)) (.cells #[.int .i64 0, .int .i64 0, .map (some w.heap.size), .map (some (w.heap.size + 1)), .map (some (w.heap.size + 1 + 1)), .map (some (w.heap.size + 1 + 1 + 1)), .map (some (w.heap.size + 1 + 1 + 1 + 1))] 77)
      simpa [World.size_alloc, ch0] using this
    · exact (((((MapT.made w).alloc _).alloc _).alloc _).alloc _).alloc _
    · have := ((((MapT.made (P := Tryz.prog) (K := 3) (ke := kInt) (ve := vInt) (w.alloc (.map #[] 0))).alloc (.map #[] 0)).alloc (.map #[] 0)).alloc (.map #[] 0)).alloc (.cells #[.int .i64 0, .int .i64 0, .map (some w.heap.size), .map (some (w.heap.size + 1)), .map (some (w.heap.size + 1 + 1)), .map (some (w.heap.size + 1 + 1 + 1)), .map (some (w.heap.size + 1 + 1 + 1 + 1))] 77)
      simpa [World.size_alloc, ch0] using this
    · have := (((MapT.made (P := Tryz.prog) (K := 3) (ke := kInt) (ve := vInt) ((w.alloc (.map #[] 0)).alloc (.map #[] 0))).alloc (.map #[] 0)).alloc (.map #[] 0)).alloc (.cells #[.int .i64 0, .int .i64 0, .map (some w.heap.size), .map (some (w.heap.size + 1)), .map (some (w.heap.size + 1 + 1)), .map (some (w.heap.size + 1 + 1 + 1)), .map (some (w.heap.size + 1 + 1 + 1 + 1))] 77)
      simpa [World.size_alloc, ch0] using this
    · have := ((MapT.made (P := Tryz.prog) (K := 81) (ke := kAcc) (ve := vInt) (((w.alloc (.map #[] 0)).alloc (.map #[] 0)).alloc (.map #[] 0))).alloc (.map #[] 0)).alloc (.cells #[.int .i64 0, .int .i64 0, .map (some w.heap.size), .map (some (w.heap.size + 1)), .map (some (w.heap.size + 1 + 1)), .map (some (w.heap.size + 1 + 1 + 1)), .map (some (w.heap.size + 1 + 1 + 1 + 1))] 77)
      simpa [World.size_alloc, ch0] using this
    · have := (MapT.made (P := Tryz.prog) (K := 81) (ke := kAcc) (ve := vPo) ((((w.alloc (.map #[] 0)).alloc (.map #[] 0)).alloc (.map #[] 0)).alloc (.map #[] 0))).alloc (.cells #[.int .i64 0, .int .i64 0, .map (some w.heap.size), .map (some (w.heap.size + 1)), .map (some (w.heap.size + 1 + 1)), .map (some (w.heap.size + 1 + 1 + 1)), .map (some (w.heap.size + 1 + 1 + 1 + 1))] 77)
      simpa [World.size_alloc, ch0] using this
  have Hc0 := Lib.hid hc0
  have Hb0 := Lib.hid hb0
  clear hc0 hb0 hmm
  go_loopw [18] (fun i wr => ∃ (k : Nat) (s : Ch), k ≤ n ∧ i = .int .i64 k ∧ checkAux (xs.take k) (xs.drop k) = checkL xs ∧ Bk s (xs.take k) ∧
      ChAt wr ⟨w.heap.size + 1 + 1 + 1 + 1 + 1, w.heap.size, w.heap.size + 1, w.heap.size + 1 + 1, w.heap.size + 1 + 1 + 1, w.heap.size + 1 + 1 + 1 + 1⟩ s ∧ Below w.heap.size w wr) (fun i _ => n - (intOf i).toNat)
  case atStart => exact ⟨0, ch0, Nat.zero_le _, rfl, rfl, bk_nil, Hc0.out, Hb0.out⟩
  case round =>
    obtain ⟨k, s, hk, rfl, hck, hbk, hch, hB⟩ := hrel
    have h1 := h.below' hB
    have Hck := Lib.hid hck
    have Hbk := Lib.hid hbk
    have HB := Lib.hid hB
    have Hch := Lib.hid hch
    clear hck hbk hB hch h Hc0 Hb0
    by_cases hlt : k < n
    · obtain ⟨b, off, x, rfl, hb, hx, x0, x1, x2, x3, x4, x5, x6, x7⟩ := h1.po hlt
      have Hx := Lib.hid hx
      clear hx
      have HB1 := Lib.hid (HB.out.alloc HB.out.size (.cells #[.int .i64 x.id, .int .i64 x.hour, .int .u8 x.kind, .int .i64 x.party, .int .i64 x.parcel, .int .i64 x.amount, .int .i64 x.reason, .int .i64 x.known] 23))
      have hsn := take_succ_snoc Hx.out
      have hdrop : xs.drop k = x :: xs.drop (k + 1) := by
        have hl : k < xs.length := by rw [Hl.out]; exact hlt
        rw [List.drop_eq_getElem_cons hl]
        have := Hx.out
        rw [List.getElem?_eq_getElem hl] at this
        rw [Option.some.inj this]
      have Hsn := Lib.hid hsn
      have Hd := Lib.hid hdrop
      have hT := Hbk.out.take x
      have hlk : (xs.take k).length = k := by rw [List.length_take, Hl.out]; omega
      have Hlk := Lib.hid hlk
      have HT := Lib.hid hT
      have Hxw := Lib.hid (hw x (List.mem_of_getElem? Hx.out))
      clear hsn hdrop hT hlk hw
      go_wp2_with fail
      refine (take_any ⟨w.heap.size + 1 + 1 + 1 + 1 + 1, w.heap.size, w.heap.size + 1, w.heap.size + 1 + 1, w.heap.size + 1 + 1 + 1, w.heap.size + 1 + 1 + 1 + 1⟩ s x _ Hxw.out (Hch.out.alloc _) Hbk.out.bd).mono ?_
      rintro e w2 ⟨rfl, hon, hch2⟩
      rw [HT.out]
      rw [HT.out] at hch2
      have HB2 := Lib.hid (HB1.out.trans (hon.below Hsz.out HB1.out.size))
      have Hch2 := Lib.hid hch2
      clear hon hch2
      by_cases hr : refusedL (xs.take k) x = 0
      · have hr1 : (refusedL (xs.take k) x != 0) = false := by simp [hr]
        have Hr := Lib.hid hr
        clear hr
        go_wp2_with fail
        refine ⟨⟨k + 1, _, by omega, by go_num, ?_, ?_, Hch2.out Hr.out, HB2.out⟩, by simp [intOf]; omega⟩
        · have := Hck.out
          rw [Hd.out, checkAux_go Hr.out] at this
          rw [Hsn.out]
          exact this
        · rw [Hsn.out]
          exact Hbk.out.next Hr.out
      · have hr1 : (refusedL (xs.take k) x != 0) = true := by simp [hr]
        have Hr := Lib.hid hr
        clear hr
        go_wp2_with fail
        go_ret3
        have hc := Hck.out
        rw [Hd.out, checkAux_stop Hr.out, Hlk.out] at hc
        exact ⟨HB2.out, .inr ⟨by rw [← hc]; exact Hr.out, ret_nil_two (by rw [← hc]) (by rw [← hc])⟩⟩
    · go_wp2_with fail
      go_ret3
      have hc := Hck.out
      have hbk := Hbk.out
      have hkn : k = n := by omega
      rw [List.drop_of_length_le (by rw [Hl.out]; omega), checkAux_end] at hc
      rw [List.take_of_length_le (by rw [Hl.out]; omega)] at hbk
      exact ⟨HB.out, .inl ⟨by rw [← hc], _, _, rfl, Hch.out, hbk, Hsz.out⟩⟩
end Go.Proofs.YtjleembfocghlaaGreatDoor
