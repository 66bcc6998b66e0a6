/- The walk of purse's Write. -/
import Derived.Test.YtjleembfocghlaaGreatDoorLine
import Derived.Test.YtjleembfocghlaaGreatDoorShelf
import Derived.Test.YtjleembfocghlaaGreatDoorRow
import Derived.Test.YtjleembfocghlaaGreatDoorHeld
import Derived.Deep.RegionHeld3
set_option linter.unusedSimpArgs false
set_option linter.unusedVariables false
namespace Go.Proofs.YtjleembfocghlaaGreatDoor
open Go.RowKit

/-- the table of the powers of ten lies as the program lays it -/
def Tab (w : World) : Prop := Lib.TabIs Tryz.prog w "internal/strconv.uint64pow10" .u64 Lib.pow10Tab
theorem below_of_grown (w : World) (q : Nat) (os : Array Obj) : Below w.heap.size w (Sort.grow (w.drewN q) os) :=
  ⟨rfl, rfl, rfl, by simp [Sort.grow], fun k hk => by simp [Sort.grow, World.drewN, hk, Array.getElem?_append]⟩
theorem Tab.below {w w' : World} (h : Tab w) (hB : Below w.heap.size w w') : Tab w' := by
  have hg : Tryz.prog.globalNamed "internal/strconv.uint64pow10" = some 2 := by kernel_rfl
  unfold Tab Lib.TabIs World.var? at h ⊢
  rw [hg] at h ⊢
  simp only [Option.bind_some] at h ⊢
  have hlt : 2 < w.heap.size := by
    rcases Nat.lt_or_ge 2 w.heap.size with h' | h'
    · exact h'
    · rw [Array.getElem?_eq_none h'] at h; cases h
  rw [hB.block _ hlt]
  exact h
theorem itoa_any (n : Int) (h0 : 0 ≤ n) (h1 : n ≤ 1000000000000) (w : World) (ht : Tab w) :
    Calls Tryz.prog 18 #[.int .i64 n] w fun e w' => e = .returned (.string ⟨(dig n).toArray⟩) ∧ Below w.heap.size w w' := by
  refine (Tryz.strconv_Itoa n (by omega) (by omega) w ht).mono ?_
  rintro e w' ⟨rfl, k, os, rfl⟩
  refine ⟨?_, ?_⟩
  · unfold Lib.itoa dig
    rw [if_neg (by omega)]
  · exact below_of_grown w k os
def strs (x : List UInt8) : List Value := [.string ⟨x.toArray⟩]
theorem strs_length (x : List UInt8) : (strs x).length = 1 := rfl
set_option maxRecDepth 100000 in
set_option maxHeartbeats 2000000 in
theorem words_any (w : World) : Calls Tryz.prog 19 #[] w fun e w' => e = .returned (.agg #[.string ⟨#[]⟩, .string ⟨#[115, 97, 108, 101]⟩, .string ⟨#[112, 97, 121]⟩, .string ⟨#[98, 97, 99, 107]⟩]) ∧ Below w.heap.size w w' := by
  go_enter Tryz.func19, Tryz.ntmps19
  go_wp2_with fail
  refine bodyPost_ret (v := .agg #[.string ⟨#[]⟩, .string ⟨#[115, 97, 108, 101]⟩, .string ⟨#[112, 97, 121]⟩, .string ⟨#[98, 97, 99, 107]⟩]) (by simp [results, Tryz.results19, go_sem]) rfl ⟨rfl, (Below.refl _ _).alloc (Nat.le_refl _) _⟩
theorem idx1 (W : World) : (Instr.index 51 (.agg #[.string ⟨#[]⟩, .string ⟨#[115, 97, 108, 101]⟩, .string ⟨#[112, 97, 121]⟩, .string ⟨#[98, 97, 99, 107]⟩]) (.int .u8 1)).run Tryz.prog W = .ok (.string ⟨#[115, 97, 108, 101]⟩) W := by kernel_rfl
theorem idx2 (W : World) : (Instr.index 51 (.agg #[.string ⟨#[]⟩, .string ⟨#[115, 97, 108, 101]⟩, .string ⟨#[112, 97, 121]⟩, .string ⟨#[98, 97, 99, 107]⟩]) (.int .u8 2)).run Tryz.prog W = .ok (.string ⟨#[112, 97, 121]⟩) W := by kernel_rfl
theorem idx3 (W : World) : (Instr.index 51 (.agg #[.string ⟨#[]⟩, .string ⟨#[115, 97, 108, 101]⟩, .string ⟨#[112, 97, 121]⟩, .string ⟨#[98, 97, 99, 107]⟩]) (.int .u8 3)).run Tryz.prog W = .ok (.string ⟨#[98, 97, 99, 107]⟩) W := by kernel_rfl
theorem info_str : (Tryz.prog.info? 9).map (fun i => (i.zero, i.size, i.bytes)) = some (some (.string ⟨#[]⟩), 1, 16) := by kernel_rfl
theorem strs_one (xs : List (List UInt8)) : ∀ u ∈ xs.flatMap strs, u.oneCell' = true := by
  intro u hu
  obtain ⟨x, _, hx⟩ := List.mem_flatMap.1 hu
  simp only [strs, List.mem_cons, List.not_mem_nil, or_false] at hx
  subst hx; rfl
theorem dr' {B : Nat} {w w' : World} (h : Below B w w') : Below B w w'.drew := below_drewN h 1
theorem keepW {W W' : World} {a a' a'' : Addr} {u v x : Value} (h : W.cell? a = some u ∧ W.cell? a' = some v ∧ W.cell? a'' = some x) (hB : Below W.heap.size W W') : W'.cell? a = some u ∧ W'.cell? a' = some v ∧ W'.cell? a'' = some x := ⟨cell_stays h.1 hB, cell_stays h.2.1 hB, cell_stays h.2.2 hB⟩

theorem own_words (w : World) {base : Nat} (hb : base ≤ w.heap.size) (ws : List (List UInt8)) (n : Nat) (hn : ws.length = n) (hm : n ≤ maxLen) (e : TypeId) :
    (w.alloc (.cells (ws.flatMap strs).toArray e)).ownsRow base e 1 (.slice (some ⟨w.heap.size, 0, none⟩) n n) n (ws.flatMap strs) := by
  have hl : (ws.flatMap strs).length = n * 1 := by rw [flat_length strs_length, hn]
  exact ⟨hl, .inr ⟨w.heap.size, n, (ws.flatMap strs).toArray, rfl, hb, heap_alloc_new w _, Nat.le_refl _, hm, by simpa using hl, by rw [List.take_of_length_le (by simpa using Nat.le_of_eq hl)]⟩⟩
theorem own_later' {W W' : World} {base k n : Nat} {e : TypeId} {v : Value} {xs : List Value} (h : W.ownsRow base e k v n xs) (hB : Below W.heap.size W W') : W'.ownsRow base e k v n xs :=
  h.kept ⟨hB.os, hB.tape, hB.output, hB.size, fun k hk _ => hB.block k hk⟩ (Classical.em _)
theorem rd_ints4 (w : World) (a b c d : Int) (t : TypeId) : Rd ints 1 (w.alloc (.cells #[.int .i64 a, .int .i64 b, .int .i64 c, .int .i64 d] t)) (some ⟨w.heap.size, 0, none⟩) 4 [a, b, c, d] := by
  refine ⟨rfl, by unfold maxLen; omega, fun i hi => ⟨w.heap.size, 0, [a, b, c, d][i]'(by simpa using hi), rfl, by simp, by simp, fun j hj => ?_⟩⟩
  have : j = 0 := by omega
  subst this
  rw [cell_of_row _ _ _ _ _ (0, 0) (heap_alloc_new w _)]
  have : i = 0 ∨ i = 1 ∨ i = 2 ∨ i = 3 := by omega
  rcases this with rfl | rfl | rfl | rfl <;> simp [ints]
theorem al' {w w' : World} (h : Below w.heap.size w w') (o : Obj) : Below w.heap.size w (w'.alloc o) := h.alloc h.size o
theorem flat_get (ws : List (List UInt8)) (j : Nat) (x : List UInt8) (h : ws[j]? = some x) : (ws.flatMap strs)[j]? = some (.string ⟨x.toArray⟩) := by
  induction ws generalizing j with
  | nil => simp at h
  | cons y ws ih =>
    cases j with
    | zero => simp at h; subst h; simp [strs]
    | succ j => simpa [strs] using ih j (by simpa using h)
theorem join_any (ws : List (List UInt8)) (w : World) (base n : Nat) (v : Value) (t : TypeId) (hown : w.ownsRow base t 1 v n (ws.flatMap strs)) (hn : ws.length = n) (hl : (Lib.join ws [32]).length ≤ 140737488355328) (h0 : 0 < n) (hN : n ≤ 140737488355328) :
    Calls Tryz.prog 20 #[v, .string ⟨#[32]⟩] w fun e w' => e = .returned (.string ⟨(Lib.join ws [32]).toArray⟩) ∧ Below w.heap.size w w' := by
  have hown2 := hown
  rcases hown2.2 with ⟨rfl, h⟩ | ⟨g, cap, cur, rfl, hb, hg, hnc, hcm, hcs, htake⟩
  · omega
  · have h1 := Tryz.strings_Join g 0 cap (ws.map (fun x => (⟨x.toArray⟩ : ByteArray))) ⟨#[32]⟩ w (fun j x hx => by
      rw [List.getElem?_map] at hx
      cases hj : ws[j]? with
      | none => rw [hj] at hx; cases hx
      | some y =>
        rw [hj] at hx
        simp at hx
        subst hx
        have := hown.cells (g := g) rfl j _ (flat_get ws j y hj)
        rw [Addr.add_lit] at this; simpa using this) (hown.lt g rfl).2 (by simp; omega) (by simp; omega) (by simpa [Function.comp_def] using hl)
    simpa [Function.comp_def, hn] using h1
theorem kindW_le (k : Int) : (kindW k).length ≤ 4 := by unfold kindW; (repeat' split) <;> simp
theorem line_le (p : Po) (h : okPo p) : (lineL p).length ≤ 200 := by
  unfold okPo at h
  have a0 := dig_le (n := p.id) (by omega)
  have a1 := dig_le (n := p.hour) (by omega)
  have a2 := dig_le (n := p.party) (by omega)
  have a3 := dig_le (n := p.parcel) (by omega)
  have a4 := dig_le (n := p.amount) (by omega)
  have a5 := dig_le (n := p.reason) (by omega)
  have a6 := dig_le (n := p.known) (by omega)
  unfold lineL headL tailL
  (repeat' split) <;> simp <;> omega
theorem rd_grown2 {α : Type} {E : α → List Value} {k n : Nat} {W W' : World} {o : Obj} {row : Option Nat} {b : Nat} {xs : List α} (h : Rd E k W (some ⟨b, 0, none⟩) n xs) (hg : (W.alloc o).grownBy W' row) (hb : b < W.heap.size) (hr : row ≠ some b) : Rd E k W' (some ⟨b, 0, none⟩) n xs :=
  ⟨h.len, h.cap, fun i hi => by
    obtain ⟨b', off, x, rfl', hlt, hx, hc⟩ := h.read i hi
    cases rfl'
    refine ⟨b, 0, x, rfl, Nat.lt_of_lt_of_le hb (Nat.le_trans (by simp) hg.size), hx, fun j hj => ?_⟩
    rw [hg.cell_far ⟨b, 0 + i * k + j, none⟩ (by simp; omega) (fun e => hr e.symm), ((Below.refl W.heap.size W).alloc (Nat.le_refl _) o).cell (p := ⟨b, 0 + i * k + j, none⟩) hb]
    exact hc j hj⟩
set_option maxRecDepth 100000 in
set_option maxHeartbeats 4000000 in
theorem write_any (p : Po) (w : World) (ht : Tab w) (hk0 : 0 ≤ p.kind) (hk1 : p.kind ≤ 255) :
    Calls Tryz.prog 5 #[.agg #[.int .i64 p.id, .int .i64 p.hour, .int .u8 p.kind, .int .i64 p.party, .int .i64 p.parcel, .int .i64 p.amount, .int .i64 p.reason, .int .i64 p.known]] w (WritePost w p) := by
  obtain ⟨i0, hi0, hz0, hz1, hz2⟩ := info_parts info_str
  have bx := BoxPo.made w p 23
  have hb := (Below.refl w.heap.size w).alloc (Nat.le_refl _) (.cells #[.int .i64 p.id, .int .i64 p.hour, .int .u8 p.kind, .int .i64 p.party, .int .i64 p.parcel, .int .i64 p.amount, .int .i64 p.reason, .int .i64 p.known] 23)
  have HT := Lib.hid ht
  clear ht
  go_enter Tryz.func5, Tryz.ntmps5
  go_upto_region 1 with (fail)
  generalize w.alloc (.cells #[.int .i64 p.id, .int .i64 p.hour, .int .u8 p.kind, .int .i64 p.party, .int .i64 p.parcel, .int .i64 p.amount, .int .i64 p.reason, .int .i64 p.known] 23) = w1 at *
  obtain ⟨c0, c1, c2, c3, c4, c5, c6, c7⟩ := bx.cells
  have HB := Lib.hid hb
  clear hb
  go_wp2_with fail
  refine (checkPosting_any p _ hk0 hk1).mono ?_
  rintro e w2 ⟨rfl, hB⟩
  obtain ⟨ce, hce⟩ : ∃ c, chkPo p = c := ⟨_, rfl⟩
  rw [hce]
  have Hce := Lib.hid hce
  have hB2 := below_on HB.out hB (Nat.le_refl _)
  have HB2 := Lib.hid hB2
  have HT2 := Lib.hid (HT.out.below hB2)
  have bx2 := bx.below' hB
  clear hB hB2 hce bx HB c0 c1 c2 c3 c4 c5 c6 c7
  by_cases h0 : ce = 0
  case neg =>
    have h1 : (ce != 0) = true := by simp [h0]
    go_wp2_with fail
    go_ret2
    exact ⟨by rw [Hce.out, if_neg h0]; rfl, HB2.out⟩
  subst h0
  have hok : okPo p := by
    refine Classical.byContradiction fun h => ?_
    have h1 := Hce.out
    unfold chkPo at h1
    rw [if_neg h] at h1
    omega
  have HLe := Lib.hid (line_le p hok)
  unfold okPo at hok
  have hkk : p.kind = 1 ∨ p.kind = 2 ∨ p.kind = 3 := by omega
  have HL := Lib.hid (words_line p hkk)
  have HW := Lib.hid (show wordsL p = [dig p.id, dig p.hour, kindW p.kind] ++ (if p.kind = 1 then [] else [dig p.party]) ++ [dig p.parcel, dig p.amount, dig p.reason, dig p.known] from rfl)
  obtain ⟨c0, c1, c2, c3, c4, c5, c6, c7⟩ := bx2.cells
  have CI := Lib.hid (show ∀ n, 0 ≤ n → n ≤ 1000000000000 → ∀ W, Below w2.heap.size w2 W → Calls Tryz.prog 18 #[.int .i64 n] W fun e w' => e = .returned (.string ⟨(dig n).toArray⟩) ∧ Below W.heap.size W w' from fun n h0 h1 W hB => itoa_any n h0 h1 W (HT2.out.below hB))
  obtain ⟨D0, d0⟩ : ∃ D, dig p.id = D := ⟨_, rfl⟩
  obtain ⟨D1, d1⟩ : ∃ D, dig p.hour = D := ⟨_, rfl⟩
  have C0 := Lib.hid (show ∀ W, Below w2.heap.size w2 W → Calls Tryz.prog 18 #[.int .i64 p.id] W fun e w' => e = .returned (.string ⟨D0.toArray⟩) ∧ Below W.heap.size W w' from by rw [← d0]; exact CI.out p.id (by omega) (by omega))
  have C1 := Lib.hid (show ∀ W, Below w2.heap.size w2 W → Calls Tryz.prog 18 #[.int .i64 p.hour] W fun e w' => e = .returned (.string ⟨D1.toArray⟩) ∧ Below W.heap.size W w' from by rw [← d1]; exact CI.out p.hour (by omega) (by omega))
  have HC := Lib.hid (And.intro c2 (And.intro c3 (And.intro c4 (And.intro c5 (And.intro c6 c7)))))
  clear c3 c4 c5 c6 c7
  rcases hkk with hk | hk | hk
  · simp only [kindW, hk, if_true, Int.reduceEq, if_false] at HW
    have ix1 := idx1
    have ix2 := idx2
    have ix3 := idx3
    go_upto_region 4 with (fail)
    go_region_held3 (fun w' => w'.cell? ⟨w.heap.size, 0, none⟩ = some (.int .i64 p.id) ∧ w'.cell? ⟨w.heap.size, 1, none⟩ = some (.int .i64 p.hour) ∧ w'.cell? ⟨w.heap.size, 2, none⟩ = some (.int .u8 p.kind))
      ((refine keepW ⟨c0, c1, c2⟩ ?_; first | with_reducible apply dr' (Below.refl _ _) | with_reducible apply HX1.out | with_reducible apply HX2.out | with_reducible apply HX3.out | with_reducible apply al' HX3.out))
      (first
        | (go_at_call 18; with_reducible refine (C0.out _ (dr' (Below.refl _ _))).mono ?_; rintro e w3 ⟨rfl, hB⟩; have HX1 := Lib.hid (below_on (dr' (Below.refl w2.heap.size w2)) hB (Nat.le_refl _)); clear hB)
        | (go_at_call 18; with_reducible refine (C1.out _ HX1.out).mono ?_; rintro e w4 ⟨rfl, hB⟩; have HX2 := Lib.hid (below_on HX1.out hB (Nat.le_refl _)); clear hB)
        | (go_at_call 19; refine (words_any _).mono ?_; rintro e w5 ⟨rfl, hB⟩; have HX3 := Lib.hid (below_on HX2.out hB (Nat.le_refl _)); clear hB))
    have HX4 := Lib.hid (al' HX3.out (.cells #[.string ⟨D0.toArray⟩, .string ⟨D1.toArray⟩, .string ⟨(kindW p.kind).toArray⟩] 9))
    have HO4 := Lib.hid (own_words w5 HX3.out.size [D0, D1, kindW p.kind] 3 rfl (by unfold maxLen; omega) 9)
    simp only [kindW, hk, if_true, Int.reduceEq, if_false, List.flatMap_cons, List.flatMap_nil, strs, List.cons_append, List.nil_append] at HX4 HO4
    generalize w5.alloc (.cells #[.string ⟨D0.toArray⟩, .string ⟨D1.toArray⟩, .string ⟨_⟩] 9) = w6 at *
    obtain ⟨ws, hws⟩ : ∃ ws : List (List UInt8), [D0, D1, [115, 97, 108, 101]] = ws := ⟨_, rfl⟩
    have HO5 := Lib.hid (show w6.ownsRow w2.heap.size 9 1 (.slice (some ⟨w5.heap.size, 0, none⟩) 3 3) 3 (ws.flatMap strs) from by rw [← hws]; exact HO4.out)
    have Hws := Lib.hid hws
    obtain ⟨d2, d3, d4, d5, d6, d7⟩ := HC.out
    have f2 := cell_stays d2 HX4.out
    have f3 := cell_stays d3 HX4.out
    have f4 := cell_stays d4 HX4.out
    have f5 := cell_stays d5 HX4.out
    have f6 := cell_stays d6 HX4.out
    have f7 := cell_stays d7 HX4.out
    clear hws HO4 d2 d3 d4 d5 d6 d7 ix1 ix2 ix3 C0 C1 HX1 HX2
    have HX7 := HX4
    have HO7 := HO5
    obtain ⟨zs, hzs⟩ : ∃ zs : List (List UInt8), ws = zs := ⟨_, rfl⟩
    have hzn : zs.length ≤ 4 := by rw [← hzs, ← Hws.out]; simp
    obtain ⟨m, hm⟩ : ∃ m, zs.length = m := ⟨_, rfl⟩
    have hm3 : m = 3 := by rw [← hm, ← hzs, ← Hws.out]; rfl
    subst hm3
    have HZ := Lib.hid (show wordsL p = zs ++ [dig p.parcel, dig p.amount, dig p.reason, dig p.known] by rw [HW.out, d0, d1, ← hzs, ← Hws.out]; simp)
    rw [hzs] at HO7
    obtain ⟨v7, hv7⟩ : ∃ v, v = Value.slice (some ⟨w5.heap.size, 0, none⟩) 3 3 := ⟨_, rfl⟩
    go_upto_region 7 with (fail)
    obtain ⟨ns, hns⟩ : ∃ ns : List Int, [p.parcel, p.amount, p.reason, p.known] = ns := ⟨_, rfl⟩
    have HNb := Lib.hid (show ∀ x ∈ ns, 0 ≤ x ∧ x ≤ 1000000000000 from by
      rw [← hns]
      intro x hx
      simp only [List.mem_cons, List.not_mem_nil, or_false] at hx
      rcases hx with rfl | rfl | rfl | rfl <;> omega)
    have HNl := Lib.hid (show ns.length = 4 by rw [← hns]; rfl)
    have HZn := Lib.hid (show wordsL p = zs ++ ns.map dig by rw [HZ.out, ← hns]; rfl)
    have hr := rd_ints4 w6 p.parcel p.amount p.reason p.known 3
    rw [hns] at hr
    have HY := Lib.hid (al' HX7.out (.cells #[.int .i64 p.parcel, .int .i64 p.amount, .int .i64 p.reason, .int .i64 p.known] 3))
    have HOY := Lib.hid (HO7.out.alloc (.cells #[.int .i64 p.parcel, .int .i64 p.amount, .int .i64 p.reason, .int .i64 p.known] 3))
    have HAp := Lib.hid (show (Value.slice (some ⟨w5.heap.size, 0, none⟩) 3 3).ownBlock ≠ some w6.heap.size from fun e => Nat.lt_irrefl _ (HO7.out.lt _ e).2)
    clear hns HO7 HX7 HZ
    go_upto_region 8 with (fail)
    generalize w6.alloc (.cells #[.int .i64 p.parcel, .int .i64 p.amount, .int .i64 p.reason, .int .i64 p.known] 3) = wy at *
    clear f2 f3 f4 f5 f6 f7
    have HRy := Lib.hid hr
    clear hr
    go_loopw [5, 43] (fun v i wr => ∃ k : Nat, k ≤ 4 ∧ i = .int .i64 k ∧ wr.ownsRow w2.heap.size 9 1 v (3 + k) ((zs ++ (ns.take k).map dig).flatMap strs) ∧ Below w2.heap.size w2 wr ∧ Rd ints 1 wr (some ⟨w6.heap.size, 0, none⟩) 4 ns ∧ v.ownBlock ≠ some w6.heap.size) (fun _ i _ => 4 - (intOf i).toNat)
    case atStart => exact ⟨0, Nat.zero_le _, rfl, by simpa using HOY.out, HY.out, HRy.out, HAp.out⟩
    case round =>
      obtain ⟨k, hkk, rfl, hrow, hB, hr, hap⟩ := hrel
      have HBr := Lib.hid hB
      have HRow := Lib.hid hrow
      have HRr := Lib.hid hr
      have HAr := Lib.hid hap
      clear hB hrow hap
      by_cases hlt : k < 4
      · have hlt' : (k : Int) < 4 := by omega
        obtain ⟨b, off, x, rfl', hb, hx, x0⟩ := hr.int hlt
        cases rfl'
        obtain ⟨b1, b2⟩ := HNb.out x (List.mem_of_getElem? hx)
        obtain ⟨Dx, dx⟩ : ∃ D, dig x = D := ⟨_, rfl⟩
        have HS := Lib.hid (show (ns.take (k + 1)).map dig = (ns.take k).map dig ++ [Dx] by rw [take_succ_snoc hx]; simp [dx])
        have CX := Lib.hid (show Calls Tryz.prog 18 #[.int .i64 x] wr fun e w' => e = .returned (.string ⟨Dx.toArray⟩) ∧ Below wr.heap.size wr w' from by rw [← dx]; exact CI.out x b1 b2 wr HBr.out)
        have HLt := Lib.hid hb
        rw [Nat.zero_add] at x0
        clear hx hr dx hb
        go_wp2_with fail
        refine CX.out.mono ?_
        rintro e wz ⟨rfl, hB⟩
        have HBz := Lib.hid (below_on HBr.out hB (Nat.le_refl _))
        have HLz := Lib.hid (Nat.lt_of_lt_of_le HLt.out hB.size)
        have HRrz := Lib.hid (HRr.out.below' hB)
        have HRz := Lib.hid (own_later' HRow.out hB)
        clear hB HBr HRow CX HRr HLt
        go_wp2_with (at_builtin; refine wpList_append_own_at _ rfl _ _ 53 rfl w2.heap.size 9 i0 _ 1 16 Tryz.underlying53 hi0 hz0 hz1 hz2 rfl (by decide) u5 _ _ rfl (HRz.out.alloc _) ⟨wz.heap.size, 0, none⟩ 1 1 (strs Dx) rfl rfl (cell_one_new _ _ _) (by simp [strs, Value.oneCell']) (by unfold maxLen; omega) (by omega) (Nat.le_trans HBz.out.size (by simp)) ?_; intro v9 w9 hown9 hgrow9 _ hat9; have HO9 := Lib.hid hown9; have HG9 := Lib.hid hgrow9; have HA9 := Lib.hid hat9; clear hown9 hgrow9 hat9)
        have HB9 := (al' HBz.out (.cells #[.string ⟨Dx.toArray⟩] 9)).grown HG9.out (Nat.le_trans HBz.out.size (by simp)) (fun j e => (HRz.out.lt j e).1)
        refine ⟨⟨k + 1, by omega, by go_num, ?_, HB9, rd_grown2 HRrz.out HG9.out HLz.out HAr.out, ?_⟩, by simp [intOf]; omega⟩
        · rw [HS.out, ← List.append_assoc, List.flatMap_append]
          simpa [Nat.add_assoc] using HO9.out
        · intro e
          rcases HA9.out with h1 | h1
          · exact HAr.out (h1 ▸ e)
          · rw [h1] at e
            have := HLz.out
            simp at e
            omega
      · have hlt' : ¬ (k : Int) < 4 := by omega
        have hk4 : k = 4 := by omega
        subst hk4
        have hrow : wr.ownsRow w2.heap.size 9 1 u5 7 ((wordsL p).flatMap strs) := by
          have h1 := HRow.out
          rw [List.take_of_length_le (by rw [HNl.out]; exact Nat.le_refl _), ← HZn.out] at h1
          exact h1
        have HRw := Lib.hid hrow
        have CJ := Lib.hid (join_any _ _ _ _ _ _ hrow (by rw [HZn.out, List.length_append, List.length_map, HNl.out, hm]) (by rw [HL.out]; have := HLe.out; omega) (by omega) (by omega))
        clear HRow hrow hr
        go_wp2_with fail
        refine CJ.out.mono ?_
        rintro e wj ⟨rfl, hB⟩
        have HBj := Lib.hid (below_then (below_then HB2.out HBr.out (Nat.le_refl _)) hB (Nat.le_refl _))
        clear hB
        go_wp2_with fail
        go_ret2
        exact ⟨by rw [Hce.out, if_pos rfl, ← HL.out]; rfl, HBj.out⟩
  · simp only [kindW, hk, if_true, Int.reduceEq, if_false] at HW
    have ix1 := idx1
    have ix2 := idx2
    have ix3 := idx3
    go_upto_region 4 with (fail)
    go_region_held3 (fun w' => w'.cell? ⟨w.heap.size, 0, none⟩ = some (.int .i64 p.id) ∧ w'.cell? ⟨w.heap.size, 1, none⟩ = some (.int .i64 p.hour) ∧ w'.cell? ⟨w.heap.size, 2, none⟩ = some (.int .u8 p.kind))
      ((refine keepW ⟨c0, c1, c2⟩ ?_; first | with_reducible apply dr' (Below.refl _ _) | with_reducible apply HX1.out | with_reducible apply HX2.out | with_reducible apply HX3.out | with_reducible apply al' HX3.out))
      (first
        | (go_at_call 18; with_reducible refine (C0.out _ (dr' (Below.refl _ _))).mono ?_; rintro e w3 ⟨rfl, hB⟩; have HX1 := Lib.hid (below_on (dr' (Below.refl w2.heap.size w2)) hB (Nat.le_refl _)); clear hB)
        | (go_at_call 18; with_reducible refine (C1.out _ HX1.out).mono ?_; rintro e w4 ⟨rfl, hB⟩; have HX2 := Lib.hid (below_on HX1.out hB (Nat.le_refl _)); clear hB)
        | (go_at_call 19; refine (words_any _).mono ?_; rintro e w5 ⟨rfl, hB⟩; have HX3 := Lib.hid (below_on HX2.out hB (Nat.le_refl _)); clear hB))
    have HX4 := Lib.hid (al' HX3.out (.cells #[.string ⟨D0.toArray⟩, .string ⟨D1.toArray⟩, .string ⟨(kindW p.kind).toArray⟩] 9))
    have HO4 := Lib.hid (own_words w5 HX3.out.size [D0, D1, kindW p.kind] 3 rfl (by unfold maxLen; omega) 9)
    simp only [kindW, hk, if_true, Int.reduceEq, if_false, List.flatMap_cons, List.flatMap_nil, strs, List.cons_append, List.nil_append] at HX4 HO4
    generalize w5.alloc (.cells #[.string ⟨D0.toArray⟩, .string ⟨D1.toArray⟩, .string ⟨_⟩] 9) = w6 at *
    obtain ⟨ws, hws⟩ : ∃ ws : List (List UInt8), [D0, D1, [112, 97, 121]] = ws := ⟨_, rfl⟩
    have HO5 := Lib.hid (show w6.ownsRow w2.heap.size 9 1 (.slice (some ⟨w5.heap.size, 0, none⟩) 3 3) 3 (ws.flatMap strs) from by rw [← hws]; exact HO4.out)
    have Hws := Lib.hid hws
    obtain ⟨d2, d3, d4, d5, d6, d7⟩ := HC.out
    have f2 := cell_stays d2 HX4.out
    have f3 := cell_stays d3 HX4.out
    have f4 := cell_stays d4 HX4.out
    have f5 := cell_stays d5 HX4.out
    have f6 := cell_stays d6 HX4.out
    have f7 := cell_stays d7 HX4.out
    clear hws HO4 d2 d3 d4 d5 d6 d7 ix1 ix2 ix3 C0 C1 HX1 HX2
    obtain ⟨D3, d3⟩ : ∃ D, dig p.party = D := ⟨_, rfl⟩
    have C3 := Lib.hid (show ∀ W, Below w2.heap.size w2 W → Calls Tryz.prog 18 #[.int .i64 p.party] W fun e w' => e = .returned (.string ⟨D3.toArray⟩) ∧ Below W.heap.size W w' from by rw [← d3]; exact CI.out p.party (by omega) (by omega))
    go_upto_region 7 with (fail)
    refine (C3.out _ HX4.out).mono ?_
    rintro e w8 ⟨rfl, hB⟩
    have HX6 := Lib.hid (below_on HX4.out hB (Nat.le_refl _))
    have HO6 := Lib.hid (own_later' HO5.out hB)
    have g4 := cell_stays f4 hB
    have g5 := cell_stays f5 hB
    have g6 := cell_stays f6 hB
    have g7 := cell_stays f7 hB
    clear hB f2 f3 f4 f5 f6 f7 HO5
    go_upto_region 7 with (at_builtin; refine wpList_append_own_at _ rfl _ _ 53 rfl w2.heap.size 9 i0 _ 1 16 Tryz.underlying53 hi0 hz0 hz1 hz2 rfl (by decide) (.slice (some ⟨w5.heap.size, 0, none⟩) 3 3) _ _ rfl (HO6.out.alloc _) ⟨w8.heap.size, 0, none⟩ 1 1 (strs D3) rfl rfl (cell_one_new _ _ _) (by simp [strs, Value.oneCell']) (by unfold maxLen; omega) (by omega) (Nat.le_trans HX6.out.size (by simp)) ?_; intro v7 w7 hown7 hgrow7 _ _; have HO7 := Lib.hid hown7; have HG7 := Lib.hid hgrow7; clear hown7 hgrow7)
    have HX7 := Lib.hid ((al' HX6.out (.cells #[.string ⟨D3.toArray⟩] 9)).grown HG7.out (Nat.le_trans HX6.out.size (by simp)) (fun j e => (HO6.out.lt j e).1))
    obtain ⟨d2, d3', d4, d5, d6, d7⟩ := HC.out
    have f4 := cell_stays d4 HX7.out
    have f5 := cell_stays d5 HX7.out
    have f6 := cell_stays d6 HX7.out
    have f7 := cell_stays d7 HX7.out
    clear d2 d3' d4 d5 d6 d7 g4 g5 g6 g7 HG7 C3 HX6 HO6
    obtain ⟨zs, hzs⟩ : ∃ zs : List (List UInt8), ws ++ [D3] = zs := ⟨_, rfl⟩
    have hzn : zs.length ≤ 4 := by rw [← hzs, ← Hws.out]; simp
    obtain ⟨m, hm⟩ : ∃ m, zs.length = m := ⟨_, rfl⟩
    have hm3 : m = 4 := by rw [← hm, ← hzs, ← Hws.out]; rfl
    subst hm3
    have HZ := Lib.hid (show wordsL p = zs ++ [dig p.parcel, dig p.amount, dig p.reason, dig p.known] by rw [HW.out, d0, d1, d3, ← hzs, ← Hws.out])
    have HO7 := Lib.hid (show w7.ownsRow w2.heap.size 9 1 v7 4 (zs.flatMap strs) from by
      have h1 := HO7.out
      rw [← hzs, List.flatMap_append]
      simpa using h1)
    obtain ⟨ns, hns⟩ : ∃ ns : List Int, [p.parcel, p.amount, p.reason, p.known] = ns := ⟨_, rfl⟩
    have HNb := Lib.hid (show ∀ x ∈ ns, 0 ≤ x ∧ x ≤ 1000000000000 from by
      rw [← hns]
      intro x hx
      simp only [List.mem_cons, List.not_mem_nil, or_false] at hx
      rcases hx with rfl | rfl | rfl | rfl <;> omega)
    have HNl := Lib.hid (show ns.length = 4 by rw [← hns]; rfl)
    have HZn := Lib.hid (show wordsL p = zs ++ ns.map dig by rw [HZ.out, ← hns]; rfl)
    have hr := rd_ints4 w7 p.parcel p.amount p.reason p.known 3
    rw [hns] at hr
    have HY := Lib.hid (al' HX7.out (.cells #[.int .i64 p.parcel, .int .i64 p.amount, .int .i64 p.reason, .int .i64 p.known] 3))
    have HOY := Lib.hid (HO7.out.alloc (.cells #[.int .i64 p.parcel, .int .i64 p.amount, .int .i64 p.reason, .int .i64 p.known] 3))
    have HAp := Lib.hid (show v7.ownBlock ≠ some w7.heap.size from fun e => Nat.lt_irrefl _ (HO7.out.lt _ e).2)
    clear hns HO7 HX7 HZ
    go_upto_region 8 with (fail)
    generalize w7.alloc (.cells #[.int .i64 p.parcel, .int .i64 p.amount, .int .i64 p.reason, .int .i64 p.known] 3) = wy at *
    clear f4 f5 f6 f7
    have HRy := Lib.hid hr
    clear hr
    go_loopw [5, 43] (fun v i wr => ∃ k : Nat, k ≤ 4 ∧ i = .int .i64 k ∧ wr.ownsRow w2.heap.size 9 1 v (4 + k) ((zs ++ (ns.take k).map dig).flatMap strs) ∧ Below w2.heap.size w2 wr ∧ Rd ints 1 wr (some ⟨w7.heap.size, 0, none⟩) 4 ns ∧ v.ownBlock ≠ some w7.heap.size) (fun _ i _ => 4 - (intOf i).toNat)
    case atStart => exact ⟨0, Nat.zero_le _, rfl, by simpa using HOY.out, HY.out, HRy.out, HAp.out⟩
    case round =>
      obtain ⟨k, hkk, rfl, hrow, hB, hr, hap⟩ := hrel
      have HBr := Lib.hid hB
      have HRow := Lib.hid hrow
      have HRr := Lib.hid hr
      have HAr := Lib.hid hap
      clear hB hrow hap
      by_cases hlt : k < 4
      · have hlt' : (k : Int) < 4 := by omega
        obtain ⟨b, off, x, rfl', hb, hx, x0⟩ := hr.int hlt
        cases rfl'
        obtain ⟨b1, b2⟩ := HNb.out x (List.mem_of_getElem? hx)
        obtain ⟨Dx, dx⟩ : ∃ D, dig x = D := ⟨_, rfl⟩
        have HS := Lib.hid (show (ns.take (k + 1)).map dig = (ns.take k).map dig ++ [Dx] by rw [take_succ_snoc hx]; simp [dx])
        have CX := Lib.hid (show Calls Tryz.prog 18 #[.int .i64 x] wr fun e w' => e = .returned (.string ⟨Dx.toArray⟩) ∧ Below wr.heap.size wr w' from by rw [← dx]; exact CI.out x b1 b2 wr HBr.out)
        have HLt := Lib.hid hb
        rw [Nat.zero_add] at x0
        clear hx hr dx hb
        go_wp2_with fail
        refine CX.out.mono ?_
        rintro e wz ⟨rfl, hB⟩
        have HBz := Lib.hid (below_on HBr.out hB (Nat.le_refl _))
        have HLz := Lib.hid (Nat.lt_of_lt_of_le HLt.out hB.size)
        have HRrz := Lib.hid (HRr.out.below' hB)
        have HRz := Lib.hid (own_later' HRow.out hB)
        clear hB HBr HRow CX HRr HLt
        go_wp2_with (at_builtin; refine wpList_append_own_at _ rfl _ _ 53 rfl w2.heap.size 9 i0 _ 1 16 Tryz.underlying53 hi0 hz0 hz1 hz2 rfl (by decide) u5 _ _ rfl (HRz.out.alloc _) ⟨wz.heap.size, 0, none⟩ 1 1 (strs Dx) rfl rfl (cell_one_new _ _ _) (by simp [strs, Value.oneCell']) (by unfold maxLen; omega) (by omega) (Nat.le_trans HBz.out.size (by simp)) ?_; intro v9 w9 hown9 hgrow9 _ hat9; have HO9 := Lib.hid hown9; have HG9 := Lib.hid hgrow9; have HA9 := Lib.hid hat9; clear hown9 hgrow9 hat9)
        have HB9 := (al' HBz.out (.cells #[.string ⟨Dx.toArray⟩] 9)).grown HG9.out (Nat.le_trans HBz.out.size (by simp)) (fun j e => (HRz.out.lt j e).1)
        refine ⟨⟨k + 1, by omega, by go_num, ?_, HB9, rd_grown2 HRrz.out HG9.out HLz.out HAr.out, ?_⟩, by simp [intOf]; omega⟩
        · rw [HS.out, ← List.append_assoc, List.flatMap_append]
          simpa [Nat.add_assoc] using HO9.out
        · intro e
          rcases HA9.out with h1 | h1
          · exact HAr.out (h1 ▸ e)
          · rw [h1] at e
            have := HLz.out
            simp at e
            omega
      · have hlt' : ¬ (k : Int) < 4 := by omega
        have hk4 : k = 4 := by omega
        subst hk4
        have hrow : wr.ownsRow w2.heap.size 9 1 u5 8 ((wordsL p).flatMap strs) := by
          have h1 := HRow.out
          rw [List.take_of_length_le (by rw [HNl.out]; exact Nat.le_refl _), ← HZn.out] at h1
          exact h1
        have HRw := Lib.hid hrow
        have CJ := Lib.hid (join_any _ _ _ _ _ _ hrow (by rw [HZn.out, List.length_append, List.length_map, HNl.out, hm]) (by rw [HL.out]; have := HLe.out; omega) (by omega) (by omega))
        clear HRow hrow hr
        go_wp2_with fail
        refine CJ.out.mono ?_
        rintro e wj ⟨rfl, hB⟩
        have HBj := Lib.hid (below_then (below_then HB2.out HBr.out (Nat.le_refl _)) hB (Nat.le_refl _))
        clear hB
        go_wp2_with fail
        go_ret2
        exact ⟨by rw [Hce.out, if_pos rfl, ← HL.out]; rfl, HBj.out⟩
  · simp only [kindW, hk, if_true, Int.reduceEq, if_false] at HW
    have ix1 := idx1
    have ix2 := idx2
    have ix3 := idx3
    go_upto_region 4 with (fail)
    go_region_held3 (fun w' => w'.cell? ⟨w.heap.size, 0, none⟩ = some (.int .i64 p.id) ∧ w'.cell? ⟨w.heap.size, 1, none⟩ = some (.int .i64 p.hour) ∧ w'.cell? ⟨w.heap.size, 2, none⟩ = some (.int .u8 p.kind))
      ((refine keepW ⟨c0, c1, c2⟩ ?_; first | with_reducible apply dr' (Below.refl _ _) | with_reducible apply HX1.out | with_reducible apply HX2.out | with_reducible apply HX3.out | with_reducible apply al' HX3.out))
      (first
        | (go_at_call 18; with_reducible refine (C0.out _ (dr' (Below.refl _ _))).mono ?_; rintro e w3 ⟨rfl, hB⟩; have HX1 := Lib.hid (below_on (dr' (Below.refl w2.heap.size w2)) hB (Nat.le_refl _)); clear hB)
        | (go_at_call 18; with_reducible refine (C1.out _ HX1.out).mono ?_; rintro e w4 ⟨rfl, hB⟩; have HX2 := Lib.hid (below_on HX1.out hB (Nat.le_refl _)); clear hB)
        | (go_at_call 19; refine (words_any _).mono ?_; rintro e w5 ⟨rfl, hB⟩; have HX3 := Lib.hid (below_on HX2.out hB (Nat.le_refl _)); clear hB))
    have HX4 := Lib.hid (al' HX3.out (.cells #[.string ⟨D0.toArray⟩, .string ⟨D1.toArray⟩, .string ⟨(kindW p.kind).toArray⟩] 9))
    have HO4 := Lib.hid (own_words w5 HX3.out.size [D0, D1, kindW p.kind] 3 rfl (by unfold maxLen; omega) 9)
    simp only [kindW, hk, if_true, Int.reduceEq, if_false, List.flatMap_cons, List.flatMap_nil, strs, List.cons_append, List.nil_append] at HX4 HO4
    generalize w5.alloc (.cells #[.string ⟨D0.toArray⟩, .string ⟨D1.toArray⟩, .string ⟨_⟩] 9) = w6 at *
    obtain ⟨ws, hws⟩ : ∃ ws : List (List UInt8), [D0, D1, [98, 97, 99, 107]] = ws := ⟨_, rfl⟩
    have HO5 := Lib.hid (show w6.ownsRow w2.heap.size 9 1 (.slice (some ⟨w5.heap.size, 0, none⟩) 3 3) 3 (ws.flatMap strs) from by rw [← hws]; exact HO4.out)
    have Hws := Lib.hid hws
    obtain ⟨d2, d3, d4, d5, d6, d7⟩ := HC.out
    have f2 := cell_stays d2 HX4.out
    have f3 := cell_stays d3 HX4.out
    have f4 := cell_stays d4 HX4.out
    have f5 := cell_stays d5 HX4.out
    have f6 := cell_stays d6 HX4.out
    have f7 := cell_stays d7 HX4.out
    clear hws HO4 d2 d3 d4 d5 d6 d7 ix1 ix2 ix3 C0 C1 HX1 HX2
    obtain ⟨D3, d3⟩ : ∃ D, dig p.party = D := ⟨_, rfl⟩
    have C3 := Lib.hid (show ∀ W, Below w2.heap.size w2 W → Calls Tryz.prog 18 #[.int .i64 p.party] W fun e w' => e = .returned (.string ⟨D3.toArray⟩) ∧ Below W.heap.size W w' from by rw [← d3]; exact CI.out p.party (by omega) (by omega))
    go_upto_region 7 with (fail)
    refine (C3.out _ HX4.out).mono ?_
    rintro e w8 ⟨rfl, hB⟩
    have HX6 := Lib.hid (below_on HX4.out hB (Nat.le_refl _))
    have HO6 := Lib.hid (own_later' HO5.out hB)
    have g4 := cell_stays f4 hB
    have g5 := cell_stays f5 hB
    have g6 := cell_stays f6 hB
    have g7 := cell_stays f7 hB
    clear hB f2 f3 f4 f5 f6 f7 HO5
    go_upto_region 7 with (at_builtin; refine wpList_append_own_at _ rfl _ _ 53 rfl w2.heap.size 9 i0 _ 1 16 Tryz.underlying53 hi0 hz0 hz1 hz2 rfl (by decide) (.slice (some ⟨w5.heap.size, 0, none⟩) 3 3) _ _ rfl (HO6.out.alloc _) ⟨w8.heap.size, 0, none⟩ 1 1 (strs D3) rfl rfl (cell_one_new _ _ _) (by simp [strs, Value.oneCell']) (by unfold maxLen; omega) (by omega) (Nat.le_trans HX6.out.size (by simp)) ?_; intro v7 w7 hown7 hgrow7 _ _; have HO7 := Lib.hid hown7; have HG7 := Lib.hid hgrow7; clear hown7 hgrow7)
    have HX7 := Lib.hid ((al' HX6.out (.cells #[.string ⟨D3.toArray⟩] 9)).grown HG7.out (Nat.le_trans HX6.out.size (by simp)) (fun j e => (HO6.out.lt j e).1))
    obtain ⟨d2, d3', d4, d5, d6, d7⟩ := HC.out
    have f4 := cell_stays d4 HX7.out
    have f5 := cell_stays d5 HX7.out
    have f6 := cell_stays d6 HX7.out
    have f7 := cell_stays d7 HX7.out
    clear d2 d3' d4 d5 d6 d7 g4 g5 g6 g7 HG7 C3 HX6 HO6
    obtain ⟨zs, hzs⟩ : ∃ zs : List (List UInt8), ws ++ [D3] = zs := ⟨_, rfl⟩
    have hzn : zs.length ≤ 4 := by rw [← hzs, ← Hws.out]; simp
    obtain ⟨m, hm⟩ : ∃ m, zs.length = m := ⟨_, rfl⟩
    have hm3 : m = 4 := by rw [← hm, ← hzs, ← Hws.out]; rfl
    subst hm3
    have HZ := Lib.hid (show wordsL p = zs ++ [dig p.parcel, dig p.amount, dig p.reason, dig p.known] by rw [HW.out, d0, d1, d3, ← hzs, ← Hws.out])
    have HO7 := Lib.hid (show w7.ownsRow w2.heap.size 9 1 v7 4 (zs.flatMap strs) from by
      have h1 := HO7.out
      rw [← hzs, List.flatMap_append]
      simpa using h1)
    obtain ⟨ns, hns⟩ : ∃ ns : List Int, [p.parcel, p.amount, p.reason, p.known] = ns := ⟨_, rfl⟩
    have HNb := Lib.hid (show ∀ x ∈ ns, 0 ≤ x ∧ x ≤ 1000000000000 from by
      rw [← hns]
      intro x hx
      simp only [List.mem_cons, List.not_mem_nil, or_false] at hx
      rcases hx with rfl | rfl | rfl | rfl <;> omega)
    have HNl := Lib.hid (show ns.length = 4 by rw [← hns]; rfl)
    have HZn := Lib.hid (show wordsL p = zs ++ ns.map dig by rw [HZ.out, ← hns]; rfl)
    have hr := rd_ints4 w7 p.parcel p.amount p.reason p.known 3
    rw [hns] at hr
    have HY := Lib.hid (al' HX7.out (.cells #[.int .i64 p.parcel, .int .i64 p.amount, .int .i64 p.reason, .int .i64 p.known] 3))
    have HOY := Lib.hid (HO7.out.alloc (.cells #[.int .i64 p.parcel, .int .i64 p.amount, .int .i64 p.reason, .int .i64 p.known] 3))
    have HAp := Lib.hid (show v7.ownBlock ≠ some w7.heap.size from fun e => Nat.lt_irrefl _ (HO7.out.lt _ e).2)
    clear hns HO7 HX7 HZ
    go_upto_region 8 with (fail)
    generalize w7.alloc (.cells #[.int .i64 p.parcel, .int .i64 p.amount, .int .i64 p.reason, .int .i64 p.known] 3) = wy at *
    clear f4 f5 f6 f7
    have HRy := Lib.hid hr
    clear hr
    go_loopw [5, 43] (fun v i wr => ∃ k : Nat, k ≤ 4 ∧ i = .int .i64 k ∧ wr.ownsRow w2.heap.size 9 1 v (4 + k) ((zs ++ (ns.take k).map dig).flatMap strs) ∧ Below w2.heap.size w2 wr ∧ Rd ints 1 wr (some ⟨w7.heap.size, 0, none⟩) 4 ns ∧ v.ownBlock ≠ some w7.heap.size) (fun _ i _ => 4 - (intOf i).toNat)
    case atStart => exact ⟨0, Nat.zero_le _, rfl, by simpa using HOY.out, HY.out, HRy.out, HAp.out⟩
    case round =>
      obtain ⟨k, hkk, rfl, hrow, hB, hr, hap⟩ := hrel
      have HBr := Lib.hid hB
      have HRow := Lib.hid hrow
      have HRr := Lib.hid hr
      have HAr := Lib.hid hap
      clear hB hrow hap
      by_cases hlt : k < 4
      · have hlt' : (k : Int) < 4 := by omega
        obtain ⟨b, off, x, rfl', hb, hx, x0⟩ := hr.int hlt
        cases rfl'
        obtain ⟨b1, b2⟩ := HNb.out x (List.mem_of_getElem? hx)
        obtain ⟨Dx, dx⟩ : ∃ D, dig x = D := ⟨_, rfl⟩
        have HS := Lib.hid (show (ns.take (k + 1)).map dig = (ns.take k).map dig ++ [Dx] by rw [take_succ_snoc hx]; simp [dx])
        have CX := Lib.hid (show Calls Tryz.prog 18 #[.int .i64 x] wr fun e w' => e = .returned (.string ⟨Dx.toArray⟩) ∧ Below wr.heap.size wr w' from by rw [← dx]; exact CI.out x b1 b2 wr HBr.out)
        have HLt := Lib.hid hb
        rw [Nat.zero_add] at x0
        clear hx hr dx hb
        go_wp2_with fail
        refine CX.out.mono ?_
        rintro e wz ⟨rfl, hB⟩
        have HBz := Lib.hid (below_on HBr.out hB (Nat.le_refl _))
        have HLz := Lib.hid (Nat.lt_of_lt_of_le HLt.out hB.size)
        have HRrz := Lib.hid (HRr.out.below' hB)
        have HRz := Lib.hid (own_later' HRow.out hB)
        clear hB HBr HRow CX HRr HLt
        go_wp2_with (at_builtin; refine wpList_append_own_at _ rfl _ _ 53 rfl w2.heap.size 9 i0 _ 1 16 Tryz.underlying53 hi0 hz0 hz1 hz2 rfl (by decide) u5 _ _ rfl (HRz.out.alloc _) ⟨wz.heap.size, 0, none⟩ 1 1 (strs Dx) rfl rfl (cell_one_new _ _ _) (by simp [strs, Value.oneCell']) (by unfold maxLen; omega) (by omega) (Nat.le_trans HBz.out.size (by simp)) ?_; intro v9 w9 hown9 hgrow9 _ hat9; have HO9 := Lib.hid hown9; have HG9 := Lib.hid hgrow9; have HA9 := Lib.hid hat9; clear hown9 hgrow9 hat9)
        have HB9 := (al' HBz.out (.cells #[.string ⟨Dx.toArray⟩] 9)).grown HG9.out (Nat.le_trans HBz.out.size (by simp)) (fun j e => (HRz.out.lt j e).1)
        refine ⟨⟨k + 1, by omega, by go_num, ?_, HB9, rd_grown2 HRrz.out HG9.out HLz.out HAr.out, ?_⟩, by simp [intOf]; omega⟩
        · rw [HS.out, ← List.append_assoc, List.flatMap_append]
          simpa [Nat.add_assoc] using HO9.out
        · intro e
          rcases HA9.out with h1 | h1
          · exact HAr.out (h1 ▸ e)
          · rw [h1] at e
            have := HLz.out
            simp at e
            omega
      · have hlt' : ¬ (k : Int) < 4 := by omega
        have hk4 : k = 4 := by omega
        subst hk4
        have hrow : wr.ownsRow w2.heap.size 9 1 u5 8 ((wordsL p).flatMap strs) := by
          have h1 := HRow.out
          rw [List.take_of_length_le (by rw [HNl.out]; exact Nat.le_refl _), ← HZn.out] at h1
          exact h1
        have HRw := Lib.hid hrow
        have CJ := Lib.hid (join_any _ _ _ _ _ _ hrow (by rw [HZn.out, List.length_append, List.length_map, HNl.out, hm]) (by rw [HL.out]; have := HLe.out; omega) (by omega) (by omega))
        clear HRow hrow hr
        go_wp2_with fail
        refine CJ.out.mono ?_
        rintro e wj ⟨rfl, hB⟩
        have HBj := Lib.hid (below_then (below_then HB2.out HBr.out (Nat.le_refl _)) hB (Nat.le_refl _))
        clear hB
        go_wp2_with fail
        go_ret2
        exact ⟨by rw [Hce.out, if_pos rfl, ← HL.out]; rfl, HBj.out⟩
end Go.Proofs.YtjleembfocghlaaGreatDoor
