/- The walks of a reader's next and number. -/
import Derived.Test.YtehplmeckfinoaaGreatDoorCNums
import Derived.Deep.Cut
import Derived.RangeFuncBox
import Derived.Test.YtehplmeckfinoaaGreatDoorCShelf
import Derived.Lib.AtoiAllCases
import Derived.Lib.SplitLaws
import Derived.Lib.SlicesS
set_option linter.unusedSimpArgs false
set_option linter.unusedVariables false
namespace Go.Proofs.YtehplmeckfinoaaGreatDoor
open Go.RowKit
def formlessV : Value := .iface 95 (.agg #[])
structure RdAt (w : World) (R : Nat) (ws : List (List UInt8)) : Prop where
 frz : w.frozen? ⟨R, 0, none⟩ = false
 cell : ∃ a n cap, w.cell? ⟨R, 0, none⟩ = some (.slice a n cap) ∧ Rd strs 1 w a n ws ∧ n ≤ cap ∧ (∀ q, a = some q → q.block < R)
theorem RdAt.below' {w w' : World} {R : Nat} {ws : List (List UInt8)} (h : RdAt w R ws) (hB : Below w.heap.size w w') : RdAt w' R ws := by
 obtain ⟨hf, a, n, cap, hc, hr, hn, hq⟩ := h
 exact ⟨(hB.frozen (p := ⟨R, 0, none⟩) (World.block_lt_of_cell? _ _ hc)).trans hf, a, n, cap, cell_stays hc hB, hr.below' hB, hn, hq⟩
theorem Rd.str {w : World} {a : Option Addr} {n : Nat} {xs : List (List UInt8)} (h : Rd strs 1 w a n xs) {i : Nat} (hi : i < n) : ∃ b off x, a = some ⟨b, off, none⟩ ∧ b < w.heap.size ∧ xs[i]? = some x ∧ w.cell? ⟨b, off + i, none⟩ = some (.string ⟨x.toArray⟩) := by
 obtain ⟨b, off, x, h1, h2, h3, h4⟩ := h.read i hi
 exact ⟨b, off, x, h1, h2, h3, by have := h4 0 (by omega); simpa [strs] using this⟩
theorem Rd.tail {w : World} {b off n : Nat} {x : List UInt8} {xs : List (List UInt8)} (h : Rd strs 1 w (some ⟨b, off, none⟩) (n + 1) (x :: xs)) : Rd strs 1 w (some ⟨b, off + 1, none⟩) n xs := by
 refine ⟨by have := h.len; simpa using this, by have := h.cap; omega, fun i hi => ?_⟩
 obtain ⟨b', off', y, h1, h2, h3, h4⟩ := h.read (i + 1) (by omega)
 cases h1
 refine ⟨b, off + 1, y, rfl, h2, by simpa using h3, fun j hj => ?_⟩
 have := h4 j hj
 rw [show off + 1 + i * 1 + j = off + (i + 1) * 1 + j by omega]
 exact this
theorem Rd.aside {α : Type} {E : α → List Value} {k n : Nat} {w : World} {a : Option Addr} {xs : List α} {R i : Nat} {v : Value} (h : Rd E k w a n xs) (hq : ∀ q, a = some q → q.block < R) : Rd E k (w.setCell ⟨R, i, none⟩ v) a n xs :=
 ⟨h.len, h.cap, fun j hj => by
  obtain ⟨b, off, x, rfl, hlt, hx, hc⟩ := h.read j hj
  refine ⟨b, off, x, rfl, by simpa [World.setCell] using hlt, hx, fun m hm => ?_⟩
  have hb := hq _ rfl
  rw [World.cell?_setCell_other _ _ _ _ (fun e => by have := congrArg Addr.block e; simp only at this hb; omega)]
  exact hc m hm⟩
theorem grownBy_setCell'' (W : World) (b o : Nat) (v : Value) : W.grownBy (W.setCell ⟨b, o, none⟩ v) (some b) :=
 ⟨rfl, rfl, rfl, (KeepsWalks.setCell W _ v).size, fun k _ hk => Below.heap_setCell _ _ _ k (fun e => hk (by rw [e]))⟩
theorem RdAt.farX {w w' : World} {R X : Nat} {ws : List (List UInt8)} (h : RdAt w R ws) (hg : w.grownBy w' (some X)) (hX : R < X) : RdAt w' R ws := by
 obtain ⟨hf, a, n, cap, hc, hr, hn, hq⟩ := h
 have hlt := World.block_lt_of_cell? _ _ hc
 refine ⟨(hg.frozen_far ⟨R, 0, none⟩ hlt (by simp; omega)).trans hf, a, n, cap, (hg.cell_far ⟨R, 0, none⟩ hlt (by simp; omega)).trans hc, ⟨hr.len, hr.cap, fun i hi => ?_⟩, hn, hq⟩
 obtain ⟨b, off, x, rfl, hb, hx, hcc⟩ := hr.read i hi
 have hbR := hq _ rfl
 simp only at hbR
 exact ⟨b, off, x, rfl, Nat.lt_of_lt_of_le hb hg.size, hx, fun j hj => (hg.cell_far ⟨b, off + i * 1 + j, none⟩ hb (by simp; omega)).trans (hcc j hj)⟩
theorem RdAt.lt {w : World} {R : Nat} {ws : List (List UInt8)} (h : RdAt w R ws) : R < w.heap.size := by
 obtain ⟨_, a, n, cap, hc, _⟩ := h
 exact World.block_lt_of_cell? _ _ hc
theorem below_of_grownR {w w' : World} {R B : Nat} (hR : R < w.heap.size) (hg : w.grownBy w' (some R)) (hB : B ≤ R) : Below B w w' :=
 ⟨hg.os, hg.tape, hg.output, hg.size, fun k hk => hg.block k (by omega) (by simp; omega)⟩
theorem BoxG.farR {w w' : World} {R B : Nat} {cs : List Value} (h : BoxG w B cs) (hg : w.grownBy w' (some R)) (hne : B ≠ R) : BoxG w' B cs :=
 ⟨Nat.lt_of_lt_of_le h.1 hg.size, fun j => (hg.frozen_far ⟨B, j, none⟩ h.1 (by simpa using hne)).trans (h.2.1 j), fun j hj => (hg.cell_far ⟨B, j, none⟩ h.1 (by simpa using hne)).trans (h.2.2 j hj)⟩
theorem RdAt.put {w : World} {R n cap : Nat} {a : Option Addr} {u : Value} {ws : List (List UInt8)} (hf : w.frozen? ⟨R, 0, none⟩ = false) (hc : w.cell? ⟨R, 0, none⟩ = some u) (hr : Rd strs 1 w a n ws) (hn : n ≤ cap) (hq : ∀ q, a = some q → q.block < R) :
 RdAt (w.setCell ⟨R, 0, none⟩ (.slice a n cap)) R ws :=
 ⟨by rw [World.frozen?_setCell]; exact hf, a, n, cap, cell_on hc, hr.aside hq, hn, hq⟩
set_option maxRecDepth 100000 in
set_option maxHeartbeats 2000000 in
theorem next_none (R : Nat) (w : World) (h : RdAt w R []) :
 Calls Tryz.prog 90 #[.pointer (some ⟨R, 0, none⟩)] w fun e w' => e = .panicked [{ v := formlessV, recovered := false }] ∧ w' = w := by
 obtain ⟨hf, a, n, cap, hc, hr, hn, hq⟩ := h
 obtain rfl : n = 0 := by have := hr.len; simpa using this.symm
 clear hr hq
 go_enter Tryz.func90, Tryz.ntmps90
 go_wp2_with fail
 exact ⟨rfl, rfl, rfl⟩
def NextPost (w : World) (R : Nat) (ws : List (List UInt8)) (w' : World) : Prop := RdAt w' R ws ∧ w.grownBy w' (some R)
set_option maxRecDepth 100000 in
set_option maxHeartbeats 2000000 in
theorem next_some (R : Nat) (x : List UInt8) (ws : List (List UInt8)) (w : World) (h : RdAt w R (x :: ws)) :
 Calls Tryz.prog 90 #[.pointer (some ⟨R, 0, none⟩)] w fun e w' => e = .returned (.string ⟨x.toArray⟩) ∧ NextPost w R ws w' := by
 obtain ⟨hf, a, n, cap, hc, hr, hn, hq⟩ := h
 obtain ⟨m, rfl⟩ : ∃ m, n = m + 1 := ⟨ws.length, by have := hr.len; simpa using this.symm⟩
 have h2' := hr.str (i := 0) (by omega)
 obtain ⟨b, off, x', rfl, hb, hx, x0⟩ := h2'
 obtain rfl : x = x' := by simpa using hx
 have HT := Hd hr.tail
 have HQ := Hd hq
 have hpos : ¬ ((m + 1 : Nat) : Int) = 0 := by omega
 have hpos1 : (((m + 1 : Nat) : Int) == 0) = false := by simp; omega
 rw [Nat.add_zero] at x0
 have HC := Hd hc
 clear hr hq hx
 have HF := Hd hf
 by_cases h1 : cap = 1
 · subst h1
   obtain rfl : m = 0 := by omega
   have hws : ws = [] := by have := HT.out.len; exact List.eq_nil_of_length_eq_zero this
   subst hws
   go_enter Tryz.func90, Tryz.ntmps90
   go_wp2_with fail
   go_ret
   exact ⟨rfl, RdAt.put HF.out HC.out (Rd.empty _ _) (Nat.le_refl _) (fun q e => by cases e; exact HQ.out _ rfl), grownBy_setCell' w R _⟩
 · go_enter Tryz.func90, Tryz.ntmps90
   go_wp2_with fail
   go_ret
   exact ⟨rfl, RdAt.put HF.out HC.out HT.out (by omega) (fun q e => by cases e; have := HQ.out _ rfl; exact this), grownBy_setCell' w R _⟩
structure Laid (w : World) : Prop where
 syn : ∃ ev, w.cell? ⟨1, 0, none⟩ = some ev ∧ (ev = .nilIface ∨ ∃ te pe, ev = .iface te pe)
 rng : ∃ ev, w.cell? ⟨2, 0, none⟩ = some ev ∧ (ev = .nilIface ∨ ∃ te pe, ev = .iface te pe)
 max : ∃ m, w.cell? ⟨0, 0, none⟩ = some (.int .i64 m)
 tab : Tab w
theorem Laid.below {w w' : World} (h : Laid w) (hB : Below w.heap.size w w') : Laid w' := by
 obtain ⟨⟨a, a1, a2⟩, ⟨b, b1, b2⟩, ⟨m, m1⟩, t⟩ := h
 exact ⟨⟨a, cell_stays a1 hB, a2⟩, ⟨b, cell_stays b1 hB, b2⟩, ⟨m, cell_stays m1 hB⟩, t.below hB⟩
def numW (x : List UInt8) : Option Int := match Lib.atoiAll x with
 | .ok v => some v
 | _ => none
theorem atoi_any (x : List UInt8) (hx : x.length ≤ 100000) (w : World) (h : Laid w) :
 Calls Tryz.prog 115 #[.string ⟨x.toArray⟩] w fun e w' => (∃ v ev, e = .returned (.tuple #[.int .i64 v, ev]) ∧ ((numW x = some v ∧ ev = .nilIface) ∨ (numW x = none ∧ ∃ t p, ev = .iface t (.pointer (some p))))) ∧ Below w.heap.size w w' := by
 have hs : (⟨x.toArray⟩ : ByteArray).size = x.length := by simp [ByteArray.size]
 have hd : (⟨x.toArray⟩ : ByteArray).data.toList = x := by simp
 unfold numW
 cases he : Lib.atoiAll x with
 | ok v =>
   refine (Tryz.strconv_Atoi_ok ⟨x.toArray⟩ (by omega) v (by rw [hd]; exact he) w).mono ?_
   rintro e w' ⟨rfl, hw⟩
   refine ⟨⟨v, _, rfl, .inl ⟨rfl, rfl⟩⟩, ?_⟩
   rcases hw with rfl | ⟨t, rfl⟩
   · exact Below.refl _ _
   · exact Lib.bytesWorld_below _ _ _
 | range =>
   obtain ⟨ev, h1, h2⟩ := h.rng
   refine (Tryz.strconv_Atoi_range ⟨x.toArray⟩ (by omega) (by rw [hd]; exact he) ev w h1 h2).mono ?_
   rintro e w' ⟨N, rfl, _, _, hB⟩
   exact ⟨⟨_, _, rfl, .inr ⟨rfl, _, _, rfl⟩⟩, hB⟩
 | _ =>
   obtain ⟨ev, h1, h2⟩ := h.syn
   refine (Tryz.strconv_Atoi_syntax ⟨x.toArray⟩ (by omega) (by rw [hd, he]; intro v e; cases e) (by rw [hd, he]; intro e; cases e) ev w h1 h2).mono ?_
   rintro e w' ⟨N, rfl, _, _, hB⟩
   exact ⟨⟨_, _, rfl, .inr ⟨rfl, _, _, rfl⟩⟩, hB⟩
theorem NextPost.then {w w1 w2 : World} {R : Nat} {ws : List (List UInt8)} (h : NextPost w R ws w1) (hB : Below w1.heap.size w1 w2) : NextPost w R ws w2 :=
 ⟨h.1.below' hB, h.2.trans ⟨hB.os, hB.tape, hB.output, hB.size, fun k hk _ => hB.block k hk⟩⟩
set_option maxRecDepth 100000 in
set_option maxHeartbeats 2000000 in
theorem number_none (R : Nat) (w : World) (h : RdAt w R []) :
 Calls Tryz.prog 88 #[.pointer (some ⟨R, 0, none⟩)] w fun e w' => e = .panicked [{ v := formlessV, recovered := false }] ∧ w' = w := by
 have CN := Hd (next_none R w h)
 clear h
 go_enter Tryz.func88, Tryz.ntmps88
 go_wp2_with fail
 refine CN.out.mono ?_
 rintro e w2 ⟨rfl, rfl⟩
 go_wp2_with fail
 exact ⟨rfl, rfl, rfl⟩
set_option maxRecDepth 100000 in
set_option maxHeartbeats 2000000 in
theorem number_some (R : Nat) (x : List UInt8) (hx : x.length ≤ 100000) (ws : List (List UInt8)) (w : World) (h : RdAt w R (x :: ws)) (hl : ∀ w', w.grownBy w' (some R) → Laid w') :
 Calls Tryz.prog 88 #[.pointer (some ⟨R, 0, none⟩)] w fun e w' => NextPost w R ws w' ∧
  ((∃ v, numW x = some v ∧ e = .returned (.int .i64 v)) ∨ (numW x = none ∧ e = .panicked [{ v := formlessV, recovered := false }])) := by
 have CN := Hd (next_some R x ws w h)
 have HL := Hd hl
 clear h hl
 go_enter Tryz.func88, Tryz.ntmps88
 go_wp2_with fail
 refine CN.out.mono ?_
 rintro e w2 ⟨rfl, hN⟩
 have HN := Hd hN
 clear hN
 go_wp2_with fail
 refine (atoi_any x hx _ (HL.out _ HN.out.2)).mono ?_
 rintro e w3 ⟨⟨v, ev, rfl, ⟨h1, rfl⟩ | ⟨h1, t, p, rfl⟩⟩, hB⟩
 · have HN3 := Hd (HN.out.then hB)
   have H1 := Hd h1
   clear hB h1
   go_wp2_with fail
   go_ret
   exact ⟨HN3.out, .inl ⟨v, H1.out, rfl⟩⟩
 · have HN3 := Hd (HN.out.then hB)
   have H1 := Hd h1
   clear hB h1
   go_wp2_with fail
   exact ⟨rfl, HN3.out, .inr ⟨H1.out, rfl⟩⟩
def spl (l : List UInt8) : List (List UInt8) := Lib.split l [32]
theorem index_sp : ∀ (x r : List UInt8), 32 ∉ x → Lib.index (x ++ 32 :: r) [32] = (x.length : Int)
 | [], r, _ => by simp [Lib.index, List.isPrefixOf]
 | b :: x, r, h => by
   have hb : ¬ (32 : UInt8) = b := fun e => h (by simp [e])
   have ih := index_sp x r (fun e => h (List.mem_cons_of_mem _ e))
   rw [List.cons_append, Lib.index]
   have hp : ([32] : List UInt8).isPrefixOf (b :: (x ++ 32 :: r)) = false := by simp [List.isPrefixOf, hb]
   rw [hp, ih]
   have h1 : ((x.length : Int) == -1) = false := by simp
   simp [h1]
theorem index_no : ∀ (x : List UInt8), 32 ∉ x → Lib.index x [32] = -1
 | [], _ => by simp [Lib.index]
 | b :: x, h => by
   have hb : ¬ (32 : UInt8) = b := fun e => h (by simp [e])
   have ih := index_no x (fun e => h (List.mem_cons_of_mem _ e))
   rw [Lib.index]
   have hp : ([32] : List UInt8).isPrefixOf (b :: x) = false := by simp [List.isPrefixOf, hb]
   rw [hp, ih]
   simp
theorem spl_sp (x r : List UInt8) (h : 32 ∉ x) : spl (x ++ 32 :: r) = x :: spl r := by
 unfold spl Lib.split
 have hix := index_sp x r h
 have hd : (x ++ 32 :: r).drop (x.length + 1) = r := by
  rw [← List.drop_drop, List.drop_left]; rfl
 have hc : Lib.count (x ++ 32 :: r) [32] = Lib.count r [32] + 1 := by
  rw [Lib.count_hit (by simp) hix]
  simp only [List.length_cons, List.length_nil, Nat.zero_add, hd]
  omega
 rw [hc, Lib.splitK, hix]
 have h1 : ((x.length : Int) == -1) = false := by simp
 simp only [h1, Bool.false_eq_true, if_false, Int.toNat_natCast, Nat.add_zero, List.length_cons, List.length_nil, Nat.zero_add, hd]
 simp
theorem spl_no (x : List UInt8) (h : 32 ∉ x) : spl x = [x] := by
 unfold spl Lib.split
 rw [Lib.count_miss (index_no x h)]
 rfl
def cutL : List UInt8 → List UInt8 → List (List UInt8)
 | acc, [] => [acc]
 | acc, c :: r => if c = 32 then acc :: cutL [] r else cutL (acc ++ [c]) r
theorem cut_spl : ∀ (r acc : List UInt8), 32 ∉ acc → cutL acc r = spl (acc ++ r)
 | [], acc, h => by rw [cutL, List.append_nil, spl_no acc h]
 | c :: r, acc, h => by
   rw [cutL]
   split
   · rename_i hc
     subst hc
     rw [spl_sp acc r h, cut_spl r [] (by simp)]
     rfl
   · rename_i hc
     rw [cut_spl r (acc ++ [c]) (by
      intro e
      rcases List.mem_append.1 e with h1 | h1
      · exact h h1
      · simp at h1; exact hc h1.symm), List.append_assoc]
     rfl
theorem cut_is (l : List UInt8) : cutL [] l = spl l := cut_spl l [] (by simp)
theorem cut_len : ∀ (r acc : List UInt8), (cutL acc r).length ≤ r.length + 1
 | [], acc => by simp [cutL]
 | c :: r, acc => by
   rw [cutL]
   split
   · have := cut_len r []; simp only [List.length_cons]; omega
   · have := cut_len r (acc ++ [c]); simp only [List.length_cons]; omega
theorem cut_mem : ∀ (r acc : List UInt8), ∀ x ∈ cutL acc r, x.length ≤ acc.length + r.length
 | [], acc, x, h => by simp [cutL] at h; subst h; simp
 | c :: r, acc, x, h => by
   rw [cutL] at h
   split at h
   · rcases List.mem_cons.1 h with rfl | h
     · omega
     · have := cut_mem r [] x h; simp at this ⊢; omega
   · have := cut_mem r (acc ++ [c]) x h; simp at this ⊢; omega
theorem spl_len (l : List UInt8) : (spl l).length ≤ l.length + 1 := by rw [← cut_is]; exact cut_len l []
theorem spl_mem_len (l : List UInt8) : ∀ x ∈ spl l, x.length ≤ l.length := by
 intro x hx
 rw [← cut_is] at hx
 have := cut_mem l [] x hx
 simpa using this
theorem rd_words (w : World) (ws : List (List UInt8)) (n : Nat) (hn : ws.length = n) (hm : n ≤ maxLen) (e : TypeId) :
 Rd strs 1 (w.alloc (.cells (ws.flatMap strs).toArray e)) (some ⟨w.heap.size, 0, none⟩) n ws := by
 obtain ⟨a, cap, h1, h2, h3, h4⟩ := Rd.of_own (E := strs) (k := 1) (own_words w (Nat.le_refl _) ws n hn hm e) strs_length (by decide) hn hm
 cases h1
 exact h3
theorem split_any (l : List UInt8) (hl : l.length ≤ 100000) (w : World) (h : Laid w) :
 Calls Tryz.prog 87 #[.string ⟨l.toArray⟩, .string ⟨#[32]⟩] w fun e w' => e = .returned (.slice (some ⟨w.heap.size, 0, none⟩) (spl l).length (spl l).length) ∧ w' = w.alloc (.cells ((spl l).flatMap strs).toArray 9) := by
 obtain ⟨m, hm⟩ := h.max
 have hs : (⟨l.toArray⟩ : ByteArray).size = l.length := by simp [ByteArray.size]
 refine (Tryz.strings_Split ⟨l.toArray⟩ ⟨#[32]⟩ m w (by omega) hm (by decide)).mono ?_
 rintro e w' ⟨rfl, rfl⟩
 have h1 : (Lib.splitB ⟨#[32]⟩ 0 (Lib.countB ⟨l.toArray⟩ ⟨#[32]⟩) ⟨l.toArray⟩).map (·.data.toList) = spl l := by
  rw [Lib.splitB_data]
  simp [spl, Lib.split]
 have h2 := Lib.splitB_all ⟨#[32]⟩ (by decide) 0 _ ⟨l.toArray⟩ rfl
 have h3 : (spl l).length = Lib.countB ⟨l.toArray⟩ ⟨#[32]⟩ + 1 := by rw [← h1, List.length_map, h2]
 have h4 : (Lib.splitB ⟨#[32]⟩ 0 (Lib.countB ⟨l.toArray⟩ ⟨#[32]⟩) ⟨l.toArray⟩).map Value.string = (spl l).flatMap strs := by
  rw [← h1]
  generalize Lib.splitB ⟨#[32]⟩ 0 (Lib.countB ⟨l.toArray⟩ ⟨#[32]⟩) ⟨l.toArray⟩ = q
  induction q with
  | nil => rfl
  | cons a q ih => rw [List.map_cons, ih, List.map_cons, List.flatMap_cons]; simp [strs]
 rw [h3, h4]
 exact ⟨rfl, rfl⟩
def kindP (x : List UInt8) : Int := if x = [112, 97, 99, 107, 97, 103, 101] then 1 else if x = [116, 111, 116, 97, 108] then 2 else if x = [118, 111, 105, 100] then 3 else 0
def bindN (ws : List (List UInt8)) (f : Int → List (List UInt8) → Option Pa) : Option Pa := match ws with
 | [] => none
 | x :: r => match numW x with
   | some v => f v r
   | none => none
def bindS (ws : List (List UInt8)) (f : List UInt8 → List (List UInt8) → Option Pa) : Option Pa := match ws with
 | [] => none
 | x :: r => f x r
theorem bindN_some {x : List UInt8} {r : List (List UInt8)} {v : Int} {f : Int → List (List UInt8) → Option Pa} (h : numW x = some v) : bindN (x :: r) f = f v r := by simp only [bindN, h]
theorem bindS_some {x : List UInt8} {r : List (List UInt8)} {f : List UInt8 → List (List UInt8) → Option Pa} : bindS (x :: r) f = f x r := rfl
theorem bindN_bad {x : List UInt8} {r : List (List UInt8)} {f : Int → List (List UInt8) → Option Pa} (h : numW x = none) : bindN (x :: r) f = none := by simp only [bindN, h]
def packageP (a b : Int) (ws : List (List UInt8)) : Option Pa :=
 bindN ws fun c ws => bindN ws fun d ws => bindN ws fun e ws => bindS ws fun m ws => bindS ws fun g ws => bindN ws fun h ws => bindN ws fun i ws => bindN ws fun j ws => bindN ws fun k _ => some ⟨a, b, 1, c, d, e, m, g, h, i, j, k, 0, 0⟩
def totalP (a b : Int) (ws : List (List UInt8)) : Option Pa :=
 bindN ws fun c ws => bindN ws fun d ws => bindN ws fun e ws => bindN ws fun f ws => bindN ws fun g _ => some ⟨a, b, 2, c, d, 0, [], [], f, g, 0, 0, e, 0⟩
def voidP (a b : Int) (ws : List (List UInt8)) : Option Pa := bindN ws fun c _ => some ⟨a, b, 3, 0, 0, 0, [], [], 0, 0, 0, 0, 0, c⟩
def parseW (ws : List (List UInt8)) : Option Pa :=
 bindN ws fun a ws => bindN ws fun b ws => bindS ws fun k ws =>
  if kindP k = 1 then packageP a b ws else if kindP k = 2 then totalP a b ws else if kindP k = 3 then voidP a b ws else some ⟨a, b, 0, 0, 0, 0, [], [], 0, 0, 0, 0, 0, 0⟩
def kindsB : List ByteArray := [⟨#[]⟩, ⟨#[112, 97, 99, 107, 97, 103, 101]⟩, ⟨#[116, 111, 116, 97, 108]⟩, ⟨#[118, 111, 105, 100]⟩]
def idxK (x : List UInt8) : Int := Lib.idxOfS kindsB ⟨x.toArray⟩
theorem ba_eq (a b : List UInt8) : ((⟨a.toArray⟩ : ByteArray) = ⟨b.toArray⟩) ↔ a = b := by
 constructor
 · intro h
   have := congrArg (fun z : ByteArray => z.data.toList) h
   simpa using this
 · rintro rfl; rfl
theorem idxK_is (x : List UInt8) : (idxK x = -1 ∧ kindP x = 0) ∨ (0 ≤ idxK x ∧ idxK x ≤ 3 ∧ kindP x = idxK x) := by
 have e0 := ba_eq [] x
 have e1 := ba_eq [112, 97, 99, 107, 97, 103, 101] x
 have e2 := ba_eq [116, 111, 116, 97, 108] x
 have e3 := ba_eq [118, 111, 105, 100] x
 unfold idxK kindsB Lib.idxOfS kindP
 simp only [Lib.idxFromS]
 by_cases h0 : x = []
 · subst h0; simp
 · have h0' : ¬ (⟨#[]⟩ : ByteArray) = ⟨x.toArray⟩ := fun e => h0 (e0.1 e).symm
   rw [if_neg h0']
   by_cases h1 : x = [112, 97, 99, 107, 97, 103, 101]
   · subst h1; simp
   · have h1' : ¬ (⟨#[112, 97, 99, 107, 97, 103, 101]⟩ : ByteArray) = ⟨x.toArray⟩ := fun e => h1 (e1.1 e).symm
     rw [if_neg h1', if_neg h1]
     by_cases h2 : x = [116, 111, 116, 97, 108]
     · subst h2; simp
     · have h2' : ¬ (⟨#[116, 111, 116, 97, 108]⟩ : ByteArray) = ⟨x.toArray⟩ := fun e => h2 (e2.1 e).symm
       rw [if_neg h2', if_neg h2]
       by_cases h3 : x = [118, 111, 105, 100]
       · subst h3; simp
       · have h3' : ¬ (⟨#[118, 111, 105, 100]⟩ : ByteArray) = ⟨x.toArray⟩ := fun e => h3 (e3.1 e).symm
         rw [if_neg h3', if_neg h3]
         simp
theorem wrap_small {k : Int} (h0 : 0 ≤ k) (h1 : k ≤ 3) : IntKind.u8.wrap k = k := by
 have : k = 0 ∨ k = 1 ∨ k = 2 ∨ k = 3 := by omega
 rcases this with rfl | rfl | rfl | rfl <;> rfl
theorem kind_wrap (x : List UInt8) : IntKind.u8.wrap (max 0 (idxK x)) = kindP x := by
 rcases idxK_is x with ⟨h1, h2⟩ | ⟨h1, h2, h3⟩
 · rw [h1, h2]; rfl
 · rw [h3, Int.max_eq_right h1]
   exact wrap_small h1 h2
theorem kindP_zero {x : List UInt8} (h1 : ¬ kindP x = 1) (h2 : ¬ kindP x = 2) (h3 : ¬ kindP x = 3) : kindP x = 0 := by
 unfold kindP at h1 h2 h3 ⊢
 split
 · rename_i h; rw [if_pos h] at h1; exact absurd rfl h1
 · rename_i h; rw [if_neg h] at h2 h3
   split
   · rename_i h'; rw [if_pos h'] at h2; exact absurd rfl h2
   · rename_i h'; rw [if_neg h'] at h3
     split
     · rename_i h''; rw [if_pos h''] at h3; exact absurd rfl h3
     · rfl
theorem kind_mod (x : List UInt8) : max 0 (idxK x) % 256 = kindP x := by
 rcases idxK_is x with ⟨h1, h2⟩ | ⟨h1, h2, h3⟩
 · rw [h1, h2]; rfl
 · rw [h3, Int.max_eq_right h1]; omega
theorem index_any (B : Nat) (x : List UInt8) (w : World) (hb : ∀ j, j < 4 → w.cell? ⟨B, j, none⟩ = (kindsB.map Value.string)[j]?) :
 Calls Tryz.prog 91 #[.slice (some ⟨B, 0, none⟩) 4 4, .string ⟨x.toArray⟩] w fun e w' => e = .returned (.int .i64 (idxK x)) ∧ w' = w := by
 refine Tryz.slices_Index_string B 0 4 4 kindsB ⟨x.toArray⟩ w (by decide) (by omega) (fun j hj => ?_)
 have : j = 0 ∨ j = 1 ∨ j = 2 ∨ j = 3 := by simp [kindsB] at hj; omega
 rw [Nat.zero_add, hb j (by omega)]
 rcases this with rfl | rfl | rfl | rfl <;> simp [kindsB]
end Go.Proofs.YtehplmeckfinoaaGreatDoor
