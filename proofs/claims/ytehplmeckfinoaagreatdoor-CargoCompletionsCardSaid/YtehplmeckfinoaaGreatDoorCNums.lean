/- Numbers printed and joined: the words of a line; the walk of Write's inner function. -/
import Derived.Test.YtehplmeckfinoaaGreatDoorCAppend
import Derived.Test.YtehplmeckfinoaaGreatDoorCShelf
import Derived.Test.YtehplmeckfinoaaGreatDoorRow
import Derived.Lib.Join
import Derived.Lib.LaidTab
import Derived.Deep.Cut
set_option linter.unusedSimpArgs false
set_option linter.unusedVariables false
namespace Go.Proofs.YtehplmeckfinoaaGreatDoor
open Go.RowKit
def dig (n : Int) : List UInt8 := Lib.decDigits n.toNat
theorem str_append (a b : List UInt8) : (⟨a.toArray⟩ : ByteArray) ++ ⟨b.toArray⟩ = ⟨(a ++ b).toArray⟩ := by
 apply ByteArray.ext
 simp
theorem decDigits_step {u : Nat} (h : ¬ u < 10) : Lib.decDigits u = Lib.decDigits (u / 10) ++ Lib.decDigits (u % 10) := by
 rw [Lib.decDigits, dif_neg h, Lib.decDigits_one (show u % 10 < 10 by omega)]
theorem decDigits_le : ∀ (k u : Nat), u < 10 ^ (k + 1) → (Lib.decDigits u).length ≤ k + 1
 | 0, u, h => by rw [Lib.decDigits_one (by simpa using h)]; simp
 | k + 1, u, h => by
   by_cases h1 : u < 10
   · rw [Lib.decDigits_one h1]; simp
   · rw [decDigits_step h1, List.length_append, Lib.decDigits_one (show u % 10 < 10 by omega)]
     have := decDigits_le k (u / 10) (by rw [Nat.pow_succ] at h; omega)
     simp only [List.length_cons, List.length_nil]
     omega
def Tab (w : World) : Prop := Lib.TabIs Tryz.prog w "internal/strconv.uint64pow10" .u64 Lib.pow10Tab
theorem below_of_grown (w : World) (q : Nat) (os : Array Obj) : Below w.heap.size w (Sort.grow (w.drewN q) os) :=
 ⟨rfl, rfl, rfl, by simp [Sort.grow], fun k hk => by simp [Sort.grow, World.drewN, hk, Array.getElem?_append]⟩
theorem Tab.below {w w' : World} (h : Tab w) (hB : Below w.heap.size w w') : Tab w' := by
 have hg : Tryz.prog.globalNamed "internal/strconv.uint64pow10" = some 3 := by kernel_rfl
 unfold Tab Lib.TabIs World.var? at h ⊢
 rw [hg] at h ⊢
 simp only [Option.bind_some] at h ⊢
 have hlt : 3 < w.heap.size := by
  rcases Nat.lt_or_ge 3 w.heap.size with h' | h'
  · exact h'
  · rw [Array.getElem?_eq_none h'] at h; cases h
 rw [hB.block _ hlt]
 exact h
theorem itoa_any (n : Int) (h0 : 0 ≤ n) (h1 : n ≤ 1000000000000) (w : World) (ht : Tab w) :
 Calls Tryz.prog 94 #[.int .i64 n] w fun e w' => e = .returned (.string ⟨(dig n).toArray⟩) ∧ Below w.heap.size w w' := by
 refine (Tryz.strconv_Itoa n (by omega) (by omega) w ht).mono ?_
 rintro e w' ⟨rfl, k, os, rfl⟩
 refine ⟨?_, ?_⟩
 · unfold Lib.itoa dig
   rw [if_neg (by omega)]
 · exact below_of_grown w k os
def strs (x : List UInt8) : List Value := [.string ⟨x.toArray⟩]
theorem strs_length (x : List UInt8) : (strs x).length = 1 := rfl
theorem info_str : (Tryz.prog.info? 9).map (fun i => (i.zero, i.size, i.bytes)) = some (some (.string ⟨#[]⟩), 1, 16) := by kernel_rfl
theorem strs_one (xs : List (List UInt8)) : ∀ u ∈ xs.flatMap strs, u.oneCell' = true := by
 intro u hu
 obtain ⟨x, _, hx⟩ := List.mem_flatMap.1 hu
 simp only [strs, List.mem_cons, List.not_mem_nil, or_false] at hx
 subst hx; rfl
theorem own_words (w : World) {base : Nat} (hb : base ≤ w.heap.size) (ws : List (List UInt8)) (n : Nat) (hn : ws.length = n) (hm : n ≤ maxLen) (e : TypeId) :
 (w.alloc (.cells (ws.flatMap strs).toArray e)).ownsRow base e 1 (.slice (some ⟨w.heap.size, 0, none⟩) n n) n (ws.flatMap strs) := by
 have hl : (ws.flatMap strs).length = n * 1 := by rw [flat_length strs_length, hn]
 exact ⟨hl, .inr ⟨w.heap.size, n, (ws.flatMap strs).toArray, rfl, hb, heap_alloc_new w _, Nat.le_refl _, hm, by simpa using hl, by rw [List.take_of_length_le (by simpa using Nat.le_of_eq hl)]⟩⟩
theorem flat_get (ws : List (List UInt8)) (j : Nat) (x : List UInt8) (h : ws[j]? = some x) : (ws.flatMap strs)[j]? = some (.string ⟨x.toArray⟩) := by
 induction ws generalizing j with
 | nil => simp at h
 | cons y ws ih =>
   cases j with
   | zero => simp at h; subst h; simp [strs]
   | succ j => simpa [strs] using ih j (by simpa using h)
theorem join_any (ws : List (List UInt8)) (w : World) (base n : Nat) (v : Value) (t : TypeId) (hown : w.ownsRow base t 1 v n (ws.flatMap strs)) (hn : ws.length = n) (hl : (Lib.join ws [32]).length ≤ 140737488355328) (h0 : 0 < n) (hN : n ≤ 140737488355328) :
 Calls Tryz.prog 95 #[v, .string ⟨#[32]⟩] w fun e w' => e = .returned (.string ⟨(Lib.join ws [32]).toArray⟩) ∧ Below w.heap.size w w' := by
 have hown2 := hown
 rcases hown2.2 with ⟨rfl, h⟩ | ⟨g, cap, cur, rfl, hb, hg, hnc, hcm, hcs, htake⟩
 · omega
 · have h1 := Tryz.strings_Join g 0 cap (ws.map (fun x => (⟨x.toArray⟩ : ByteArray))) ⟨#[32]⟩ w (fun j x hx => by
    rw [List.getElem?_map] at hx
    cases hj : ws[j]? with
    | none => rw [hj] at hx; cases hx
    | some y =>
      rw [hj] at hx
      simp at hx
      subst hx
      have := hown.cells (g := g) rfl j _ (flat_get ws j y hj)
      rw [Addr.add_lit] at this; simpa using this) (hown.lt g rfl).2 (by simp; omega) (by simp; omega) (by simpa [Function.comp_def] using hl)
   simpa [Function.comp_def, hn] using h1
theorem rd_grown2 {α : Type} {E : α → List Value} {k n : Nat} {W W' : World} {o : Obj} {row : Option Nat} {b : Nat} {xs : List α} (h : Rd E k W (some ⟨b, 0, none⟩) n xs) (hg : (W.alloc o).grownBy W' row) (hb : b < W.heap.size) (hr : row ≠ some b) : Rd E k W' (some ⟨b, 0, none⟩) n xs :=
 ⟨h.len, h.cap, fun i hi => by
  obtain ⟨b', off, x, rfl', hlt, hx, hc⟩ := h.read i hi
  cases rfl'
  refine ⟨b, 0, x, rfl, Nat.lt_of_lt_of_le hb (Nat.le_trans (by simp) hg.size), hx, fun j hj => ?_⟩
  rw [hg.cell_far ⟨b, 0 + i * k + j, none⟩ (by simp; omega) (fun e => hr e.symm), ((Below.refl W.heap.size W).alloc (Nat.le_refl _) o).cell (p := ⟨b, 0 + i * k + j, none⟩) hb]
  exact hc j hj⟩
theorem info_int : (Tryz.prog.info? 3).map (fun i => (i.zero, i.size, i.bytes)) = some (some (.int .i64 0), 1, 8) := by kernel_rfl
theorem Rd.int {w : World} {a : Option Addr} {n : Nat} {xs : List Int} (h : Rd ints 1 w a n xs) {i : Nat} (hi : i < n) : ∃ b off x, a = some ⟨b, off, none⟩ ∧ b < w.heap.size ∧ xs[i]? = some x ∧ w.cell? ⟨b, off + i, none⟩ = some (.int .i64 x) := by
 obtain ⟨b, off, x, h1, h2, h3, h4⟩ := h.read i hi
 exact ⟨b, off, x, h1, h2, h3, by have := h4 0 (by omega); simpa [ints] using this⟩
theorem dig_le {n : Int} (h1 : n ≤ 1000000000000) : (dig n).length ≤ 13 := decDigits_le 12 _ (by omega)
theorem below_on {B : Nat} {w w1 w2 : World} (h : Below B w w1) (h2 : Below w1.heap.size w1 w2) (hB : B ≤ w.heap.size) : Below B w w2 := h.trans (h2.mono (Nat.le_trans hB h.size))
theorem own_later' {W W' : World} {base k n : Nat} {e : TypeId} {v : Value} {xs : List Value} (h : W.ownsRow base e k v n xs) (hB : Below W.heap.size W W') : W'.ownsRow base e k v n xs :=
 h.kept ⟨hB.os, hB.tape, hB.output, hB.size, fun k hk _ => hB.block k hk⟩ (Classical.em _)
theorem own_str_next {w : World} {t : TypeId} {base : Nat} {v : Value} {ws : List (List UInt8)} {x : List UInt8} (h : w.ownsRow base t 1 v (ws.length + 1) (ws.flatMap strs ++ strs x)) : w.ownsRow base t 1 v (ws ++ [x]).length ((ws ++ [x]).flatMap strs) := by
 rw [List.length_append, List.flatMap_append]
 simpa using h
theorem join_len : ∀ (ws : List (List UInt8)) (m : Nat), (∀ x ∈ ws, x.length ≤ m) → (Lib.join ws [32]).length ≤ ws.length * (m + 1)
 | [], m, h => by simp [Lib.join, List.intercalate]
 | [x], m, h => by
   rw [Lib.join_one]
   have := h x (by simp)
   simp; omega
 | x :: y :: ws, m, h => by
   have ih := join_len (y :: ws) m (fun z hz => h z (List.mem_cons_of_mem _ hz))
   have e : Lib.join (x :: y :: ws) [32] = x ++ 32 :: Lib.join (y :: ws) [32] := by simp [Lib.join, List.intercalate]
   have hx := h x (by simp)
   rw [e, List.length_append, List.length_cons]
   simp only [List.length_cons] at ih ⊢
   rw [Nat.add_mul (ws.length + 1) 1 (m + 1)]
   omega
def numL (xs : List Int) : List UInt8 := Lib.join (xs.map dig) [32]
set_option maxRecDepth 100000 in
set_option maxHeartbeats 4000000 in
theorem nums_any (a : Option Addr) (n cap : Nat) (xs : List Int) (hx : ∀ x ∈ xs, 0 ≤ x ∧ x ≤ 1000000000000) (w : World) (h : Rd ints 1 w a n xs) (h0 : 0 < n) (hn : n ≤ 1000) (ht : Tab w) :
 Calls Tryz.prog 93 #[.slice a n cap] w fun e w' => e = .returned (.string ⟨(numL xs).toArray⟩) ∧ Below w.heap.size w w' := by
 obtain ⟨i0, hi0, hz0, hz1, hz2⟩ := info_parts info_str
 have HR := Hd h
 have Hl := Hd h.len
 have HT := Hd ht
 have HX := Hd hx
 clear h ht hx
 go_enter Tryz.func93, Tryz.ntmps93
 go_wp2_with fail
 go_loopw [3, 8] (fun v i wr => ∃ k : Nat, k ≤ n ∧ i = .int .i64 k ∧ wr.ownsRow w.heap.size 9 1 v ((xs.take k).map dig).length (((xs.take k).map dig).flatMap strs) ∧ Below w.heap.size w wr) (fun _ i _ => n - (intOf i).toNat)
 case atStart => exact ⟨0, Nat.zero_le _, rfl, World.ownsRow_nil _ _ _ _, Below.refl _ _⟩
 case round =>
  obtain ⟨k, hk, rfl, hrow, hB⟩ := hrel
  have h1 := HR.out.below' hB
  have HB := Hd hB
  have HRow := Hd hrow
  clear hB hrow
  by_cases hlt : k < n
  · have hlt' : (k : Int) < (n : Int) := by omega
    obtain ⟨b, off, x, rfl, hb, hx, x0⟩ := h1.int hlt
    obtain ⟨b1, b2⟩ := HX.out x (List.mem_of_getElem? hx)
    obtain ⟨Dx, dx⟩ : ∃ D, dig x = D := ⟨_, rfl⟩
    have HS := Hd (show (xs.take (k + 1)).map dig = (xs.take k).map dig ++ [Dx] from by rw [take_succ_snoc hx, List.map_append, ← dx]; rfl)
    have CX := Hd (show Calls Tryz.prog 94 #[.int .i64 x] wr fun e w' => e = .returned (.string ⟨Dx.toArray⟩) ∧ Below wr.heap.size wr w' from by rw [← dx]; exact itoa_any x b1 b2 wr (HT.out.below HB.out))
    have hlk : ((xs.take k).map dig).length ≤ 1000 := by rw [List.length_map, List.length_take]; omega
    obtain ⟨NS, hNS⟩ : ∃ N, (xs.take k).map dig = N := ⟨_, rfl⟩
    rw [hNS] at HRow HS hlk
    clear hx h1 hNS dx
    go_wp2_with fail
    refine CX.out.mono ?_
    rintro e wz ⟨rfl, hB⟩
    have HBz := Hd (below_on HB.out hB (Nat.le_refl _))
    have HRz := Hd (own_later' HRow.out hB)
    clear hB HB HRow CX x0 hb
    go_wp2_with (at_builtin; go_loud (refine wpList_append_own _ rfl _ _ 85 rfl w.heap.size 9 i0 _ 1 16 Tryz.underlying85 hi0 hz0 hz1 hz2 rfl (by decide) _ _ _ rfl (HRz.out.alloc _) ⟨wz.heap.size, 0, none⟩ 1 1 (strs Dx) rfl rfl (cell_one_new _ _ _) (by simp [strs, Value.oneCell']) (by unfold maxLen; omega) (by omega) (Nat.le_trans HBz.out.size (by simp)) ?_; intro v9 w9 hown9 hgrow9 _))
    have HB9 := Hd ((HBz.out.alloc HBz.out.size (.cells #[.string ⟨Dx.toArray⟩] 9)).grown hgrow9 (Nat.le_trans HBz.out.size (by simp)) (fun j e => (HRz.out.lt j e).1))
    have HO9 := Hd (own_str_next hown9)
    clear hown9 hgrow9
    go_wp2_with fail
    exact ⟨⟨k + 1, by omega, by go_num, by rw [HS.out]; exact HO9.out, HB9.out⟩, by simp [intOf]; omega⟩
  · have hltg : ¬ (k : Int) < (n : Int) := by omega
    have HW := Hd (show (xs.take k).map dig = xs.map dig from by rw [List.take_of_length_le (by rw [Hl.out]; omega)])
    rw [HW.out] at HRow
    have CJ := Hd (show ∀ v, _ → Calls Tryz.prog 95 #[v, .string ⟨#[32]⟩] wr _ from fun v hv => join_any (xs.map dig) wr w.heap.size n v 9 hv (by rw [List.length_map]; exact Hl.out) (by
     have := join_len (xs.map dig) 13 (fun y hy => by
      obtain ⟨z, hz, rfl⟩ := List.mem_map.1 hy
      exact dig_le (HX.out z hz).2)
     rw [List.length_map, Hl.out] at this
     omega) h0 (by omega))
    have hnl : (xs.map dig).length = n := by rw [List.length_map]; exact Hl.out
    have HRow2 := HRow.out
    rw [hnl] at HRow2
    have HR3 := Hd HRow2
    clear hlt h1 HRow2 HRow HW hnl
    go_wp2_with fail
    refine (CJ.out _ HR3.out).mono ?_
    rintro e wz ⟨rfl, hB⟩
    have HBz := Hd (below_on HB.out hB (Nat.le_refl _))
    clear hB
    go_wp2_with fail
    go_ret
    exact ⟨rfl, HBz.out⟩
set_option maxRecDepth 100000 in
set_option maxHeartbeats 2000000 in
theorem words_any (w : World) : Calls Tryz.prog 89 #[] w fun e w' => e = .returned (.agg #[.string ⟨#[]⟩, .string ⟨#[112, 97, 99, 107, 97, 103, 101]⟩, .string ⟨#[116, 111, 116, 97, 108]⟩, .string ⟨#[118, 111, 105, 100]⟩]) ∧ Below w.heap.size w w' := by
 go_enter Tryz.func89, Tryz.ntmps89
 go_wp2_with fail
 refine bodyPost_ret (v := .agg #[.string ⟨#[]⟩, .string ⟨#[112, 97, 99, 107, 97, 103, 101]⟩, .string ⟨#[116, 111, 116, 97, 108]⟩, .string ⟨#[118, 111, 105, 100]⟩]) (by simp [results, Tryz.results89, go_sem]) rfl ⟨rfl, (Below.refl _ _).alloc (Nat.le_refl _) _⟩
end Go.Proofs.YtehplmeckfinoaaGreatDoor
