/- The walks of sorted and left. -/
import Derived.Test.YtehplmeckfinoaaGreatDoorCBack
import Derived.Test.YtehplmeckfinoaaGreatDoorCLast
import Derived.Test.YtehplmeckfinoaaGreatDoorCIds
import Derived.Deep.Cut
set_option linter.unusedSimpArgs false
set_option linter.unusedVariables false
namespace Go.Proofs.YtehplmeckfinoaaGreatDoor
open Go.RowKit Go.Shelf
attribute [local go_sem] Oper.semAt_some
theorem sorted_any (w : World) (base : Nat) (v : Value) (zs : List Int) (h : w.ownsRow base 3 1 v zs.length (zs.flatMap ints)) (hn : zs.length ≤ 1000000) :
 Calls Tryz.prog 85 #[v] w fun e w' => e = .returned v ∧ w'.ownsRow base 3 1 v (zs.mergeSort fun x y => decide (x ≤ y)).length ((zs.mergeSort fun x y => decide (x ≤ y)).flatMap ints) ∧ w.grownBy w' v.ownBlock := by
 have C := Hd (sort_any w base v zs h hn)
 clear h
 go_enter Tryz.func85, Tryz.ntmps85
 go_wp2_with (go_at_call 112; refine C.out.mono ?_; rintro e w' ⟨rfl, h1, h2⟩)
 go_ret
 exact ⟨rfl, h1, h2⟩
theorem left1_any (x y : Int) (B : Nat) (w : World) (hc : w.cell? ⟨B, 0, none⟩ = some (.int .i64 x)) :
 Calls Tryz.prog 84 (#[Value.int .i64 y] ++ #[.pointer (some ⟨B, 0, none⟩)]) w fun e w' => e = .returned (.bool (decide (y = x))) ∧ Below w.heap.size w w' := by
 have hB := World.block_lt_of_cell? _ _ hc
 have HE := Hd (show (y == x) = decide (y = x) from rfl)
 show Calls _ _ #[Value.int .i64 y, .pointer (some ⟨B, 0, none⟩)] w _
 go_enter Tryz.func84, Tryz.ntmps84
 go_wp2_with fail
 go_ret
 exact ⟨rfl, Below.refl _ _⟩
def stepR (still : List Int → Bool) (out : List Int) (i : Int) : List Int := if still (out.filter (fun x => !decide (x = i))) then out.filter (fun x => !decide (x = i)) else out
theorem leftR_fold (still : List Int → Bool) : ∀ (l out : List Int), leftR still l out = l.foldl (stepR still) out
 | [], out => rfl
 | i :: r, out => by rw [leftR, leftR_fold still r]; rfl
theorem stepR_len (still : List Int → Bool) (out : List Int) (i : Int) : (stepR still out i).length ≤ out.length := by
 unfold stepR; split
 · exact List.length_filter_le _ _
 · exact Nat.le_refl _
theorem leftR_len (still : List Int → Bool) : ∀ (l out : List Int), (leftR still l out).length ≤ out.length
 | [], out => Nat.le_refl _
 | i :: r, out => by rw [leftR]; exact Nat.le_trans (leftR_len still r _) (stepR_len still out i)
theorem leftL_len (still : List Int → Bool) (ids : List Int) : (leftL still ids).length ≤ ids.length := by
 unfold leftL; rw [List.length_mergeSort]; exact leftR_len _ _ _
theorem Rd.kept_own {α : Type} {E : α → List Value} {k n : Nat} {w w' : World} {a : Option Addr} {xs : List α} {row : Option Nat} (h : Rd E k w a n xs) (hk : 0 < k) (hE : ∀ x, (E x).length = k) (hg : w.grownBy w' row) (hr : ∀ r, row = some r → ∃ o : Obj, w.heap[r]? = some o ∧ o.isCells = false) : Rd E k w' a n xs := by
 refine ⟨h.len, h.cap, fun i hi => ?_⟩
 obtain ⟨b, off, x, ha, hb, hx, hc⟩ := h.read i hi
 have h0 := hc 0 hk
 have hn : some b ≠ row := fun e => by
  obtain ⟨o, ho, hc'⟩ := hr b e.symm
  have hl : 0 < (E x).length := by rw [hE]; exact hk
  rw [List.getElem?_eq_getElem hl] at h0
  simp only [World.cell?, ho] at h0
  cases o <;> simp_all [Obj.isCells]
 refine ⟨b, off, x, ha, Nat.lt_of_lt_of_le hb hg.size, hx, fun j hj => ?_⟩
 rw [← hc j hj]
 exact World.cell?_of_block (hg.block b hb hn)
structure LeftAt (w1 : World) (B5 : Nat) (base : Nat) (L : List Int) (W : World) : Prop where
 row : ∃ a n cap, W.cell? ⟨B5, 0, none⟩ = some (.slice a n cap) ∧ Rd ints 1 W a n L ∧ n ≤ cap
 fr : W.frozen? ⟨B5, 0, none⟩ = false
 but : But B5 w1.heap.size w1 W
theorem leftAt_own {β : Type} {w1 : World} {B5 base : Nat} {f : β → List Int} (hb : B5 < w1.heap.size) (hbase : w1.heap.size = base) : OwnFrom base (fun (s : β) W => LeftAt w1 B5 base (f s) W) := by
 subst hbase
 intro s W W' row h hg hr
 obtain ⟨⟨a, n, cap, h1, h2, h3⟩, h4, h5⟩ := h
 have hlt := World.block_lt_of_cell? _ _ h1
 have hne : some B5 ≠ row := fun e => by have := (hr B5 e.symm).1; omega
 refine ⟨⟨a, n, cap, (World.cell?_of_block (hg.block B5 hlt hne)).trans h1, h2.kept_own (by decide) ints_length hg (fun r e => (hr r e).2), h3⟩, ?_, h5.grown hg (Nat.le_refl _) (fun k e => .inr (hr k e).1)⟩
 simp only [World.frozen?] at h4 ⊢
 rw [hg.block B5 hlt hne]; exact h4
theorem LeftAt.below' {w1 : World} {B5 base : Nat} {L : List Int} {W W' : World} (h : LeftAt w1 B5 base L W) (hB : Below W.heap.size W W') : LeftAt w1 B5 base L W' := by
 obtain ⟨⟨a, n, cap, h1, h2, h3⟩, h4, h5⟩ := h
 exact ⟨⟨a, n, cap, cell_stays h1 hB, h2.below' hB, h3⟩, (hB.frozen (p := ⟨B5, 0, none⟩) (World.block_lt_of_cell? _ _ h1)).trans h4, h5.trans (Below.but (hB.mono h5.size))⟩
theorem LeftAt.put {w1 : World} {B5 base : Nat} {L L' : List Int} {W : World} {a : Option Addr} {n cap : Nat} (h : LeftAt w1 B5 base L W) (h1 : Rd ints 1 W a n L') (h2 : n ≤ cap) (ha : 0 < n → ∀ p, a = some p → p.block ≠ B5) : LeftAt w1 B5 base L' (W.setCell ⟨B5, 0, none⟩ (.slice a n cap)) := by
 obtain ⟨⟨a0, n0, cap0, g1, g2, g3⟩, h4, h5⟩ := h
 refine ⟨⟨a, n, cap, cell_on' g1, (Keeps.setCell W ⟨B5, 0, none⟩ _).rd h1 (fun h0 p e hm => ha h0 p e (List.mem_singleton.1 hm)), h2⟩, by rw [World.frozen?_setCell]; exact h4, h5.trans ⟨rfl, rfl, rfl, by simp [World.setCell], fun k hk hn => (Keeps.setCell W ⟨B5, 0, none⟩ (.slice a n cap)).block k ?_ (by simpa using hn)⟩⟩
 exact Nat.lt_of_lt_of_le hk h5.size
set_option maxRecDepth 100000 in
set_option maxHeartbeats 8000000 in
theorem left_in (g : Nat) (cb : Array Value) (eg : ∀ args w, (callFunc g args).run Tryz.prog w = .ok (.enter g args) w) (still : List Int → Bool) (a : Option Addr) (n cap : Nat) (xs : List Int) (w : World) (h : Rd ints 1 w a n xs) (hn : n ≤ 1000) (hcap : n ≤ cap)
 (hs : ∀ W a' n' cap' ys, ys.length ≤ xs.length → Below w.heap.size w W → Rd ints 1 W a' n' ys → n' ≤ cap' → (∀ p, a' = some p → p.block < W.heap.size) → Calls Tryz.prog g (#[.slice a' n' cap'] ++ cb) W fun e W' => e = .returned (.bool (still ys)) ∧ Below W.heap.size W W') :
 CallsIn Fence.wide 5 Tryz.prog 45 #[.slice a n cap, .func (.func g) #[] cb] w fun e w' => ∃ v, e = .returned v ∧ w'.ownsRow w.heap.size 3 1 v (leftL still xs).length ((leftL still xs).flatMap ints) ∧ Below w.heap.size w w' := by
 have hmf : ∀ (fn : Fn) (first cap : Array Value) (w : World), (Instr.makeFunc fn first cap).run Tryz.prog w = .ok (.func fn first cap) w := fun _ _ _ _ => rfl
 have HS := Hd hs
 have hlow : 0 < n → ∀ p, a = some p → p.block < w.heap.size + 1 := fun h0 p e => by
  obtain ⟨b, off, x, ha, hb, _⟩ := h.int (i := 0) h0
  rw [e] at ha; cases ha; exact Nat.lt_succ_of_lt hb
 have HLow := Hd hlow
 have Hl := Hd h.len
 have hB0 := al' (al' (Below.refl w.heap.size w) (.cells #[.func (.func g) #[] cb] 90)) (.cells #[.slice a n cap] 43)
 have hz1 : (w.alloc (.cells #[.func (.func g) #[] cb] 90)).heap.size = w.heap.size + 1 := by simp
 have hsz : ((w.alloc (.cells #[.func (.func g) #[] cb] 90)).alloc (.cells #[.slice a n cap] 43)).heap.size = w.heap.size + 1 + 1 := by simp
 have hc3 : ((w.alloc (.cells #[.func (.func g) #[] cb] 90)).alloc (.cells #[.slice a n cap] 43)).cell? ⟨w.heap.size, 0, none⟩ = some (.func (.func g) #[] cb) := cell_stays (by rw [cell_of_row _ _ _ _ _ (0, 0) (heap_alloc_new w _)]; rfl) (al' (Below.refl _ _) _)
 have h2 := heap_alloc_new (w.alloc (.cells #[.func (.func g) #[] cb] 90)) (.cells #[.slice a n cap] 43)
 rw [hz1] at h2
 have hc5 : ((w.alloc (.cells #[.func (.func g) #[] cb] 90)).alloc (.cells #[.slice a n cap] 43)).cell? ⟨w.heap.size + 1, 0, none⟩ = some (.slice a n cap) := by rw [cell_of_row _ _ _ _ _ (0, 0) h2]; rfl
 have hf5 := frz0 h2 0
 have CB := Hd (backward_any a n cap ((w.alloc (.cells #[.func (.func g) #[] cb] 90)).alloc (.cells #[.slice a n cap] 43)))
 have HR := Hd (h.below' hB0)
 have HB0 := Hd hB0
 have HC := Hd (And.intro hc3 (And.intro hc5 (And.intro hf5 hsz)))
 clear h hlow hB0 hz1 hsz hc3 hc5 h2 hf5 hs
 refine callsIn_of_wp_marks Tryz.func45 rfl trivial ?_ rfl
 simp only [Tryz.ntmps45, List.size_toArray, List.length_cons, List.length_nil, Nat.reduceAdd, Nat.reduceSub, Array.replicate_succ, Array.replicate_zero, List.push_toArray, List.append_toArray, List.nil_append, List.cons_append]
 gi_wp2_with (refine ⟨trivial, ?_⟩; gi_at_call 81; refine (callsIn_wide.2 CB.out).mono ?_; rintro e w1 ⟨rfl, rfl⟩)
 obtain ⟨hc3, hc5, hf5, hsz⟩ := HC.out
 generalize (w.alloc (.cells #[.func (.func g) #[] cb] 90)).alloc (.cells #[.slice a n cap] 43) = w0 at *
 have hBa := al' (Below.refl w0.heap.size w0) (.cells #[.slice a n cap] 43)
 have hb1 : (w0.alloc (.cells #[.slice a n cap] 43)).cell? ⟨w0.heap.size, 0, none⟩ = some (.slice a n cap) := by rw [cell_of_row _ _ _ _ _ (0, 0) (heap_alloc_new w0 _)]; rfl
 have hs1 : (w0.alloc (.cells #[.slice a n cap] 43)).heap.size = w0.heap.size + 1 := by simp
 have hd3 := cell_stays hc3 hBa
 have hd5 := cell_stays hc5 hBa
 have hg5 : (w0.alloc (.cells #[.slice a n cap] 43)).frozen? ⟨w.heap.size + 1, 0, none⟩ = false := (hBa.frozen (p := ⟨w.heap.size + 1, 0, none⟩) (World.block_lt_of_cell? _ _ hc5)).trans hf5
 have HR1 := Hd (HR.out.below' hBa)
 have HB1 := Hd (HB0.out.trans (hBa.mono HB0.out.size))
 rw [hsz] at hb1 hs1
 clear hc3 hc5 hf5 hBa HC CB HR HB0
 generalize w0.alloc (.cells #[.slice a n cap] 43) = w1 at *
 obtain ⟨B1, hB1⟩ : ∃ B, w.heap.size + 1 + 1 = B := ⟨_, rfl⟩
 obtain ⟨B5, hB5⟩ : ∃ B, w.heap.size + 1 = B := ⟨_, rfl⟩
 obtain ⟨B3, hB3⟩ : ∃ B, w.heap.size = B := ⟨_, rfl⟩
 have HO := Hd (show w.heap.size = B3 ∧ w.heap.size + 1 = B5 ∧ w.heap.size + 1 + 1 = B1 ∧ w1.heap.size = w.heap.size + 3 from ⟨hB3, hB5, hB1, by omega⟩)
 rw [hB1] at hb1 ⊢
 rw [hB5] at hd5 hg5 HLow ⊢
 rw [hB3] at hd3 ⊢
 have HD3 := Hd hd3
 have H0 := Hd (show LeftAt w1 B5 w1.heap.size xs w1 from ⟨⟨a, n, cap, hd5, HR1.out, hcap⟩, hg5, But.refl _ _ _⟩)
 have HOo := HO.out
 clear hd3 hd5 hg5 hsz hs1 hB5 hB1 hB3
 refine wpIn_rangeFunc_ownH rfl (by omega) (gf := 110) (lb := #[.pointer (some ⟨B1, 0, none⟩)]) rfl trivial (enters_of Tryz.func110 (by kernel_rfl) rfl)
  (backward_stops B5 4 (by omega) B1 a n cap xs w1 hb1 HR1.out HLow.out (by omega) (by omega))
  But.trans (fun W l o o' h1 h2 h3 h4 => Below.but (belowK_b (Nat.le_refl _) W l o o' h1 h2 h3 h4)) (Below.refl _ _) (fun _ => rfl)
  (fun pre W => LeftAt w1 B5 w1.heap.size (leftR still (pre.map (·.2)) xs) W)
  (fun _ _ _ => False)
  (leftAt_own (by omega) rfl)
  (fun _ _ _ _ _ hs _ _ => hs)
  H0.out
  (fun x a' W => ∃ Bx, w1.heap.size ≤ Bx ∧ W.heap[Bx]? = some (.cells #[.int .i64 x.2] 3 (0, 0)) ∧
    a' = { tmps := #[.slice a n cap, .func (.func g) #[] cb, undef, .pointer (some ⟨B3, 0, none⟩), .slice none 0 0, .pointer (some ⟨B5, 0, none⟩), undef, .pointer (some ⟨Bx, 0, none⟩), undef, .slice a n cap, .slice a n cap, .func (.func 110) #[] #[.pointer (some ⟨B1, 0, none⟩)], .int .i64 x.1, .int .i64 x.2, undef, undef, undef, undef, undef, undef, undef, undef, undef, undef, undef], defers := [] })
  (fun x a' _ X Y row hs hg hr => by
    obtain ⟨Bx, h1, h2, h3⟩ := hs
    refine ⟨Bx, h1, (hg.block Bx (Array.getElem?_eq_some_iff.1 h2).1 (fun e => ?_)).trans h2, h3⟩
    obtain ⟨_, o, ho, hc⟩ := hr Bx e.symm
    rw [h2] at ho; cases ho; cases hc)
  ?assign ?body ?done ?stop
 case assign =>
  rintro l pre x W K hm hK
  gi_wp2
  exact hK _ _ ((KeepsOthers.alloc _ _).from _) (Below.but ((Below.refl _ W).alloc hm.but.size _)) (hm.below' (al' (Below.refl _ _) _)) ⟨W.heap.size, hm.but.size, heap_alloc_new W _, rfl⟩
 case body =>
  rintro l pre x a' W hl hr hm ⟨Bx, hBx, bX, rfl⟩ hlt
  have hLl := leftR_len still (pre.map (·.2)) xs
  have HSn := Hd (show leftR still ((pre ++ [x]).map (·.2)) xs = stepR still (leftR still (pre.map (·.2)) xs) x.2 from by
   rw [leftR_fold, leftR_fold, List.map_append, List.foldl_append]; rfl)
  obtain ⟨L, hL⟩ : ∃ L, leftR still (pre.map (·.2)) xs = L := ⟨_, rfl⟩
  rw [hL] at hm hLl HSn
  have HLl := Hd hLl
  have HM := Hd hm
  obtain ⟨a2, n2, c2, k5, hrd, hc2⟩ := hm.row
  have d3 : W.cell? ⟨B3, 0, none⟩ = some (.func (.func g) #[] cb) := (hm.but.cell (by omega) (by omega)).trans HD3.out
  have qx : W.cell? ⟨Bx, 0, none⟩ = some (.int .i64 x.2) := by rw [cell_of_row _ _ _ _ _ (0, 0) bX]; rfl
  have l3 := World.block_lt_of_cell? _ _ d3
  have l5 := World.block_lt_of_cell? _ _ k5
  have lx := World.block_lt_of_cell? _ _ qx
  have HD3W := Hd d3
  have HK5 := Hd k5
  have HQx := Hd qx
  have hxl := Hl.out
  have hBW : Below w.heap.size w W := HB1.out.trans ((hm.but.below (by omega)).mono (by omega))
  have HBW := Hd hBW
  have CC := Hd (cloneI_any a2 n2 c2 L W hrd (by rw [← hrd.len]; omega))
  have CD := Hd (show ∀ W1 v, Below W.heap.size W W1 → W1.ownsRow W.heap.size 3 1 v L.length (L.flatMap ints) → Calls Tryz.prog 82 #[v, .func (.func 84) #[] #[.pointer (some ⟨Bx, 0, none⟩)]] W1 (fun e w' => ∃ a' n' c', e = .returned (.slice a' n' c') ∧ Rd ints 1 w' a' n' (L.filter (fun y => !decide (y = x.2))) ∧ n' ≤ c' ∧ (∀ p, a' = some p → W.heap.size ≤ p.block ∧ p.block < w'.heap.size) ∧ Below W.heap.size W w') from fun W1 v hB hrow => by
   refine (deleteInt_any 84 #[.pointer (some ⟨Bx, 0, none⟩)] (fun _ _ => rfl) (fun y => decide (y = x.2)) W.heap.size v L W1 hrow (by omega) (fun W2 y hy hg => left1_any x.2 y Bx W2 ?_)).mono ?_
   · have h1 := cell_stays HQx.out hB
     have hlt : Bx < W.heap.size := World.block_lt_of_cell? _ _ HQx.out
     refine (World.cell?_of_block (hg.block Bx (World.block_lt_of_cell? _ _ h1) (fun e => ?_))).trans h1
     have := (hrow.lt Bx e.symm).1; omega
   · rintro e w' ⟨v', rfl, hrow', hg⟩
     have hlf := List.length_filter_le (fun y => !decide (y = x.2)) L
     obtain ⟨a3, c3, rfl, hc3, hrd3, hb3⟩ := Rd.of_own hrow' ints_length (by omega) rfl (by unfold maxLen; omega)
     exact ⟨a3, _, c3, rfl, hrd3, hc3, fun p e => hb3 p e, hB.grown hg hB.size (fun j e => (hrow.lt j e).1)⟩)
  have CS := Hd (show ∀ W2 a' n' c', Below W.heap.size W W2 → Rd ints 1 W2 a' n' (L.filter (fun y => !decide (y = x.2))) → n' ≤ c' → (∀ p, a' = some p → p.block < W2.heap.size) → Calls Tryz.prog g (#[.slice a' n' c'] ++ cb) W2 fun e W' => e = .returned (.bool (still (L.filter (fun y => !decide (y = x.2))))) ∧ Below W2.heap.size W2 W' from fun W2 a' n' c' hB hr hc hq =>
   HS.out W2 a' n' c' _ (Nat.le_trans (List.length_filter_le _ _) HLl.out) (HBW.out.trans (hB.mono HBW.out.size)) hr hc hq)
  have HX2 := Hd (show stepR still L x.2 = if still (L.filter (fun y => !decide (y = x.2))) then L.filter (fun y => !decide (y = x.2)) else L from rfl)
  obtain ⟨F, hF⟩ : ∃ F, L.filter (fun y => !decide (y = x.2)) = F := ⟨_, rfl⟩
  rw [hF] at CD CS HX2
  clear hL hm hrd hBW bX hF hxl hLl
  have h1d : 1 ≤ 5 - 1 - 1 := by omega
  cases hst : still F with
  | false =>
    rw [hst] at CS HX2
    clear hst
    gi_wp2_with (first
     | (refine ⟨trivial, ?_⟩; gi_at_call 83; refine ((callsIn_wide.2 CC.out).inRound l).mono ?_; rintro e W1 ⟨v1, rfl, hrow1, hB1'⟩)
     | (refine ⟨trivial, ?_⟩; gi_at_call 82; refine ((callsIn_wide.2 (CD.out _ _ hB1' hrow1)).inRound l).mono ?_; rintro e W2 ⟨a3, n3, c3, rfl, hrd3, hc3, hb3, hB2⟩; have d3' := cell_stays HD3W.out hB2; have k5' := cell_stays HK5.out hB2; have l3' := World.block_lt_of_cell? _ _ d3'; have l5' := World.block_lt_of_cell? _ _ k5')
     | (refine ⟨trivial, ?_⟩; gi_at_fn g; refine ((callsIn_wide.2 (CS.out _ _ _ _ hB2 hrd3 hc3 (fun p e => (hb3 p e).2))).inRound l).mono ?_; rintro e W3 ⟨rfl, hB3'⟩))
    have hBF := hB2.trans (hB3'.mono hB2.size)
    refine ⟨keepsFrom_grown ((grown_of_below hBF).but (some B5)) (by omega), Below.but (hBF.mono HM.out.but.size), ?_⟩
    show LeftAt w1 B5 w1.heap.size (leftR still ((pre ++ [x]).map (·.2)) xs) _
    rw [HSn.out, HX2.out]
    exact HM.out.below' hBF
  | true =>
    rw [hst] at CS HX2
    clear hst
    gi_wp2_with (first
     | (refine ⟨trivial, ?_⟩; gi_at_call 83; refine ((callsIn_wide.2 CC.out).inRound l).mono ?_; rintro e W1 ⟨v1, rfl, hrow1, hB1'⟩)
     | (refine ⟨trivial, ?_⟩; gi_at_call 82; refine ((callsIn_wide.2 (CD.out _ _ hB1' hrow1)).inRound l).mono ?_; rintro e W2 ⟨a3, n3, c3, rfl, hrd3, hc3, hb3, hB2⟩; have d3' := cell_stays HD3W.out hB2; have k5' := cell_stays HK5.out hB2; have l3' := World.block_lt_of_cell? _ _ d3'; have l5' := World.block_lt_of_cell? _ _ k5')
     | (refine ⟨trivial, ?_⟩; gi_at_fn g; refine ((callsIn_wide.2 (CS.out _ _ _ _ hB2 hrd3 hc3 (fun p e => (hb3 p e).2))).inRound l).mono ?_; rintro e W3 ⟨rfl, hB3'⟩; have hM3 := HM.out.below' (hB2.trans (hB3'.mono hB2.size)); have f5 := hM3.fr; obtain ⟨_, _, _, k5'', _⟩ := hM3.row; have l5'' := World.block_lt_of_cell? _ _ k5''))
    have hBF := hB2.trans (hB3'.mono hB2.size)
    have hl5 : B5 < W.heap.size := World.block_lt_of_cell? _ _ HK5.out
    refine ⟨keepsFrom_grown (((grown_of_below hBF).but (some B5)).trans (grown_set1 _ _ _ _)) (by omega), (Below.but (hBF.mono HM.out.but.size)).trans ⟨rfl, rfl, rfl, by simp [World.setCell], fun k hk hn => (Keeps.setCell W3 ⟨B5, 0, none⟩ (.slice a3 n3 c3)).block k ?_ (by simpa using hn)⟩, ?_⟩
    · have := HM.out.but.size; have := hBF.size; omega
    show LeftAt w1 B5 w1.heap.size (leftR still ((pre ++ [x]).map (·.2)) xs) _
    rw [HSn.out, HX2.out]
    exact hM3.put (hrd3.below' hB3') hc3 (fun _ p e he => by have := (hb3 p e).1; omega)
 case done =>
  rintro D ys W hD hS hm hK
  rw [hS] at hm
  have hLl := leftR_len still xs.reverse xs
  have HLe := Hd (show (leftR still xs.reverse xs).mergeSort (fun x y => decide (x ≤ y)) = leftL still xs from rfl)
  obtain ⟨L, hL⟩ : ∃ L, leftR still xs.reverse xs = L := ⟨_, rfl⟩
  rw [hL] at hm hLl HLe
  obtain ⟨a2, n2, c2, k5, hrd, hc2⟩ := hm.row
  have l5 := World.block_lt_of_cell? _ _ k5
  have hxl := Hl.out
  have CC := Hd (cloneI_any a2 n2 c2 L W hrd (by rw [← hrd.len]; omega))
  have CT := Hd (fun (W1 : World) (v : Value) (h : W1.ownsRow W.heap.size 3 1 v L.length (L.flatMap ints)) => sorted_any W1 W.heap.size v L h (by omega))
  have HBW := Hd (show Below w.heap.size w W from HB1.out.trans ((hm.but.below (by omega)).mono (by omega)))
  have HK := Hd hK
  have HDl := Hd (Array.getElem?_eq_some_iff.1 hK).1
  clear hL hm hrd hxl hS hK hLl
  gi_wp2_with (first
   | (refine ⟨trivial, ?_⟩; gi_at_call 83; refine (callsIn_wide.2 CC.out).mono ?_; rintro e W1 ⟨v1, rfl, hrow1, hB1'⟩)
   | (refine ⟨trivial, ?_⟩; gi_at_call 85; refine (callsIn_wide.2 (CT.out _ _ hrow1)).mono ?_; rintro e W2 ⟨rfl, hrow2, hg2⟩))
  have hB2 : Below W.heap.size W W2 := hB1'.grown hg2 hB1'.size (fun j e => (hrow1.lt j e).1)
  have hK2 : W2.heap[D]? = some (.deferred (some [])) := (hB2.block D HDl.out).trans HK.out
  refine ⟨by simp, .inl ⟨_, _, rfl, run_takeDeferred hK2, ?_⟩⟩
  rw [HLe.out] at hrow2
  have q1 : w.heap.size ≤ W2.heap.size := Nat.le_trans HBW.out.size hB2.size
  have q2 : w.heap.size ≤ D := by have := HO.out; omega
  have hrow' := ownsRow_putObj hrow2 (.deferred none) hK2 rfl
  refine ⟨_, results_tmp rfl _ _ _, _, rfl, ownsRow_mono hrow' HBW.out.size, ?_⟩
  exact (HBW.out.trans (hB2.mono HBW.out.size)).trans (belowK_b (w := w1) (n₀ := w.heap.size) (by omega) W2 D _ _ hD hK2 rfl rfl)
 case stop =>
  rintro D c pre W _ _ h _
  exact h.elim
theorem left_any (g : Nat) (cb : Array Value) (eg : ∀ args w, (callFunc g args).run Tryz.prog w = .ok (.enter g args) w) (still : List Int → Bool) (a : Option Addr) (n cap : Nat) (xs : List Int) (w : World) (h : Rd ints 1 w a n xs) (hn : n ≤ 1000) (hcap : n ≤ cap)
 (hs : ∀ W a' n' cap' ys, ys.length ≤ xs.length → Below w.heap.size w W → Rd ints 1 W a' n' ys → n' ≤ cap' → (∀ p, a' = some p → p.block < W.heap.size) → Calls Tryz.prog g (#[.slice a' n' cap'] ++ cb) W fun e W' => e = .returned (.bool (still ys)) ∧ Below W.heap.size W W') :
 Calls Tryz.prog 45 #[.slice a n cap, .func (.func g) #[] cb] w fun e w' => ∃ v, e = .returned v ∧ w'.ownsRow w.heap.size 3 1 v (leftL still xs).length ((leftL still xs).flatMap ints) ∧ Below w.heap.size w w' :=
 callsIn_wide.1 (left_in g cb eg still a n cap xs w h hn hcap hs)
structure MaAt (w : World) (M : Nat) (pa : Option Addr) (pn pc : Nat) (ta : Option Addr) (tn tc : Nat) (ps ts : List Pa) : Prop where
 c0 : w.cell? ⟨M, 0, none⟩ = some (.slice pa pn pc)
 c1 : w.cell? ⟨M, 1, none⟩ = some (.slice ta tn tc)
 rp : Rd Pa.vals 14 w pa pn ps
 rt : Rd Pa.vals 14 w ta tn ts
 lp : ∀ p, pa = some p → p.block < w.heap.size
 lt : ∀ p, ta = some p → p.block < w.heap.size
theorem MaAt.below' {w w' : World} {M : Nat} {pa : Option Addr} {pn pc : Nat} {ta : Option Addr} {tn tc : Nat} {ps ts : List Pa} (h : MaAt w M pa pn pc ta tn tc ps ts) (hB : Below w.heap.size w w') : MaAt w' M pa pn pc ta tn tc ps ts :=
 ⟨cell_stays h.c0 hB, cell_stays h.c1 hB, h.rp.below' hB, h.rt.below' hB, fun p e => Nat.lt_of_lt_of_le (h.lp p e) hB.size, fun p e => Nat.lt_of_lt_of_le (h.lt p e) hB.size⟩
theorem MaAt.made {w3 : World} {pa : Option Addr} {pn pc : Nat} {ta : Option Addr} {tn tc : Nat} {ps ts : List Pa} {base : Nat} (hp : w3.ownsRow base 42 14 (.slice pa pn pc) ps.length (ps.flatMap Pa.vals)) (ht : w3.ownsRow base 42 14 (.slice ta tn tc) ts.length (ts.flatMap Pa.vals)) (h1 : ps.length ≤ 1000) (h2 : ts.length ≤ 1000) :
 pn = ps.length ∧ tn = ts.length ∧ MaAt (w3.alloc (.cells #[.slice pa pn pc, .slice ta tn tc] 62)) w3.heap.size pa pn pc ta tn tc ps ts := by
 obtain ⟨pa2, pc2, ep, hpc, hpr, hpb⟩ := Rd.of_own hp Pa.vals_length (by decide) rfl (by unfold maxLen; omega)
 obtain ⟨ta2, tc2, et, htc, htr, htb⟩ := Rd.of_own ht Pa.vals_length (by decide) rfl (by unfold maxLen; omega)
 injection ep with ea en ec
 injection et with fa fn fc
 subst ea en ec fa fn fc
 have hBa := al' (Below.refl w3.heap.size w3) (.cells #[.slice pa ps.length pc, .slice ta ts.length tc] 62)
 obtain ⟨m0, m1, mf, ml⟩ := pair_facts (BoxG.made w3 [.slice pa ps.length pc, .slice ta ts.length tc] 62)
 exact ⟨rfl, rfl, m0, m1, hpr.below' hBa, htr.below' hBa, fun p e => Nat.lt_of_lt_of_le (hpb p e).2 hBa.size, fun p e => Nat.lt_of_lt_of_le (htb p e).2 hBa.size⟩
set_option maxRecDepth 100000 in
set_option maxHeartbeats 4000000 in
theorem lineage1_any (ps ts : List Pa) (hmo : ManiOk ps ts) (hT : (treeT ps ts (fun _ => true)).isSome = true) (pack : Int) (hk : (ofI ps pack).isSome = true) (upper : Bool) (want : Int) (M K U T : Nat) (pa : Option Addr) (pn pc : Nat) (ta : Option Addr) (tn tc : Nat) (w : World) (hm : MaAt w M pa pn pc ta tn tc ps ts)
 (kK : w.cell? ⟨K, 0, none⟩ = some (.int .i64 pack)) (kU : w.cell? ⟨U, 0, none⟩ = some (.bool upper)) (kT : w.cell? ⟨T, 0, none⟩ = some (.int .i64 want)) (ia : Option Addr) (inn ic : Nat) (ids : List Int) (hi : Rd ints 1 w ia inn ids) (li : ∀ p, ia = some p → p.block < w.heap.size) :
 Calls Tryz.prog 46 (#[.slice ia inn ic] ++ #[.pointer (some ⟨M, 0, none⟩), .pointer (some ⟨K, 0, none⟩), .pointer (some ⟨U, 0, none⟩), .pointer (some ⟨T, 0, none⟩)]) w fun e w' => e = .returned (.bool (restsB ps ts pack upper want ids)) ∧ Below w.heap.size w w' := by
 show Calls _ _ #[.slice ia inn ic, .pointer (some ⟨M, 0, none⟩), .pointer (some ⟨K, 0, none⟩), .pointer (some ⟨U, 0, none⟩), .pointer (some ⟨T, 0, none⟩)] w _
 have CE := Hd (end_any ps ts hmo hT pack hk ids upper pa pn pc ta tn tc ia inn ic w hm.rp hm.rt hi hm.lp hm.lt)
 have m0 := hm.c0
 have m1 := hm.c1
 have ml := World.block_lt_of_cell? _ _ m0
 have kl := World.block_lt_of_cell? _ _ kK
 have ul := World.block_lt_of_cell? _ _ kU
 have HKT := Hd kT
 have HR := Hd (show restsB ps ts pack upper want ids = decide (endM ps ts ids pack upper = some want) from rfl)
 unfold EndPost at CE
 obtain ⟨o, ho⟩ : ∃ o, endM ps ts ids pack upper = o := ⟨_, rfl⟩
 rw [ho] at CE HR
 clear hm hi li ho hT hk hmo
 cases o with
 | none =>
   simp only [Option.getD_none, Option.isSome_none] at CE
   go_enter Tryz.func46, Tryz.ntmps46
   go_wp2_with (go_at_call 44; refine CE.out.mono ?_; rintro e w2 ⟨rfl, hB2⟩)
   go_ret
   exact ⟨by rw [HR.out]; rfl, hB2⟩
 | some v =>
   simp only [Option.getD_some, Option.isSome_some] at CE
   have HV := Hd (show decide (some v = some want) = (v == want) from by
    by_cases e : v = want
    · simp [e]
    · simp [e])
   rw [HV.out] at HR
   go_enter Tryz.func46, Tryz.ntmps46
   go_wp2_with (go_at_call 44; refine CE.out.mono ?_; rintro e w2 ⟨rfl, hB2⟩; have kT' := cell_stays HKT.out hB2; have kTl := World.block_lt_of_cell? _ _ kT')
   go_ret
   exact ⟨by rw [HR.out]; rfl, hB2⟩
def lineV (xs : List Pa) (known loss pack : Int) (upper : Bool) : List Int := if weighE xs known loss (hasP xs known loss pack) = 0 then lineageP (papersL xs known loss) (totalsL xs known loss) xs pack upper else []
def LinePost (w : World) (xs : List Pa) (known loss pack : Int) (upper : Bool) (e : Ending) (w' : World) : Prop :=
 ∃ v, e = .returned (.tuple #[v, .int .i64 (weighE xs known loss (hasP xs known loss pack))]) ∧ w'.ownsRow w.heap.size 3 1 v (lineV xs known loss pack upper).length ((lineV xs known loss pack upper).flatMap ints) ∧ Below w.heap.size w w'
set_option maxRecDepth 100000 in
set_option maxHeartbeats 8000000 in
theorem lineage_any (a : Option Addr) (n cap : Nat) (xs : List Pa) (hsh : ∀ x ∈ xs, x.Short) (known loss pack : Int) (upper : Bool) (w : World) (h : Rd Pa.vals 14 w a n xs) (hcap : n ≤ cap) :
 Calls Tryz.prog 16 #[.slice a n cap, .int .i64 known, .int .i64 loss, .int .i64 pack, .bool upper] w (LinePost w xs known loss pack upper) := by
 have hmf : ∀ (fn : Fn) (first cap : Array Value) (w : World), (Instr.makeFunc fn first cap).run Tryz.prog w = .ok (.func fn first cap) w := fun _ _ _ _ => rfl
 have hB00 := al' (al' (Below.refl w.heap.size w) (.cells #[.int .i64 pack] 3)) (.cells #[.bool upper] 4)
 have hz1 : (w.alloc (.cells #[.int .i64 pack] 3)).heap.size = w.heap.size + 1 := by simp
 have hz2 : ((w.alloc (.cells #[.int .i64 pack] 3)).alloc (.cells #[.bool upper] 4)).heap.size = w.heap.size + 1 + 1 := by simp
 have kK : ((w.alloc (.cells #[.int .i64 pack] 3)).alloc (.cells #[.bool upper] 4)).cell? ⟨w.heap.size, 0, none⟩ = some (.int .i64 pack) := cell_stays (by rw [cell_of_row _ _ _ _ _ (0, 0) (heap_alloc_new w _)]; rfl) (al' (Below.refl _ _) _)
 have kU : ((w.alloc (.cells #[.int .i64 pack] 3)).alloc (.cells #[.bool upper] 4)).cell? ⟨w.heap.size + 1, 0, none⟩ = some (.bool upper) := by
  have h2 := heap_alloc_new (w.alloc (.cells #[.int .i64 pack] 3)) (.cells #[.bool upper] 4)
  rw [hz1] at h2
  rw [cell_of_row _ _ _ _ _ (0, 0) h2]; rfl
 have CH := Hd (has_any pack ((w.alloc (.cells #[.int .i64 pack] 3)).alloc (.cells #[.bool upper] 4)))
 rw [hz2] at CH
 have HR := Hd (h.below' hB00)
 have HB00 := Hd hB00
 have hlK := World.block_lt_of_cell? _ _ kK
 have hlU := World.block_lt_of_cell? _ _ kU
 clear h hB00 hz1
 go_enter Tryz.func16, Tryz.ntmps16
 go_upto_region 1 with (fail)
 generalize (w.alloc (.cells #[.int .i64 pack] 3)).alloc (.cells #[.bool upper] 4) = w0 at *
 have hBa := al' (Below.refl w0.heap.size w0) (.cells #[.int .i64 pack] 3)
 have hcp : (w0.alloc (.cells #[.int .i64 pack] 3)).cell? ⟨w.heap.size + 1 + 1, 0, none⟩ = some (.int .i64 pack) := by
  rw [← hz2, cell_of_row _ _ _ _ _ (0, 0) (heap_alloc_new w0 _)]; rfl
 have CW := Hd (weighed_any a n cap xs hsh known loss 68 #[.pointer (some ⟨w.heap.size + 1 + 1, 0, none⟩)] (fun _ _ => rfl) (hasP xs known loss pack) _ (HR.out.below' hBa) hcap (there_has hcp))
 have HR1 := Hd (HR.out.below' hBa)
 have HK1 := Hd (cell_stays kK hBa)
 have HU1 := Hd (cell_stays kU hBa)
 have HB1 := Hd (HB00.out.trans (hBa.mono HB00.out.size))
 obtain ⟨K, hKe⟩ : ∃ K, w.heap.size = K := ⟨_, rfl⟩
 rw [hKe] at HK1 HU1 kK kU hlK hlU CH CW
 rw [hKe]
 clear hBa hcp HR HB00
 go_upto_region 2 with (first
  | (go_at_call 33; refine CH.out.mono ?_; rintro e w2 ⟨rfl, rfl⟩)
  | (go_at_call 32; refine CW.out.mono ?_; rintro e w3 ⟨pa, pn, pc, ta, tn, tc, tp, rfl, hrp, hrt, hB2, _⟩))
 generalize w0.alloc (.cells #[.int .i64 pack] 3) = w1 at *
 have hBa := al' (Below.refl w3.heap.size w3) (.cells #[.slice pa pn pc, .slice ta tn tc] 62)
 have hB13 : Below w1.heap.size w1 (w3.alloc (.cells #[.slice pa pn pc, .slice ta tn tc] 62)) := hB2.trans (hBa.mono hB2.size)
 have HBw := Hd (HB1.out.trans (hB13.mono HB1.out.size))
 have HR4 := Hd (HR1.out.below' hB13)
 have HK4 := Hd (cell_stays HK1.out hB13)
 have HU4 := Hd (cell_stays HU1.out hB13)
 have HKe := Hd hKe
 clear hBa hB13 hB2 HR1 HK1 HU1 HB1 CW CH hlU hlK kU kK hz2 hKe
 by_cases h0 : weighE xs known loss (hasP xs known loss pack) = 0
 case neg =>
  generalize w3.alloc (.cells #[.slice pa pn pc, .slice ta tn tc] 62) = w4 at *
  have HV := Hd (show lineV xs known loss pack upper = [] from by unfold lineV; rw [if_neg h0])
  obtain ⟨oe, hoe⟩ : ∃ c, weighE xs known loss (hasP xs known loss pack) = c := ⟨_, rfl⟩
  have HE := Hd hoe
  rw [hoe] at h0 ⊢
  have h1 : (oe != 0) = true := by simp [h0]
  clear h0 hoe hrp hrt
  go_wp2_with fail
  exact bodyPost_ret (by simp [results, Tryz.results16, go_sem]) rfl (show LinePost w xs known loss pack upper (.returned (.tuple #[.slice none 0 0, .int .i64 oe])) w4 from ⟨_, by rw [HE.out], by rw [HV.out]; exact World.ownsRow_nil _ _ _ _, HBw.out⟩)
 obtain ⟨ho, hh⟩ := root_open (weigh_root h0)
 obtain ⟨p1, p2⟩ := open_some (known := known) ho
 rw [p1] at hrp
 rw [p2] at hrt
 have hgd := check_good (open_check ho)
 have hmo := mani_ok hgd.1 known loss
 have hT := root_some (weigh_root h0)
 unfold rootT at hT
 unfold hasP at hh
 have HE := Hd h0
 have HV := Hd (show lineV xs known loss pack upper = lineageP (papersL xs known loss) (totalsL xs known loss) xs pack upper from by unfold lineV; rw [if_pos h0])
 obtain ⟨PS, hPS⟩ : ∃ P, papersL xs known loss = P := ⟨_, rfl⟩
 obtain ⟨TS, hTS⟩ : ∃ P, totalsL xs known loss = P := ⟨_, rfl⟩
 rw [hPS] at hrp hmo hT hh HV
 rw [hTS] at hrt hmo hT HV
 obtain ⟨e1, e2, hma⟩ := MaAt.made hrp hrt (by have := hmo.ln; omega) (by have := hmo.lt; omega)
 have hnl : n ≤ 1000 := by rw [← HR4.out.len]; have := hgd.2; omega
 have hpl : pn ≤ 1000 := by rw [e1]; have := hmo.ln; omega
 have htl : tn ≤ 1000 := by rw [e2]; have := hmo.lt; omega
 rw [h0]
 have hMl : w3.heap.size < (w3.alloc (.cells #[.slice pa pn pc, .slice ta tn tc] 62)).heap.size := by simp
 clear hrp hrt e1 e2 p1 p2 hPS hTS ho h0
 generalize w3.alloc (.cells #[.slice pa pn pc, .slice ta tn tc] 62) = w4 at *
 obtain ⟨M, hM⟩ : ∃ M, w3.heap.size = M := ⟨_, rfl⟩
 rw [hM] at hma hMl ⊢
 clear hM
 have CI := Hd (ids_any pa pn pc ta tn tc PS TS a n cap xs w4 hma.rp hma.rt HR4.out hpl htl hnl)
 have HIl := Hd (show (idsM PS TS xs).length ≤ 1000 from by rw [idsA_eq]; exact Nat.le_trans (idsA_len _ _) (by have := hgd.2; omega))
 have HLn := Hd (show lineageP PS TS xs pack upper = leftL (restsB PS TS pack upper ((endM PS TS (idsM PS TS xs) pack upper).getD 0)) (idsM PS TS xs) from rfl)
 rw [HLn.out] at HV
 obtain ⟨IDS, hIDS⟩ : ∃ I, idsM PS TS xs = I := ⟨_, rfl⟩
 rw [hIDS] at CI HIl HV
 have CE := Hd (show ∀ W ia inn ic, MaAt W M pa pn pc ta tn tc PS TS → Rd ints 1 W ia inn IDS → (∀ p, ia = some p → p.block < W.heap.size) → Calls Tryz.prog 44 #[.agg #[.slice pa pn pc, .slice ta tn tc], .slice ia inn ic, .int .i64 pack, .bool upper] W (EndPost W (endM PS TS IDS pack upper)) from fun W ia inn ic hm hi li => end_any PS TS hmo hT pack hh IDS upper pa pn pc ta tn tc ia inn ic W hm.rp hm.rt hi hm.lp hm.lt)
 obtain ⟨oo, hoo⟩ : ∃ o, endM PS TS IDS pack upper = o := ⟨_, rfl⟩
 rw [hoo] at CE HV
 have CL := Hd (show ∀ W T ia inn ic, MaAt W M pa pn pc ta tn tc PS TS → W.cell? ⟨K, 0, none⟩ = some (.int .i64 pack) → W.cell? ⟨K + 1, 0, none⟩ = some (.bool upper) → W.cell? ⟨T, 0, none⟩ = some (.int .i64 (oo.getD 0)) → Rd ints 1 W ia inn IDS → inn ≤ ic →
  Calls Tryz.prog 45 #[.slice ia inn ic, .func (.func 46) #[] #[.pointer (some ⟨M, 0, none⟩), .pointer (some ⟨K, 0, none⟩), .pointer (some ⟨K + 1, 0, none⟩), .pointer (some ⟨T, 0, none⟩)]] W fun e w' => ∃ v, e = .returned v ∧ w'.ownsRow W.heap.size 3 1 v (leftL (restsB PS TS pack upper (oo.getD 0)) IDS).length ((leftL (restsB PS TS pack upper (oo.getD 0)) IDS).flatMap ints) ∧ Below W.heap.size W w' from fun W T ia inn ic hm k1 k2 k3 hi hc =>
  left_any 46 _ (fun _ _ => rfl) _ ia inn ic IDS W hi (by rw [← hi.len]; exact HIl.out) hc (fun W2 a' n' c' ys _ hB hr _ hl => lineage1_any PS TS hmo hT pack hh upper (oo.getD 0) M K (K + 1) T pa pn pc ta tn tc W2 (hm.below' hB) (cell_stays k1 hB) (cell_stays k2 hB) (cell_stays k3 hB) a' n' c' ys hr hl))
 have HMa := Hd hma
 have m0 := hma.c0
 have m1 := hma.c1
 clear hma hmo hT hh hgd hIDS hoo HLn hnl hpl htl HR4
 go_upto_region 5 with (go_at_call 43; refine CI.out.mono ?_; rintro e w5 ⟨v5, rfl, hrow5, hB5⟩)
 obtain ⟨ia, ic, rfl, hic, hrI, hbI⟩ := Rd.of_own hrow5 ints_length (by decide) rfl (by have := HIl.out; unfold maxLen; omega)
 have hma5 := HMa.out.below' hB5
 have m0' := hma5.c0
 have m1' := hma5.c1
 have ml' := World.block_lt_of_cell? _ _ m0'
 have kK := cell_stays HK4.out hB5
 have kU := cell_stays HU4.out hB5
 have kl := World.block_lt_of_cell? _ _ kK
 have ul := World.block_lt_of_cell? _ _ kU
 have HK5 := Hd kK
 have HU5 := Hd kU
 have HMa5 := Hd hma5
 have CE2 := Hd (CE.out w5 ia IDS.length ic hma5 hrI (fun p e => (hbI p e).2))
 unfold EndPost at CE2
 have HBw5 := Hd (HBw.out.trans (hB5.mono HBw.out.size))
 have HRI := Hd hrI
 clear m0 m1 hma5 hrow5 hbI hrI CE CI hB5 HMa HK4 HU4 HBw hMl
 go_upto_region 6 with (go_at_call 44; refine CE2.out.mono ?_; rintro e w6 ⟨rfl, hB6⟩)
 have hBb := al' (Below.refl w6.heap.size w6) (.cells #[.int .i64 (oo.getD 0)] 3)
 have hB67 : Below w5.heap.size w5 (w6.alloc (.cells #[.int .i64 (oo.getD 0)] 3)) := hB6.trans (hBb.mono hB6.size)
 have kT : (w6.alloc (.cells #[.int .i64 (oo.getD 0)] 3)).cell? ⟨w6.heap.size, 0, none⟩ = some (.int .i64 (oo.getD 0)) := by rw [cell_of_row _ _ _ _ _ (0, 0) (heap_alloc_new w6 _)]; rfl
 have CL2 := Hd (CL.out _ w6.heap.size ia IDS.length ic (HMa5.out.below' hB67) (cell_stays HK5.out hB67) (cell_stays HU5.out hB67) kT (HRI.out.below' hB67) hic)
 have HB7 := Hd (HBw5.out.trans (hB67.mono HBw5.out.size))
 clear hBb hB67 kT hB6 m0' m1' kK kU CL
 generalize w6.alloc (.cells #[.int .i64 (oo.getD 0)] 3) = w7 at *
 go_wp2_with (go_at_call 45; refine CL2.out.mono ?_; rintro e w8 ⟨v8, rfl, hrow8, hB8⟩)
 exact bodyPost_ret (by simp [results, Tryz.results16, go_sem]) rfl (show LinePost w xs known loss pack upper (.returned (.tuple #[v8, .int .i64 0])) w8 from ⟨_, by rw [HE.out], by rw [HV.out]; exact ownsRow_mono hrow8 HB7.out.size, HB7.out.trans (hB8.mono HB7.out.size)⟩)
set_option maxRecDepth 100000 in
set_option maxHeartbeats 4000000 in
theorem doubt1_any (ps ts : List Pa) (hmo : ManiOk ps ts) (hT : (treeT ps ts (fun _ => true)).isSome = true) (M : Nat) (pa : Option Addr) (pn pc : Nat) (ta : Option Addr) (tn tc : Nat) (w : World) (hm : MaAt w M pa pn pc ta tn tc ps ts)
 (ia : Option Addr) (inn ic : Nat) (ids : List Int) (hi : Rd ints 1 w ia inn ids) (li : ∀ p, ia = some p → p.block < w.heap.size) :
 Calls Tryz.prog 55 (#[.slice ia inn ic] ++ #[.pointer (some ⟨M, 0, none⟩)]) w fun e w' => e = .returned (.bool (doubtB ps ts ids)) ∧ Below w.heap.size w w' := by
 show Calls _ _ #[.slice ia inn ic, .pointer (some ⟨M, 0, none⟩)] w _
 have hT2 := tree_same (fun _ => true) (fun i => ids.contains i) hT
 obtain ⟨t0, ht0⟩ := Option.isSome_iff_exists.1 hT2
 have CT := Hd (tree_any ps ts ⟨hmo.packs, fun x hx => by have := (hmo.tt x hx).1; omega, by have := hmo.ln; omega⟩ ids false pa pn pc ta tn tc ia inn ic w hm.rp hm.rt hi hm.lp hm.lt)
 rw [hasB_some] at CT
 have hbd0 := tree_bd hmo _ ht0
 have CT2 := Hd (CT.out.mono (R' := fun e w' => ∃ t : Tr, t.sh = t0 ∧ e = .returned (.pointer (some ⟨t.b, 0, none⟩)) ∧ Below w.heap.size w w' ∧ TreeAt t.bs w' t ∧ t.bs.Nodup ∧ Bd t ∧ ∀ x ∈ t.bs, w.heap.size ≤ x) (by
  rintro e w' ⟨h1, ⟨h2, h3⟩ | ⟨t, h2, h3, h4, h5, h6⟩⟩
  · rw [ht0] at h2; cases h2
  · rw [ht0] at h2
    have h2 := (Option.some.inj h2).symm
    exact ⟨t, h2, h3, h1, h4 [] (by simp), h5, Bd_sh t (by rw [h2]; exact hbd0), h6⟩))
 have HD := Hd (show doubtB ps ts ids = (solveT t0).isNone from by unfold doubtB; rw [ht0]; rfl)
 have m0 := hm.c0
 have m1 := hm.c1
 have ml := World.block_lt_of_cell? _ _ m0
 clear hm hi li CT hT hT2 ht0 hbd0 hmo
 go_enter Tryz.func55, Tryz.ntmps55
 have CS := Hd (show ∀ (t : Tr) W, t.sh = t0 → TreeAt t.bs W t → t.bs.Nodup → Bd t → Calls Tryz.prog 36 #[.pointer (some ⟨t.b, 0, none⟩)] W (fun e w' => e = .returned (.bool (solveT t0).isSome) ∧ Keeps t.bs W w') from fun t W h1 h2 h3 h4 => (solved_all t.bs t W h2 h4 h3).mono (by
  rintro e w' ⟨g1, g2, g3⟩
  refine ⟨?_, g2⟩
  rw [g1, ← h1, solveT_sh]
  cases solveT t <;> rfl))
 obtain ⟨sb, hsb⟩ : ∃ b, (solveT t0).isSome = b := ⟨_, rfl⟩
 have HN := Hd (show (solveT t0).isNone = !sb from by rw [← hsb]; cases solveT t0 <;> rfl)
 rw [hsb] at CS
 clear hsb
 go_wp2_with (first
  | (go_at_call 56; refine CT2.out.mono ?_; rintro e w2 ⟨t, hsh, rfl, hB2, hta, htn, htb, htf⟩)
  | (go_at_call 36; refine (CS.out t w2 hsh hta htn htb).mono ?_; rintro e w3 ⟨rfl, hk3⟩))
 go_ret
 exact ⟨by rw [HD.out, HN.out]; rfl, hk3.below_then hB2 (fun x hx => htf x hx) (Nat.le_refl _)⟩
theorem MaAt.keeps {S : List Nat} {w w' : World} {M : Nat} {pa : Option Addr} {pn pc : Nat} {ta : Option Addr} {tn tc : Nat} {ps ts : List Pa} (h : MaAt w M pa pn pc ta tn tc ps ts) (hk : Keeps S w w') (hM : M ∉ S) (hp : ∀ p, pa = some p → p.block ∉ S) (ht : ∀ p, ta = some p → p.block ∉ S) : MaAt w' M pa pn pc ta tn tc ps ts :=
 ⟨hk.cell h.c0 hM, hk.cell h.c1 hM, hk.rd h.rp (fun _ => hp), hk.rd h.rt (fun _ => ht), fun p e => Nat.lt_of_lt_of_le (h.lp p e) hk.size, fun p e => Nat.lt_of_lt_of_le (h.lt p e) hk.size⟩
def doubtIs (xs : List Pa) (known loss : Int) : Bool := decide (rootE xs known loss true = 0) && ((rootT xs known loss).bind solveT).isNone
def doubtV (xs : List Pa) (known loss : Int) : List Int := if doubtIs xs known loss then doubtP (papersL xs known loss) (totalsL xs known loss) xs else []
def DoubtPost (w : World) (xs : List Pa) (known loss : Int) (e : Ending) (w' : World) : Prop :=
 ∃ v, e = .returned (.tuple #[v, .bool (doubtIs xs known loss), .int .i64 (rootE xs known loss true)]) ∧ w'.ownsRow w.heap.size 3 1 v (doubtV xs known loss).length ((doubtV xs known loss).flatMap ints) ∧ Below w.heap.size w w'
set_option maxRecDepth 100000 in
set_option maxHeartbeats 8000000 in
theorem doubt_any (a : Option Addr) (n cap : Nat) (xs : List Pa) (hsh : ∀ x ∈ xs, x.Short) (known loss : Int) (w : World) (h : Rd Pa.vals 14 w a n xs) (hcap : n ≤ cap) :
 Calls Tryz.prog 21 #[.slice a n cap, .int .i64 known, .int .i64 loss] w (DoubtPost w xs known loss) := by
 have hmf : ∀ (fn : Fn) (first cap : Array Value) (w : World), (Instr.makeFunc fn first cap).run Tryz.prog w = .ok (.func fn first cap) w := fun _ _ _ _ => rfl
 have CW := Hd (rooted_any a n cap xs hsh known loss 27 #[] (fun _ _ => rfl) true w h hcap there_always)
 have HR := Hd h
 clear h
 go_enter Tryz.func21, Tryz.ntmps21
 go_upto_region 2 with (go_at_call 26; refine CW.out.mono ?_; rintro e w3 ⟨pa, pn, pc, ta, tn, tc, tp, rfl, hrp, hrt, hB2, htree⟩)
 have hBa := al' (Below.refl w3.heap.size w3) (.cells #[.slice pa pn pc, .slice ta tn tc] 62)
 have hBw : Below w.heap.size w (w3.alloc (.cells #[.slice pa pn pc, .slice ta tn tc] 62)) := hB2.trans (hBa.mono hB2.size)
 have HBw := Hd hBw
 have HR4 := Hd (HR.out.below' hBw)
 have hMl : w3.heap.size < (w3.alloc (.cells #[.slice pa pn pc, .slice ta tn tc] 62)).heap.size := by simp
 by_cases h0 : rootE xs known loss true = 0
 case neg =>
  generalize w3.alloc (.cells #[.slice pa pn pc, .slice ta tn tc] 62) = w4 at *
  have HI := Hd (show doubtIs xs known loss = false from by unfold doubtIs; simp [h0])
  have HV := Hd (show doubtV xs known loss = [] from by unfold doubtV; rw [HI.out]; rfl)
  obtain ⟨oe, hoe⟩ : ∃ c, rootE xs known loss true = c := ⟨_, rfl⟩
  have HE := Hd hoe
  rw [hoe] at h0 ⊢
  have h1 : (oe != 0) = true := by simp [h0]
  clear h0 hoe hrp hrt htree hBw hBa hB2
  go_wp2_with fail
  exact bodyPost_ret (by simp [results, Tryz.results21, go_sem]) rfl (show DoubtPost w xs known loss (.returned (.tuple #[.slice none 0 0, .bool false, .int .i64 oe])) w4 from ⟨_, by rw [HE.out, HI.out], by rw [HV.out]; exact World.ownsRow_nil _ _ _ _, HBw.out⟩)
 obtain ⟨n1, hn1, t, ht0, htp, hta, htn, htb, htf, hpa, hta2⟩ := htree h0
 subst htp
 have hta' := (hta [] (by simp)).below' hBa
 simp only [List.nil_append] at hta'
 have htlt : ∀ x ∈ t.bs, x < w3.heap.size := (hta [] (by simp)).bs_lt
 have CS := Hd ((solved_all t.bs t _ hta' htb htn).mono (R' := fun e w' => e = .returned (.bool ((rootT xs known loss).bind solveT).isSome) ∧ Keeps t.bs (w3.alloc (.cells #[.slice pa pn pc, .slice ta tn tc] 62)) w') (by
  rintro e w' ⟨g1, g2, g3⟩
  refine ⟨?_, g2⟩
  rw [g1, ht0]
  simp only [Option.bind_some]
  rw [solveT_sh]
  cases solveT t <;> rfl))
 have HTf := Hd htf
 have HTl := Hd htlt
 have HE := Hd h0
 obtain ⟨ho, hh⟩ := root_open h0
 obtain ⟨p1, p2⟩ := open_some (known := known) ho
 rw [p1] at hrp
 rw [p2] at hrt
 have hgd := check_good (open_check ho)
 have hmo := mani_ok hgd.1 known loss
 have hT := root_some h0
 have HI := Hd (show doubtIs xs known loss = !((rootT xs known loss).bind solveT).isSome from by unfold doubtIs; rw [h0]; cases (rootT xs known loss).bind solveT <;> rfl)
 have HVd := Hd (show doubtV xs known loss = if doubtIs xs known loss then doubtP (papersL xs known loss) (totalsL xs known loss) xs else [] from rfl)
 unfold rootT at hT
 obtain ⟨sb, hsb⟩ : ∃ b, ((rootT xs known loss).bind solveT).isSome = b := ⟨_, rfl⟩
 rw [hsb] at CS HI
 rw [HI.out] at HVd
 obtain ⟨PS, hPS⟩ : ∃ P, papersL xs known loss = P := ⟨_, rfl⟩
 obtain ⟨TS, hTS⟩ : ∃ P, totalsL xs known loss = P := ⟨_, rfl⟩
 rw [hPS] at hrp hmo hT HVd
 rw [hTS] at hrt hmo hT HVd
 obtain ⟨e1, e2, hma⟩ := MaAt.made hrp hrt (by have := hmo.ln; omega) (by have := hmo.lt; omega)
 have hnl : n ≤ 1000 := by rw [← HR4.out.len]; have := hgd.2; omega
 have hpl : pn ≤ 1000 := by rw [e1]; have := hmo.ln; omega
 have htl : tn ≤ 1000 := by rw [e2]; have := hmo.lt; omega
 rw [h0]
 have HLp := Hd (And.intro hpa hta2)
 clear hrp hrt e1 e2 p1 p2 hPS hTS ho hh h0 htree ht0 hta htn htb htf hpa hta2 hta' htlt hBw hBa hB2 hsb
 generalize w3.alloc (.cells #[.slice pa pn pc, .slice ta tn tc] 62) = w4 at *
 obtain ⟨M, hM⟩ : ∃ M, w3.heap.size = M := ⟨_, rfl⟩
 rw [hM] at hma hMl HTl ⊢
 clear hM
 have HMa := Hd hma
 cases sb with
 | true =>
   rw [Bool.not_true] at HI HVd
   clear hma hmo hT hgd
   go_wp2_with (go_at_call 36; refine CS.out.mono ?_; rintro e w5 ⟨rfl, hk5⟩)
   exact bodyPost_ret (by simp [results, Tryz.results21, go_sem]) rfl (show DoubtPost w xs known loss (.returned (.tuple #[.slice none 0 0, .bool false, .int .i64 0])) w5 from ⟨_, by rw [HE.out, HI.out], by rw [HVd.out]; exact World.ownsRow_nil _ _ _ _, hk5.below_then HBw.out (fun x hx => Nat.le_trans hn1 (HTf.out x hx)) (Nat.le_refl _)⟩)
 | false =>
   rw [Bool.not_false, if_pos rfl] at HVd
   rw [Bool.not_false] at HI
   have HIl := Hd (show (idsM PS TS xs).length ≤ 1000 from by rw [idsA_eq]; exact Nat.le_trans (idsA_len _ _) (by have := hgd.2; omega))
   have HLn := Hd (show doubtP PS TS xs = leftL (doubtB PS TS) (idsM PS TS xs) from rfl)
   rw [HLn.out] at HVd
   have CI := Hd (show ∀ W, MaAt W M pa pn pc ta tn tc PS TS → Rd Pa.vals 14 W a n xs → Calls Tryz.prog 43 #[.agg #[.slice pa pn pc, .slice ta tn tc], .slice a n cap] W fun e w' => ∃ v, e = .returned v ∧ w'.ownsRow W.heap.size 3 1 v (idsM PS TS xs).length ((idsM PS TS xs).flatMap ints) ∧ Below W.heap.size W w' from fun W hm hr =>
    ids_any pa pn pc ta tn tc PS TS a n cap xs W hm.rp hm.rt hr hpl htl hnl)
   obtain ⟨IDS, hIDS⟩ : ∃ I, idsM PS TS xs = I := ⟨_, rfl⟩
   rw [hIDS] at CI HIl HVd
   have CL := Hd (show ∀ W ia inn ic, MaAt W M pa pn pc ta tn tc PS TS → Rd ints 1 W ia inn IDS → inn ≤ ic →
    Calls Tryz.prog 45 #[.slice ia inn ic, .func (.func 55) #[] #[.pointer (some ⟨M, 0, none⟩)]] W fun e w' => ∃ v, e = .returned v ∧ w'.ownsRow W.heap.size 3 1 v (leftL (doubtB PS TS) IDS).length ((leftL (doubtB PS TS) IDS).flatMap ints) ∧ Below W.heap.size W w' from fun W ia inn ic hm hi hc =>
    left_any 55 _ (fun _ _ => rfl) _ ia inn ic IDS W hi (by rw [← hi.len]; exact HIl.out) hc (fun W2 a' n' c' ys _ hB hr _ hl => doubt1_any PS TS hmo hT M pa pn pc ta tn tc W2 (hm.below' hB) a' n' c' ys hr hl))
   have HNow := Hd (show ∀ W, Keeps t.bs w4 W → MaAt W M pa pn pc ta tn tc PS TS ∧ Rd Pa.vals 14 W a n xs ∧ Below w.heap.size w W from fun W hk => by
    refine ⟨HMa.out.keeps hk (fun hm => Nat.lt_irrefl _ (HTl.out _ hm)) (fun p e hm => by have h1 := HLp.out.1 p e; have h2 := HTf.out _ hm; omega) (fun p e hm => by have h1 := HLp.out.2 p e; have h2 := HTf.out _ hm; omega), hk.rd HR4.out (fun h0 p e hm => ?_), hk.below_then HBw.out (fun x hx => Nat.le_trans hn1 (HTf.out x hx)) (Nat.le_refl _)⟩
    obtain ⟨b, off, x, ha, hb, _⟩ := HR.out.read 0 h0
    rw [e] at ha; cases ha
    have h3 : n1 ≤ b := HTf.out _ hm
    omega)
   clear hma hmo hT hgd hIDS HLn hnl hpl htl HMa HR4
   go_upto_region 4 with (go_at_call 36; refine CS.out.mono ?_; rintro e w5 ⟨rfl, hk5⟩)
   obtain ⟨hma5, hr5, hB5⟩ := HNow.out w5 hk5
   have m0 := hma5.c0
   have m1 := hma5.c1
   have ml := World.block_lt_of_cell? _ _ m0
   have CI2 := Hd (CI.out w5 hma5 hr5)
   have HMa5 := Hd hma5
   have HB5 := Hd hB5
   clear hma5 hr5 hB5 hk5 CI HNow CS
   go_wp2_with (first
    | (go_at_call 43; refine CI2.out.mono ?_; rintro e w6 ⟨v6, rfl, hrow6, hB6⟩; obtain ⟨ia, ic, rfl, hic, hrI, hbI⟩ := Rd.of_own hrow6 ints_length (by decide) rfl (by have := HIl.out; unfold maxLen; omega))
    | (go_at_call 45; refine (CL.out w6 ia IDS.length ic (HMa5.out.below' hB6) hrI hic).mono ?_; rintro e w8 ⟨v8, rfl, hrow8, hB8⟩))
   have hB56 := HB5.out.trans (hB6.mono HB5.out.size)
   exact bodyPost_ret (by simp [results, Tryz.results21, go_sem]) rfl (show DoubtPost w xs known loss (.returned (.tuple #[v8, .bool true, .int .i64 0])) w8 from ⟨_, by rw [HE.out, HI.out], by rw [HVd.out]; exact ownsRow_mono hrow8 hB56.size, hB56.trans (hB8.mono hB56.size)⟩)
def leafB (ps ts : List Pa) (x : Pa) : Bool := (insideI ps x.pack).isEmpty && (match ofI ts x.pack with | none => true | some t => decide (t.count = 0))
def leavesA (ps ts l : List Pa) : List Int := (l.filter (leafB ps ts)).map (·.pack)
theorem leaves_eq (ps ts : List Pa) : leavesP ps ts = leavesA ps ts ps := rfl
theorem leavesA_yes {ps ts xs : List Pa} {k : Nat} {x : Pa} (hx : xs[k]? = some x) (h : leafB ps ts x = true) : leavesA ps ts (xs.take (k + 1)) = leavesA ps ts (xs.take k) ++ [x.pack] := by
 unfold leavesA; rw [take_succ_snoc hx, List.filter_append, List.map_append]; simp [h]
theorem leavesA_no {ps ts xs : List Pa} {k : Nat} {x : Pa} (hx : xs[k]? = some x) (h : leafB ps ts x = false) : leavesA ps ts (xs.take (k + 1)) = leavesA ps ts (xs.take k) := by
 unfold leavesA; rw [take_succ_snoc hx, List.filter_append, List.map_append]; simp [h]
theorem leavesA_len (ps ts xs : List Pa) : (leavesA ps ts xs).length ≤ xs.length := by
 unfold leavesA; rw [List.length_map]; exact List.length_filter_le _ _
theorem leafB_eq (ps ts : List Pa) (x : Pa) : leafB ps ts x = (((insideL ps x.pack).length : Int) == 0 && (!(ofL ts x.pack).isSome || ((ofV (ofL ts x.pack)).count == 0))) := by
 unfold leafB
 have h1 : insideI ps x.pack = insideL ps x.pack := rfl
 have h2 : ofI ts x.pack = ofL ts x.pack := rfl
 rw [h1, h2]
 congr 1
 · cases insideL ps x.pack with
   | nil => rfl
   | cons a r => simp; omega
 · cases ofL ts x.pack <;> rfl
def leavesV (xs : List Pa) (known loss : Int) : List Int := if openE xs loss = 0 then leavesP (papersL xs known loss) (totalsL xs known loss) else []
def LeavesPost (w : World) (xs : List Pa) (known loss : Int) (e : Ending) (w' : World) : Prop :=
 ∃ v, e = .returned v ∧ w'.ownsRow w.heap.size 3 1 v (leavesV xs known loss).length ((leavesV xs known loss).flatMap ints) ∧ Below w.heap.size w w'
set_option maxRecDepth 100000 in
set_option maxHeartbeats 8000000 in
theorem leaves_any (a : Option Addr) (n cap : Nat) (xs : List Pa) (hsh : ∀ x ∈ xs, x.Short) (known loss : Int) (w : World) (h : Rd Pa.vals 14 w a n xs) (hcap : n ≤ cap) :
 Calls Tryz.prog 23 #[.slice a n cap, .int .i64 known, .int .i64 loss] w (LeavesPost w xs known loss) := by
 obtain ⟨j0, hj0, hy0, hy1, hy2⟩ := info_parts info_int
 have CW := Hd (opened_any a n cap xs hsh known loss w h hcap)
 clear h
 go_enter Tryz.func23, Tryz.ntmps23
 go_upto_region 2 with (go_at_call 57; refine CW.out.mono ?_; rintro e w3 ⟨pa, pn, pc, ta, tn, tc, rfl, hrp, hrt, hB2⟩)
 have hBa := al' (Below.refl w3.heap.size w3) (.cells #[.slice pa pn pc, .slice ta tn tc] 62)
 have hBw : Below w.heap.size w (w3.alloc (.cells #[.slice pa pn pc, .slice ta tn tc] 62)) := hB2.trans (hBa.mono hB2.size)
 have HBw := Hd hBw
 by_cases h0 : openE xs loss = 0
 case neg =>
  generalize w3.alloc (.cells #[.slice pa pn pc, .slice ta tn tc] 62) = w4 at *
  have HV := Hd (show leavesV xs known loss = [] from by unfold leavesV; rw [if_neg h0])
  obtain ⟨oe, hoe⟩ : ∃ c, openE xs loss = c := ⟨_, rfl⟩
  rw [hoe] at h0 ⊢
  have h1 : (oe != 0) = true := by simp [h0]
  clear h0 hoe hrp hrt hBw hBa hB2
  go_wp2_with fail
  exact bodyPost_ret (by simp [results, Tryz.results23, go_sem]) rfl (show LeavesPost w xs known loss (.returned (.slice none 0 0)) w4 from ⟨_, rfl, by rw [HV.out]; exact World.ownsRow_nil _ _ _ _, HBw.out⟩)
 obtain ⟨p1, p2⟩ := open_some (known := known) h0
 rw [p1] at hrp
 rw [p2] at hrt
 have hmo := mani_ok (check_good (open_check h0)).1 known loss
 have HV := Hd (show leavesV xs known loss = leavesP (papersL xs known loss) (totalsL xs known loss) from by unfold leavesV; rw [if_pos h0])
 obtain ⟨PS, hPS⟩ : ∃ P, papersL xs known loss = P := ⟨_, rfl⟩
 obtain ⟨TS, hTS⟩ : ∃ P, totalsL xs known loss = P := ⟨_, rfl⟩
 rw [hPS] at hrp hmo HV
 rw [hTS] at hrt hmo HV
 rw [leaves_eq] at HV
 obtain ⟨e1, e2, hma⟩ := MaAt.made hrp hrt (by have := hmo.ln; omega) (by have := hmo.lt; omega)
 have hpl : pn ≤ 1000 := by rw [e1]; have := hmo.ln; omega
 rw [h0]
 clear hrp hrt p1 p2 hPS hTS h0 hBw hBa hB2 hmo
 generalize w3.alloc (.cells #[.slice pa pn pc, .slice ta tn tc] 62) = w4 at *
 obtain ⟨M, hM⟩ : ∃ M, w3.heap.size = M := ⟨_, rfl⟩
 rw [hM] at hma ⊢
 clear hM
 have HMa := Hd hma
 have Hl := Hd e1
 have CT := Hd (show ∀ W pk, MaAt W M pa pn pc ta tn tc PS TS → ∃ q is, ofV (ofL TS pk) = q ∧ (ofL TS pk).isSome = is ∧ Calls Tryz.prog 58 #[.agg #[.slice pa pn pc, .slice ta tn tc], .int .i64 pk] W fun e w' => e = .returned (.tuple #[.agg #[.int .i64 q.id, .int .i64 q.known, .int .u8 q.kind, .int .i64 q.loss, .int .i64 q.pack, .int .i64 q.inn, .string ⟨q.mark.toArray⟩, .string ⟨q.goods.toArray⟩, .int .i64 q.low, .int .i64 q.high, .int .i64 q.pieces, .int .i64 q.owner, .int .i64 q.count, .int .i64 q.of], .bool is]) ∧ Below W.heap.size W w' from fun W pk hm => ⟨_, _, rfl, rfl, total_any pa pn pc ta tn tc TS pk W hm.rt⟩)
 have CI := Hd (show ∀ W pk, MaAt W M pa pn pc ta tn tc PS TS → Calls Tryz.prog 59 #[.agg #[.slice pa pn pc, .slice ta tn tc], .int .i64 pk] W fun e w' => ∃ ia ic, e = .returned (.slice ia (insideL PS pk).length ic) ∧ Below W.heap.size W w' from fun W pk hm => (inside_any pa pn pc ta tn tc PS pk W hm.rp hpl).mono (by
  rintro e w' ⟨v, rfl, hrow, hB⟩
  obtain ⟨ia, ic, rfl, _⟩ := Rd.of_own hrow ints_length (by decide) rfl (by have := insideL_len PS pk; unfold maxLen; omega)
  exact ⟨ia, ic, rfl, hB⟩))
 have m0 := hma.c0
 have m1 := hma.c1
 have ml := World.block_lt_of_cell? _ _ m0
 clear hma e1 e2
 go_wp2_with fail
 go_loopw [9, 26] (fun v i wr => ∃ k : Nat, k ≤ pn ∧ i = .int .i64 k ∧ wr.ownsRow w4.heap.size 3 1 v (leavesA PS TS (PS.take k)).length ((leavesA PS TS (PS.take k)).flatMap ints) ∧ Below w4.heap.size w4 wr) (fun _ i _ => pn - (intOf i).toNat)
 case atStart => exact ⟨0, Nat.zero_le _, rfl, World.ownsRow_nil _ _ _ _, Below.refl _ _⟩
 case round =>
  obtain ⟨k, hk, rfl, hrow, hB⟩ := hrel
  have hmr := HMa.out.below' hB
  have HB := Hd hB
  have HRow := Hd hrow
  clear hB hrow m0 m1 ml
  by_cases hlt : k < pn
  · have hlt' : (k : Int) < (pn : Int) := by omega
    have hrp := hmr.rp
    obtain ⟨b, off, x, hpa, hb, hx, c0, c1, c2, c3, c4, c5, c6, c7, c8, c9, c10, c11, c12, c13⟩ := hrp.pa hlt
    have Hx := Hd hx
    have HMr := Hd hmr
    subst hpa
    clear hx hmr hrp
    go_upto_region 8 with (fail)
    have hBx := al' (Below.refl wr.heap.size wr) (.cells #[.int .i64 x.id, .int .i64 x.known, .int .u8 x.kind, .int .i64 x.loss, .int .i64 x.pack, .int .i64 x.inn, .string ⟨x.mark.toArray⟩, .string ⟨x.goods.toArray⟩, .int .i64 x.low, .int .i64 x.high, .int .i64 x.pieces, .int .i64 x.owner, .int .i64 x.count, .int .i64 x.of] 42)
    have hbx := BoxG.made wr x.vals 42
    simp only [Pa.vals] at hbx
    have HB2 := Hd (HB.out.trans (hBx.mono HB.out.size))
    have HRow2 := Hd (own_later' HRow.out hBx)
    have hm2 := HMr.out.below' hBx
    clear c0 c1 c2 c3 c4 c5 c6 c7 c8 c9 c10 c11 c12 c13 hBx
    generalize wr.alloc (.cells #[.int .i64 x.id, .int .i64 x.known, .int .u8 x.kind, .int .i64 x.loss, .int .i64 x.pack, .int .i64 x.inn, .string ⟨x.mark.toArray⟩, .string ⟨x.goods.toArray⟩, .int .i64 x.low, .int .i64 x.high, .int .i64 x.pieces, .int .i64 x.owner, .int .i64 x.count, .int .i64 x.of] 42) = w2 at *
    obtain ⟨B2, hB2⟩ : ∃ B, wr.heap.size = B := ⟨_, rfl⟩
    rw [hB2] at hbx ⊢
    obtain ⟨c0, c1, c2, c3, c4, c5, c6, c7, c8, c9, c10, c11, c12, c13⟩ := BoxG.pa (x := x) hbx
    have bl := hbx.1
    have Hbx := Hd hbx
    have HM2 := Hd hm2
    have HLf := Hd (leafB_eq PS TS x)
    obtain ⟨q, is, hq, his, ct⟩ := CT.out w2 x.pack hm2
    rw [hq, his] at HLf
    have CT2 := Hd ct
    have CI2 := Hd (fun W (hW : Below w2.heap.size w2 W) => CI.out W x.pack (HM2.out.below' hW))
    obtain ⟨L, hL⟩ : ∃ L, (insideL PS x.pack).length = L := ⟨_, rfl⟩
    rw [hL] at HLf CI2
    have m0 := hm2.c0
    have m1 := hm2.c1
    have ml := World.block_lt_of_cell? _ _ m0
    clear hbx hB2 HB HRow ct hq his hL hm2 HMr
    go_upto_region 9 with (go_at_call 58; refine CT2.out.mono ?_; rintro e w5 ⟨rfl, hB5⟩)
    have hBq := al' (Below.refl w5.heap.size w5) (.cells #[.int .i64 q.id, .int .i64 q.known, .int .u8 q.kind, .int .i64 q.loss, .int .i64 q.pack, .int .i64 q.inn, .string ⟨q.mark.toArray⟩, .string ⟨q.goods.toArray⟩, .int .i64 q.low, .int .i64 q.high, .int .i64 q.pieces, .int .i64 q.owner, .int .i64 q.count, .int .i64 q.of] 42)
    have hbq := BoxG.made w5 q.vals 42
    simp only [Pa.vals] at hbq
    have hB26 : Below w2.heap.size w2 (w5.alloc (.cells #[.int .i64 q.id, .int .i64 q.known, .int .u8 q.kind, .int .i64 q.loss, .int .i64 q.pack, .int .i64 q.inn, .string ⟨q.mark.toArray⟩, .string ⟨q.goods.toArray⟩, .int .i64 q.low, .int .i64 q.high, .int .i64 q.pieces, .int .i64 q.owner, .int .i64 q.count, .int .i64 q.of] 42)) := hB5.trans (hBq.mono hB5.size)
    clear c0 c1 c2 c3 c4 c5 c6 c7 c8 c9 c10 c11 c12 c13 m0 m1 ml hBq hB5 bl
    generalize w5.alloc (.cells #[.int .i64 q.id, .int .i64 q.known, .int .u8 q.kind, .int .i64 q.loss, .int .i64 q.pack, .int .i64 q.inn, .string ⟨q.mark.toArray⟩, .string ⟨q.goods.toArray⟩, .int .i64 q.low, .int .i64 q.high, .int .i64 q.pieces, .int .i64 q.owner, .int .i64 q.count, .int .i64 q.of] 42) = w6 at *
    obtain ⟨B6, hB6⟩ : ∃ B, w5.heap.size = B := ⟨_, rfl⟩
    rw [hB6] at hbq ⊢
    have Hbq := Hd hbq
    have hm6 := HM2.out.below' hB26
    have m0 := hm6.c0
    have m1 := hm6.c1
    have ml := World.block_lt_of_cell? _ _ m0
    have hbx6 := Hbx.out.below' hB26
    obtain ⟨_, _, _, _, c4, _⟩ := BoxG.pa (x := x) hbx6
    have bl := hbx6.1
    have CI3 := Hd (CI2.out w6 hB26)
    have Hbx6 := Hd hbx6
    have HRow6 := Hd (own_later' HRow2.out hB26)
    have HB6 := Hd (HB2.out.trans (hB26.mono HB2.out.size))
    clear hB26 hbq hB6 hm6 hbx6 CI2 CT2
    have hlk : (leavesA PS TS (PS.take k)).length ≤ 1000 := Nat.le_trans (leavesA_len _ _ _) (by rw [List.length_take]; omega)
    obtain ⟨l0, hl0⟩ : ∃ b, ((L : Int) == 0) = b := ⟨_, rfl⟩
    obtain ⟨n0, hn0⟩ : ∃ b, (q.count == 0) = b := ⟨_, rfl⟩
    rw [hl0, hn0] at HLf
    obtain ⟨lb, hlb⟩ : ∃ b, leafB PS TS x = b := ⟨_, rfl⟩
    rw [hlb] at HLf
    have HLb := Hd hlb
    clear hlb
    cases l0 with
    | false =>
      have HS := Hd (leavesA_no Hx.out (HLb.out.trans HLf.out))
      clear HLb HLf
      go_wp2_with (go_at_call 59; refine CI3.out.mono ?_; rintro e w7 ⟨ia, ic, rfl, hB7⟩)
      exact ⟨⟨k + 1, by omega, by go_num, by rw [HS.out]; exact own_later' HRow6.out hB7, HB6.out.trans (hB7.mono HB6.out.size)⟩, by simp [intOf]; omega⟩
    | true =>
      cases is with
      | false =>
        have HS := Hd (leavesA_yes Hx.out (HLb.out.trans HLf.out))
        obtain ⟨NS, hNS⟩ : ∃ N, leavesA PS TS (PS.take k) = N := ⟨_, rfl⟩
        rw [hNS] at HRow6 HS hlk
        clear HLb HLf hNS
        go_wp2_with (first
         | (go_at_call 59; refine CI3.out.mono ?_; rintro e w7 ⟨ia, ic, rfl, hB7⟩; have HB7 := Hd hB7; obtain ⟨_, _, _, _, _, _, _, _, _, _, _, _, q12, _⟩ := BoxG.pa (x := q) (Hbq.out.below' hB7); have ql := (Hbq.out.below' hB7).1; obtain ⟨_, _, _, _, x4, _⟩ := BoxG.pa (x := x) (Hbx6.out.below' hB7); have xl := (Hbx6.out.below' hB7).1; have HRow7 := Hd (own_later' HRow6.out hB7); clear hB7)
         | (at_builtin; go_loud (refine wpList_append_own _ rfl _ _ 43 rfl w4.heap.size 3 j0 _ 1 8 Tryz.underlying43 hj0 hy0 hy1 hy2 rfl (by decide) _ _ _ rfl (HRow7.out.alloc _) ⟨w7.heap.size, 0, none⟩ 1 1 (ints x.pack) rfl rfl (cell_one_new _ _ _) (by simp [ints, Value.oneCell']) (by unfold maxLen; omega) (by omega) (Nat.le_trans HB6.out.size (Nat.le_trans HB7.out.size (by simp))) ?_; intro v9 w9 hown9 hgrow9 _)))
        have HB67 : Below w4.heap.size w4 w7 := HB6.out.trans (HB7.out.mono HB6.out.size)
        have HB9 := Hd ((HB67.alloc HB67.size (.cells #[.int .i64 x.pack] 3)).grown hgrow9 (Nat.le_trans HB67.size (by simp)) (fun j e => (HRow7.out.lt j e).1))
        have HO9 := Hd (own_int_next hown9)
        clear hown9 hgrow9
        go_wp2_with fail
        exact ⟨⟨k + 1, by omega, by go_num, by rw [HS.out]; exact HO9.out, HB9.out⟩, by simp [intOf]; omega⟩
      | true =>
        cases n0 with
        | true =>
          have HS := Hd (leavesA_yes Hx.out (HLb.out.trans HLf.out))
          obtain ⟨NS, hNS⟩ : ∃ N, leavesA PS TS (PS.take k) = N := ⟨_, rfl⟩
          rw [hNS] at HRow6 HS hlk
          clear HLb HLf hNS
          go_wp2_with (first
           | (go_at_call 59; refine CI3.out.mono ?_; rintro e w7 ⟨ia, ic, rfl, hB7⟩; have HB7 := Hd hB7; obtain ⟨_, _, _, _, _, _, _, _, _, _, _, _, q12, _⟩ := BoxG.pa (x := q) (Hbq.out.below' hB7); have ql := (Hbq.out.below' hB7).1; obtain ⟨_, _, _, _, x4, _⟩ := BoxG.pa (x := x) (Hbx6.out.below' hB7); have xl := (Hbx6.out.below' hB7).1; have HRow7 := Hd (own_later' HRow6.out hB7); clear hB7)
           | (at_builtin; go_loud (refine wpList_append_own _ rfl _ _ 43 rfl w4.heap.size 3 j0 _ 1 8 Tryz.underlying43 hj0 hy0 hy1 hy2 rfl (by decide) _ _ _ rfl (HRow7.out.alloc _) ⟨w7.heap.size, 0, none⟩ 1 1 (ints x.pack) rfl rfl (cell_one_new _ _ _) (by simp [ints, Value.oneCell']) (by unfold maxLen; omega) (by omega) (Nat.le_trans HB6.out.size (Nat.le_trans HB7.out.size (by simp))) ?_; intro v9 w9 hown9 hgrow9 _)))
          have HB67 : Below w4.heap.size w4 w7 := HB6.out.trans (HB7.out.mono HB6.out.size)
          have HB9 := Hd ((HB67.alloc HB67.size (.cells #[.int .i64 x.pack] 3)).grown hgrow9 (Nat.le_trans HB67.size (by simp)) (fun j e => (HRow7.out.lt j e).1))
          have HO9 := Hd (own_int_next hown9)
          clear hown9 hgrow9
          go_wp2_with fail
          exact ⟨⟨k + 1, by omega, by go_num, by rw [HS.out]; exact HO9.out, HB9.out⟩, by simp [intOf]; omega⟩
        | false =>
          have HS := Hd (leavesA_no Hx.out (HLb.out.trans HLf.out))
          clear HLb HLf
          go_wp2_with (go_at_call 59; refine CI3.out.mono ?_; rintro e w7 ⟨ia, ic, rfl, hB7⟩; obtain ⟨_, _, _, _, _, _, _, _, _, _, _, _, q12, _⟩ := BoxG.pa (x := q) (Hbq.out.below' hB7); have ql := (Hbq.out.below' hB7).1)
          exact ⟨⟨k + 1, by omega, by go_num, by rw [HS.out]; exact own_later' HRow6.out hB7, HB6.out.trans (hB7.mono HB6.out.size)⟩, by simp [intOf]; omega⟩
  · have hltg : ¬ (k : Int) < (pn : Int) := by omega
    have HW := Hd (show PS.take k = PS from List.take_of_length_le (by rw [← Hl.out]; omega))
    rw [HW.out] at HRow
    clear hlt hmr
    go_wp2_with fail
    refine bodyPost_ret (results_tmp rfl _ _ _) rfl ⟨_, rfl, ?_, HBw.out.trans (HB.out.mono HBw.out.size)⟩
    rw [HV.out]
    exact ownsRow_mono HRow.out HBw.out.size
theorem tree_chain {ps ts : List Pa} {has : Int → Bool} (hp : Packs ps) {t : Tr} (h : treeT ps ts has = some t) {pack : Int} (hm : pack ∈ t.pre.map (fun k => k.f.pack)) : ∃ c, Chain ps (pack :: c) := by
 unfold treeT at h
 split at h
 · cases h
 · rename_i t' ht
   split at h
   · cases h
     obtain ⟨k, hk, rfl⟩ := List.mem_map.1 hm
     obtain ⟨l, n, c, hh⟩ := (grow_chain hp _ 0 _ _ t [] ht .root).2 k hk
     cases l with
     | nil => exact absurd rfl n
     | cons a r =>
       simp at hh
       subst hh
       exact ⟨r ++ [0], by simpa using c⟩
   · cases h
theorem chain_step {ps : List Pa} (hp : Packs ps) {p : Int} {c : List Int} (h : Chain ps (p :: c)) (h0 : p ≠ 0) : ∃ x c', ofI ps p = some x ∧ x ∈ ps ∧ c = x.inn :: c' ∧ Chain ps (x.inn :: c') := by
 generalize hl : p :: c = l at h
 cases h with
 | root => injection hl with e1 e2; exact absurd e1 h0
 | @step x c' hx h =>
   injection hl with e1 e2
   subst e1 e2
   exact ⟨x, c', hp.find hx, hx, rfl, h⟩
theorem path_enough (ps : List Pa) (hp : Packs ps) : ∀ (d : Nat) (p : Int) (c acc : List Int), Chain ps (p :: c) → c.length < d → ∀ e, c.length < e → pathP ps d p acc = pathP ps e p acc
 | 0, p, c, acc, h, hd, e, he => by omega
 | d + 1, p, c, acc, h, hd, e, he => by
   obtain ⟨e, rfl⟩ : ∃ k, e = k + 1 := ⟨e - 1, by omega⟩
   simp only [pathP]
   by_cases h0 : p = 0
   · rw [if_pos h0, if_pos h0]
   · rw [if_neg h0, if_neg h0]
     obtain ⟨x, c', h1, h2, rfl, h3⟩ := chain_step hp h h0
     rw [h1]
     simp only [Option.getD_some]
     simp only [List.length_cons] at hd he
     exact path_enough ps hp d x.inn c' _ h3 (by omega) e (by omega)
theorem path_step {ps : List Pa} {d : Nat} {p : Int} {acc : List Int} {x : Pa} (h0 : p ≠ 0) (hx : ofI ps p = some x) : pathP ps (d + 1) p acc = pathP ps d x.inn (p :: acc) := by
 rw [pathP, if_neg h0, hx]; rfl
theorem path_end {ps : List Pa} {d : Nat} {acc : List Int} : pathP ps d 0 acc = acc := by
 cases d with
 | zero => rfl
 | succ d => rw [pathP, if_pos rfl]
def lenV : Value → Nat | .slice _ n _ => n | _ => 0
theorem own_lenV {w : World} {base k n : Nat} {e : TypeId} {v : Value} {xs : List Value} (h : w.ownsRow base e k v n xs) : lenV v = n := by
 rcases h.2 with ⟨rfl, rfl⟩ | ⟨g, cap, cur, rfl, _⟩ <;> rfl
def pathV (xs : List Pa) (known loss pack : Int) : List Int := if rootE xs known loss (hasP xs known loss pack) = 0 then pathP (papersL xs known loss) 300 pack [] else []
def PathPost (w : World) (xs : List Pa) (known loss pack : Int) (e : Ending) (w' : World) : Prop :=
 ∃ v, e = .returned (.tuple #[v, .int .i64 (rootE xs known loss (hasP xs known loss pack))]) ∧ w'.ownsRow w.heap.size 3 1 v (pathV xs known loss pack).length ((pathV xs known loss pack).flatMap ints) ∧ Below w.heap.size w w'
set_option maxRecDepth 100000 in
set_option maxHeartbeats 8000000 in
theorem path_any (a : Option Addr) (n cap : Nat) (xs : List Pa) (hsh : ∀ x ∈ xs, x.Short) (known loss pack : Int) (w : World) (h : Rd Pa.vals 14 w a n xs) (hcap : n ≤ cap) :
 Calls Tryz.prog 18 #[.slice a n cap, .int .i64 known, .int .i64 loss, .int .i64 pack] w (PathPost w xs known loss pack) := by
 obtain ⟨j0, hj0, hy0, hy1, hy2⟩ := info_parts info_int
 have CH := Hd (has_any pack w)
 have hBa := al' (Below.refl w.heap.size w) (.cells #[.int .i64 pack] 3)
 have hcp : (w.alloc (.cells #[.int .i64 pack] 3)).cell? ⟨w.heap.size, 0, none⟩ = some (.int .i64 pack) := by
  rw [cell_of_row _ _ _ _ _ (0, 0) (heap_alloc_new w _)]; rfl
 have CW := Hd (rooted_any a n cap xs hsh known loss 68 #[.pointer (some ⟨w.heap.size, 0, none⟩)] (fun _ _ => rfl) (hasP xs known loss pack) _ (h.below' hBa) hcap (there_has hcp))
 have HB1 := Hd hBa
 clear h hcp hBa
 go_enter Tryz.func18, Tryz.ntmps18
 go_upto_region 2 with (first
  | (go_at_call 33; refine CH.out.mono ?_; rintro e w2 ⟨rfl, rfl⟩)
  | (go_at_call 26; refine CW.out.mono ?_; rintro e w3 ⟨pa, pn, pc, ta, tn, tc, tp, rfl, hrp, hrt, hB2, _⟩))
 have hBa := al' (Below.refl w3.heap.size w3) (.cells #[.slice pa pn pc, .slice ta tn tc] 62)
 have HBw := Hd (HB1.out.trans ((hB2.trans (hBa.mono hB2.size)).mono HB1.out.size))
 clear hBa hB2
 by_cases h0 : rootE xs known loss (hasP xs known loss pack) = 0
 case neg =>
  generalize w3.alloc (.cells #[.slice pa pn pc, .slice ta tn tc] 62) = w4 at *
  have HV := Hd (show pathV xs known loss pack = [] from by unfold pathV; rw [if_neg h0])
  obtain ⟨oe, hoe⟩ : ∃ c, rootE xs known loss (hasP xs known loss pack) = c := ⟨_, rfl⟩
  have HE := Hd hoe
  rw [hoe] at h0 ⊢
  have h1 : (oe != 0) = true := by simp [h0]
  clear h0 hoe hrp hrt
  go_wp2_with fail
  exact bodyPost_ret (by simp [results, Tryz.results18, go_sem]) rfl (show PathPost w xs known loss pack (.returned (.tuple #[.slice none 0 0, .int .i64 oe])) w4 from ⟨_, by rw [HE.out], by rw [HV.out]; exact World.ownsRow_nil _ _ _ _, HBw.out⟩)
 obtain ⟨ho, hh⟩ := root_open h0
 obtain ⟨p1, p2⟩ := open_some (known := known) ho
 rw [p1] at hrp
 rw [p2] at hrt
 have hmo := mani_ok (check_good (open_check ho)).1 known loss
 have hT := root_some h0
 obtain ⟨t0, ht0⟩ := Option.isSome_iff_exists.1 hT
 have hpm := root_find ho hh ht0
 have hch := tree_chain hmo.packs ht0 hpm
 have HE := Hd h0
 have HV := Hd (show pathV xs known loss pack = pathP (papersL xs known loss) 300 pack [] from by unfold pathV; rw [if_pos h0])
 obtain ⟨PS, hPS⟩ : ∃ P, papersL xs known loss = P := ⟨_, rfl⟩
 obtain ⟨TS, hTS⟩ : ∃ P, totalsL xs known loss = P := ⟨_, rfl⟩
 rw [hPS] at hrp hmo hch HV
 rw [hTS] at hrt hmo
 obtain ⟨e1, e2, hma⟩ := MaAt.made hrp hrt (by have := hmo.ln; omega) (by have := hmo.lt; omega)
 obtain ⟨c0, hc0⟩ := hch
 have hc0l : c0.length ≤ 201 := by have := hc0.len hmo.packs; simp only [List.length_cons] at this; have := hmo.ln; omega
 have HPk := Hd hmo.packs
 have HCh := Hd hc0
 rw [h0]
 clear hrp hrt e1 e2 p1 p2 hPS hTS ho hh h0 hT ht0 hpm hmo
 generalize w3.alloc (.cells #[.slice pa pn pc, .slice ta tn tc] 62) = w4 at *
 obtain ⟨M, hM⟩ : ∃ M, w3.heap.size = M := ⟨_, rfl⟩
 rw [hM] at hma ⊢
 have HMa := Hd hma
 clear hM hma hc0
 go_wp2_with fail
 go_loopw [13, 14] (fun v p wr => ∃ (q : Int) (c out : List Int), p = .int .i64 q ∧ Chain PS (q :: c) ∧ out.length + c.length ≤ 201 ∧ pathP PS (c.length + 1) q out.reverse = pathP PS 300 pack [] ∧ wr.ownsRow w4.heap.size 3 1 v out.length (out.flatMap ints) ∧ Below w4.heap.size w4 wr) (fun v _ _ => 300 - lenV v)
 case atStart => exact ⟨pack, c0, [], rfl, HCh.out, by simpa using hc0l, path_enough PS HPk.out _ _ c0 _ HCh.out (Nat.lt_succ_self _) _ (by omega), World.ownsRow_nil _ _ _ _, Below.refl _ _⟩
 case round =>
  obtain ⟨q, c, out, rfl, hc, hlen, hpath, hrow, hB⟩ := hrel
  have hlv := own_lenV hrow
  by_cases h0 : q = 0
  · subst h0
    have HP0 := Hd (show out.reverse = pathV xs known loss pack from by rw [HV.out, ← hpath, path_end])
    have CR := Hd (reverse_any wr w4.heap.size _ out hrow (by omega))
    have HRow := Hd hrow
    have HB := Hd hB
    clear hc hpath hrow hB hlv
    go_wp2_with (go_at_call 49; refine CR.out.mono ?_; rintro e w6 ⟨rfl, hrow6, hg6⟩)
    have hB6 : Below w4.heap.size w4 w6 := HB.out.grown hg6 HB.out.size (fun j e => (HRow.out.lt j e).1)
    rw [HP0.out] at hrow6
    exact bodyPost_ret (by simp [results, Tryz.results18, go_sem]; rfl) rfl (show PathPost w xs known loss pack (.returned (.tuple #[_, .int .i64 0])) w6 from ⟨_, by rw [HE.out], ownsRow_mono hrow6 HBw.out.size, HBw.out.trans (hB6.mono HBw.out.size)⟩)
  · obtain ⟨x, c', hx1, hx2, rfl, hc'⟩ := chain_step HPk.out hc h0
    have hq : (q != 0) = true := by simp [h0]
    have hma := HMa.out.below' hB
    have m0 := hma.c0
    have m1 := hma.c1
    have ml := World.block_lt_of_cell? _ _ m0
    have CP := Hd (paper_any pa pn pc ta tn tc PS q wr hma.rp)
    have hof : ofV (ofL PS q) = x := by
     have : ofL PS q = some x := hx1
     rw [this]; rfl
    rw [hof] at CP
    have HCh' := Hd hc'
    have HPa := Hd (show pathP PS (c'.length + 1) x.inn (out ++ [q]).reverse = pathP PS 300 pack [] from by
     rw [← hpath, List.length_cons, path_step h0 hx1, List.reverse_append]; rfl)
    have HRow := Hd hrow
    have HB := Hd hB
    have HLv := Hd hlv
    simp only [List.length_cons] at hlen
    obtain ⟨bb, hbb⟩ : ∃ b, (ofL PS q).isSome = b := ⟨_, rfl⟩
    rw [hbb] at CP
    clear hc hc' hpath hrow hB hma hof hx1 hx2 h0 hbb hlv
    go_upto_region 8 with (go_at_call 48; refine CP.out.mono ?_; rintro e w5 ⟨rfl, hB5⟩)
    have hBq := al' (Below.refl w5.heap.size w5) (.cells #[.int .i64 x.id, .int .i64 x.known, .int .u8 x.kind, .int .i64 x.loss, .int .i64 x.pack, .int .i64 x.inn, .string ⟨x.mark.toArray⟩, .string ⟨x.goods.toArray⟩, .int .i64 x.low, .int .i64 x.high, .int .i64 x.pieces, .int .i64 x.owner, .int .i64 x.count, .int .i64 x.of] 42)
    have hbq := BoxG.made w5 x.vals 42
    simp only [Pa.vals] at hbq
    have hB56 : Below wr.heap.size wr (w5.alloc (.cells #[.int .i64 x.id, .int .i64 x.known, .int .u8 x.kind, .int .i64 x.loss, .int .i64 x.pack, .int .i64 x.inn, .string ⟨x.mark.toArray⟩, .string ⟨x.goods.toArray⟩, .int .i64 x.low, .int .i64 x.high, .int .i64 x.pieces, .int .i64 x.owner, .int .i64 x.count, .int .i64 x.of] 42)) := hB5.trans (hBq.mono hB5.size)
    have HRow6 := Hd (own_later' HRow.out hB56)
    have HB6 := Hd (HB.out.trans (hB56.mono HB.out.size))
    have hB5s := hB5.size
    clear m0 m1 ml hBq hB5 hB56 CP
    generalize w5.alloc (.cells #[.int .i64 x.id, .int .i64 x.known, .int .u8 x.kind, .int .i64 x.loss, .int .i64 x.pack, .int .i64 x.inn, .string ⟨x.mark.toArray⟩, .string ⟨x.goods.toArray⟩, .int .i64 x.low, .int .i64 x.high, .int .i64 x.pieces, .int .i64 x.owner, .int .i64 x.count, .int .i64 x.of] 42) = w6 at *
    obtain ⟨B6, hB6⟩ : ∃ B, w5.heap.size = B := ⟨_, rfl⟩
    have HBe := Hd (show wr.heap.size ≤ B6 from by rw [← hB6]; exact hB5s)
    rw [hB6] at hbq ⊢
    have Hbq := Hd hbq
    clear hbq hB6 hB5s
    go_upto_region 9 with (at_builtin; go_loud (refine wpList_append_own _ rfl _ _ 43 rfl w4.heap.size 3 j0 _ 1 8 Tryz.underlying43 hj0 hy0 hy1 hy2 rfl (by decide) _ _ _ rfl (HRow6.out.alloc _) ⟨w6.heap.size, 0, none⟩ 1 1 (ints q) rfl rfl (cell_one_new _ _ _) (by simp [ints, Value.oneCell']) (by unfold maxLen; omega) (by omega) (Nat.le_trans HB6.out.size (by simp)) ?_; intro v9 w9 hown9 hgrow9 _))
    have HB9 := Hd ((HB6.out.alloc HB6.out.size (.cells #[.int .i64 q] 3)).grown hgrow9 (Nat.le_trans HB6.out.size (by simp)) (fun j e => (HRow6.out.lt j e).1))
    have hbq7 := Hbq.out.below' (al' (Below.refl _ _) (.cells #[.int .i64 q] 3))
    obtain ⟨_, _, _, _, _, q5, _⟩ := BoxG.pa (x := x) hbq7
    have b5 : w9.cell? ⟨B6, 5, none⟩ = some (.int .i64 x.inn) := (hgrow9.cell_far ⟨B6, 5, none⟩ hbq7.1 (by
     intro e
     have h1 := (HRow.out.lt B6 (by first | exact e | exact e.symm)).2
     have h2 := HBe.out
     omega)).trans q5
    have b5l := World.block_lt_of_cell? _ _ b5
    have HO9 := Hd (own_int_next hown9)
    have HL9 := Hd (own_lenV hown9)
    clear hown9 hgrow9 hbq7 q5
    go_wp2_with fail
    exact ⟨⟨x.inn, c', out ++ [q], rfl, HCh'.out, by rw [List.length_append]; simp; omega, HPa.out, HO9.out, HB9.out⟩, by rw [HL9.out, HLv.out]; omega⟩
end Go.Proofs.YtehplmeckfinoaaGreatDoor
