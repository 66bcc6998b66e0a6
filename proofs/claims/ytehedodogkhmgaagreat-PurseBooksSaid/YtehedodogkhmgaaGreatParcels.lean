/- The walk of maps.Keys at map[int]int. -/
import Derived.Test.YtehedodogkhmgaaGreatHeld
import Derived.Test.YtehedodogkhmgaaGreatAccL
import Derived.Shelf.SortM.Plain
import Derived.Shelf.SortM.SortNone
import Derived.Shelf.SlIterI.Sorted
import Derived.Test.YtehedodogkhmgaaGreatAsk
set_option linter.unusedSimpArgs false
set_option linter.unusedVariables false
namespace Go.Proofs.YtehedodogkhmgaaGreat
open Go.RowKit Go.Shelf
attribute [local go_sem] Oper.semAt_some

set_option maxRecDepth 100000 in
set_option maxHeartbeats 2000000 in
theorem keysI1_in (q : Nat) (hq : 1 ≤ q) (l Bm b : Nat) (m : List (Int × Int)) (J Jx : List Int → World → Prop)
    (hY : ∀ pre x W, J pre W → pre.length < m.length → YieldAt Fence.wide (q - 1) Tryz.prog l #[.int .i64 x] W fun e W' =>
      (e = .returned (.bool true) ∧ J (pre ++ [x]) W' ∧ KeepsWalks W W') ∨ (e = .returned (.bool false) ∧ Jx (pre ++ [x]) W'))
    (W : World) (hJ : AbidesFrom W.heap.size J) (hm : W.cell? ⟨Bm, 0, none⟩ = some (.map (some b))) (hown : MapT Tryz.prog 3 kInt vInt W b m) (h0 : J [] W) :
    CallsIn Fence.wide q Tryz.prog 122 #[.func (.yield l) #[] #[], .pointer (some ⟨Bm, 0, none⟩)] W fun e W' => (∃ v, e = .returned v) ∧
      ((∃ xs : List Int, xs.Perm (m.map (·.1)) ∧ J xs W') ∨ (∃ pre : List Int, True ∧ Jx pre W')) := by
  refine callsIn_of_wp Tryz.func122 rfl trivial ?_ rfl
  simp only [Tryz.ntmps122, List.size_toArray, List.length_cons, List.length_nil, Nat.reduceAdd, Nat.reduceSub, Array.replicate_succ, Array.replicate_zero, List.push_toArray, List.append_toArray, List.nil_append, List.cons_append]
  gi_wp2_with (gi_at_range; refine wpListIn_range_T _ rfl _ 77 rfl Tryz.underlying77 rfl hown ?_; intro w0 hrg0 hg0 hs0)
  go_frame
  gi_loopw [3] (fun _ wr => ∃ js : List Nat, RangeT kInt vInt wr b W.heap.size m js ∧ J ((picks m js).map (·.1)) wr) (fun _ wr => wr.rangeLeft b W.heap.size)
  case atStart => exact ⟨[], hrg0, hJ [] W w0 none h0 hg0 (fun r e => by cases e)⟩
  case round =>
    obtain ⟨js, hrg, hJs⟩ := hrel
    gi_wp2_with (gi_at_next; refine wpListIn_next_T _ rfl _ rfl rfl hrg ?_ ?_)
    · intro hp
      gi_wp2
      go_end0
      exact ⟨⟨_, rfl⟩, .inl ⟨_, hp.map _, hJs⟩⟩
    · intro j x y w2 hj hx hl hrg2 hlt hg2 hs2 hen
      have hpl := picks_length hrg.bound.2
      have hJ2 := hJ _ wr w2 (some W.heap.size) hJs hg2 (fun r e => by cases e; exact ⟨Nat.le_refl _, hrg.iter_walk⟩)
      obtain ⟨fn, tmps, assign, body, hy, hR⟩ := hY _ x w2 hJ2 (by rw [List.length_map, hpl]; exact hl)
      have Hsn := Lib.hid (show (picks m (js ++ [j])).map (·.1) = (picks m js).map (·.1) ++ [x] by rw [picks_snoc hx]; simp)
      have Hlt := Lib.hid hlt
      clear hs2 hpl hlt hl hx
      simp only [kInt, vInt] at hen
      gi_wp2
      refine hR.mono ?_
      rintro e W3 (⟨rfl, hJ3, hk3⟩ | ⟨rfl, hJx3⟩)
      · have hrg3 := hrg2.of_walks hk3
        have he : W3.rangeLeft b W.heap.size = w2.rangeLeft b W.heap.size := hrg2.left_walks hk3
        have He := Lib.hid he
        clear he hk3
        gi_wp2
        go_roundw
        case rel => exact ⟨_, hrg3, by rw [Hsn.out]; exact hJ3⟩
        case measure => rw [He.out]; exact Hlt.out
      · gi_wp2
        refine bodyPost_ret (results_none rfl _ _ _) rfl ?_
        exact ⟨⟨_, rfl⟩, .inr ⟨_, trivial, hJx3⟩⟩

theorem keysI_stops (q : Nat) (hq : 1 ≤ q) (Bm b : Nat) (m : List (Int × Int)) (w : World) (hm : w.cell? ⟨Bm, 0, none⟩ = some (.map (some b))) (hown : MapT Tryz.prog 3 kInt vInt w b m) :
    SeqStopsK Fence.wide q Tryz.prog 122 #[.pointer (some ⟨Bm, 0, none⟩)] (fun x : Int => #[.int .i64 x]) KeepsWalks (fun xs => xs.Perm (m.map (·.1))) (fun _ => True) m.length w :=
  fun l J Jx W hW hJ hJx hY h0 => by
    refine (keysI1_in q hq l Bm b m J Jx hY W hJ ((hW.cell (p := ⟨Bm, 0, none⟩) (World.block_lt_of_cell? _ _ hm)).trans hm) (hown.below' hW) h0)

set_option maxHeartbeats 1000000 in
theorem keysI_any (b : Option Nat) (w : World) :
    Calls Tryz.prog 87 #[.map b] w fun e w' => e = .returned (.func (.func 122) #[] #[.pointer (some ⟨w.heap.size, 0, none⟩)]) ∧ w' = w.alloc (.cells #[.map b] 77) := by
  go_enter Tryz.func87, Tryz.ntmps87
  go_wp2_with fail
  go_ret
  exact ⟨rfl, rfl⟩
end Go.Proofs.YtehedodogkhmgaaGreat

/- The walks of slices.Sort and slices.Sorted of ints. -/
set_option linter.unusedSimpArgs false
set_option linter.unusedVariables false
namespace Go.Proofs.YtehedodogkhmgaaGreat
open Go.RowKit Go.Shelf Go.Sort

def sortI_ren : Go.Shelf.Ren := ⟨fun | 5 => 121 | 8 => 137 | 7 => 136 | 19 => 155 | 20 => 156 | 10 => 146 | 11 => 147 | 12 => 148 | 13 => 149 | 14 => 150 | 15 => 151 | 16 => 152 | 17 => 153 | 18 => 154 | 30 => 159 | 31 => 160 | 32 => 161 | 33 => 162 | 34 => 163 | 35 => 138 | 40 => 172 | n => n, fun | 23 => 39 | 25 => 3 | 3 => 3 | 32 => 156 | 22 => 39 | 0 => 0 | 44 => 170 | 46 => 172 | 4 => 4 | 36 => 163 | 35 => 162 | 41 => 101 | 5 => 5 | 9 => 9 | 53 => 175 | 57 => 179 | 63 => 186 | 64 => 187 | n => n, fun | n => n⟩
theorem sortI : Go.Proofs.SlLaysM.n5 Tryz.prog sortI_ren := {
    mixed := by kernel_rfl,
    f5 := ⟨Tryz.f121.name, by decide, Tryz.func121.trans (congrArg some (by kernel_rfl))⟩,
    f7 := ⟨Tryz.f136.name, by decide, Tryz.func136.trans (congrArg some (by kernel_rfl))⟩,
    f8 := Tryz.func137.trans (congrArg some (by kernel_rfl)),
    f10 := ⟨Tryz.f146.name, by decide, Tryz.func146.trans (congrArg some (by kernel_rfl))⟩,
    f11 := ⟨Tryz.f147.name, by decide, Tryz.func147.trans (congrArg some (by kernel_rfl))⟩,
    f12 := ⟨Tryz.f148.name, by decide, Tryz.func148.trans (congrArg some (by kernel_rfl))⟩,
    f13 := ⟨Tryz.f149.name, by decide, Tryz.func149.trans (congrArg some (by kernel_rfl))⟩,
    f14 := ⟨Tryz.f150.name, by decide, Tryz.func150.trans (congrArg some (by kernel_rfl))⟩,
    f15 := ⟨Tryz.f151.name, by decide, Tryz.func151.trans (congrArg some (by kernel_rfl))⟩,
    f16 := ⟨Tryz.f152.name, by decide, Tryz.func152.trans (congrArg some (by kernel_rfl))⟩,
    f17 := ⟨Tryz.f153.name, by decide, Tryz.func153.trans (congrArg some (by kernel_rfl))⟩,
    f18 := ⟨Tryz.f154.name, by decide, Tryz.func154.trans (congrArg some (by kernel_rfl))⟩,
    f19 := Tryz.func155.trans (congrArg some (by kernel_rfl)),
    f20 := Tryz.func156.trans (congrArg some (by kernel_rfl)),
    f30 := ⟨Tryz.f159.name, by decide, Tryz.func159.trans (congrArg some (by kernel_rfl))⟩,
    f31 := Tryz.func160.trans (congrArg some (by kernel_rfl)),
    f32 := Tryz.func161.trans (congrArg some (by kernel_rfl)),
    f33 := ⟨Tryz.f162.name, by decide, Tryz.func162.trans (congrArg some (by kernel_rfl))⟩,
    f34 := ⟨Tryz.f163.name, by decide, Tryz.func163.trans (congrArg some (by kernel_rfl))⟩,
    f35 := ⟨Tryz.f138.name, by decide, Tryz.func138.trans (congrArg some (by kernel_rfl))⟩,
    f40 := ⟨Tryz.f172.name, by decide, Tryz.func172.trans (congrArg some (by kernel_rfl))⟩,
    t0 := Tryz.underlying0,
    a0 := Tryz.isAgg0,
    z0 := Tryz.sizeOf0,
    v0 := Tryz.zeroValue0,
    t3 := Tryz.underlying3,
    a3 := Tryz.isAgg3,
    z3 := Tryz.sizeOf3,
    v3 := Tryz.zeroValue3,
    t4 := Tryz.underlying4,
    a4 := Tryz.isAgg4,
    z4 := Tryz.sizeOf4,
    v4 := Tryz.zeroValue4,
    t5 := Tryz.underlying5,
    a5 := Tryz.isAgg5,
    z5 := Tryz.sizeOf5,
    v5 := Tryz.zeroValue5,
    t9 := Tryz.underlying9,
    a9 := Tryz.isAgg9,
    z9 := Tryz.sizeOf9,
    v9 := Tryz.zeroValue9,
    t22 := Tryz.underlying39,
    a22 := Tryz.isAgg39,
    z22 := Tryz.sizeOf39,
    v22 := Tryz.zeroValue39,
    t23 := Tryz.underlying39,
    a23 := Tryz.isAgg39,
    z23 := Tryz.sizeOf39,
    v23 := Tryz.zeroValue39,
    t25 := Tryz.underlying3,
    a25 := Tryz.isAgg3,
    z25 := Tryz.sizeOf3,
    v25 := Tryz.zeroValue3,
    t32 := Tryz.underlying156,
    a32 := Tryz.isAgg156,
    z32 := Tryz.sizeOf156,
    v32 := Tryz.zeroValue156,
    t35 := Tryz.underlying162,
    a35 := Tryz.isAgg162,
    z35 := Tryz.sizeOf162,
    v35 := Tryz.zeroValue162,
    t36 := Tryz.underlying163,
    a36 := Tryz.isAgg163,
    z36 := Tryz.sizeOf163,
    v36 := Tryz.zeroValue163,
    t41 := Tryz.underlying101,
    a41 := Tryz.isAgg101,
    z41 := Tryz.sizeOf101,
    v41 := Tryz.zeroValue101,
    t44 := Tryz.underlying170,
    a44 := Tryz.isAgg170,
    z44 := Tryz.sizeOf170,
    v44 := Tryz.zeroValue170,
    t46 := Tryz.underlying172,
    a46 := Tryz.isAgg172,
    z46 := Tryz.sizeOf172,
    v46 := Tryz.zeroValue172,
    t53 := Tryz.underlying175,
    a53 := Tryz.isAgg175,
    z53 := Tryz.sizeOf175,
    v53 := Tryz.zeroValue175,
    t57 := Tryz.underlying179,
    a57 := Tryz.isAgg179,
    z57 := Tryz.sizeOf179,
    v57 := Tryz.zeroValue179,
    t63 := Tryz.underlying186,
    a63 := Tryz.isAgg186,
    z63 := Tryz.sizeOf186,
    v63 := Tryz.zeroValue186,
    t64 := Tryz.underlying187,
    a64 := Tryz.isAgg187,
    z64 := Tryz.sizeOf187,
    v64 := Tryz.zeroValue187 }

theorem flat_ints (ss : List Int) : ss.flatMap ints = ss.map (Value.int .i64) := by
  induction ss with
  | nil => rfl
  | cons x r ih => rw [List.flatMap_cons, ih]; rfl
theorem sortI_any (w : World) (base : Nat) (v : Value) (ss : List Int) (hrow : w.ownsRow base 3 1 v ss.length (ss.flatMap ints)) (hn : ss.length ≤ 1000000) :
    Calls Tryz.prog 121 #[v] w fun e w' => e = .returned (.tuple #[]) ∧
      w'.ownsRow base 3 1 v ss.length ((ss.mergeSort (fun x y => decide (x ≤ y))).flatMap ints) ∧ w.grownBy w' v.ownBlock := by
  rcases hrow.2 with ⟨rfl, hz⟩ | ⟨gb, cap, cur, rfl, hbase, hgb, r1, r2, r3, r4⟩
  · have hss : ss = [] := List.eq_nil_of_length_eq_zero hz
    subst hss
    refine (AnyM.slices_Sort_int_none (P := Tryz.prog) (ρ := sortI_ren) { sortI with } none 0 w).mono ?_
    rintro e w' ⟨rfl, rfl⟩
    exact ⟨rfl, by simpa using hrow, ⟨rfl, rfl, rfl, Nat.le_refl _, fun _ _ _ => rfl⟩⟩
  · rw [flat_ints] at r4
    have hH : Holds encZ w gb 0 ss.toArray := holds_of_block_i hgb (by simpa using r4)
    have hgl : gb < w.heap.size := (Array.getElem?_eq_some_iff.1 hgb).1
    refine (AnyM.slices_Sort_int (P := Tryz.prog) (ρ := sortI_ren) { sortI with } gb 0 cap ss w hH hgl (by omega)).mono ?_
    rintro e w' ⟨rfl, n, os, rfl⟩
    refine ⟨rfl, ?_, grownBy_sorted_i _⟩
    rw [flat_ints]
    exact ownsRow_sorted_i (by simp) hbase hgb r1 r2 r3
set_option maxHeartbeats 1000000 in
theorem sortedI_any (gf : Nat) (lb : Array Value) (eg : ∀ args w, (callFunc gf args).run Tryz.prog w = .ok (.enter gf args) w) (S Sp : List Int → Prop) (N : Nat) (hN : N ≤ 1000000) (hSN : ∀ ys, S ys → ys.length ≤ 1000000) (w0 w : World)
    (hw0 : Below w0.heap.size w0 w) (hseq : SeqStopsK Fence.wide 4 Tryz.prog gf lb (fun x : Int => #[.int .i64 x]) KeepsWalks S Sp N w0) :
    Calls Tryz.prog 86 #[.func (.func gf) #[] lb] w fun e W' =>
      ∃ (v : Value) (ys : List Int), e = .returned v ∧ S ys ∧ W'.ownsRow w.heap.size 3 1 v ys.length ((ys.mergeSort (fun x y => decide (x ≤ y))).flatMap ints) ∧ Below w.heap.size w W' := by
  go_enter Tryz.func86, Tryz.ntmps86
  go_wp2_with fail
  refine (collectInt_any gf lb eg S Sp N hN w0 _ hw0 hseq).mono ?_
  rintro e w1 ⟨v, ys, rfl, hS, hrow, hB⟩
  have hylen := hSN ys hS
  have HB := Lib.hid hB
  have HR := Lib.hid hrow
  clear hB hrow
  go_wp2_with fail
  refine (sortI_any _ _ v ys HR.out hylen).mono ?_
  rintro e w2 ⟨rfl, hrow, hg⟩
  have Hg := Lib.hid hg
  have HR2 := Lib.hid hrow
  clear hrow hg
  go_wp2_with fail
  go_ret
  exact ⟨v, ys, rfl, hS, HR2.out, HB.out.grown Hg.out HB.out.size (fun k e => (HR.out.lt k e).1)⟩
end Go.Proofs.YtehedodogkhmgaaGreat

/- The walk of purse's Parcels. -/
set_option linter.unusedSimpArgs false
set_option linter.unusedVariables false
namespace Go.Proofs.YtehedodogkhmgaaGreat
open Go.RowKit Go.Shelf Go.Sort

theorem ints_unique : ∀ {l m : List Int}, l.Pairwise (· < ·) → m.Pairwise (· < ·) → (∀ a, a ∈ l ↔ a ∈ m) → l = m
  | [], [], _, _, _ => rfl
  | [], y :: r, _, _, h => by have := (h y).2 (by simp); simp at this
  | x :: l, [], _, _, h => by have := (h x).1 (by simp); simp at this
  | x :: l, y :: m, hl, hm, h => by
    rw [List.pairwise_cons] at hl hm
    have hxy : x = y := by
      have h1 := (h x).1 (by simp)
      have h2 := (h y).2 (by simp)
      rcases List.mem_cons.1 h1 with e | e
      · exact e
      · rcases List.mem_cons.1 h2 with e' | e'
        · exact e'.symm
        · have := hm.1 x e; have := hl.1 y e'; omega
    subst hxy
    rw [ints_unique hl.2 hm.2 (fun a => ?_)]
    constructor
    · intro ha
      rcases List.mem_cons.1 ((h a).1 (by simp [ha])) with e | e
      · subst e; have := hl.1 a ha; omega
      · exact e
    · intro ha
      rcases List.mem_cons.1 ((h a).2 (by simp [ha])) with e | e
      · subst e; have := hm.1 a ha; omega
      · exact e
theorem sorted_ints {ys m : List Int} (hn : ys.Nodup) (hm : m.Pairwise (· < ·)) (h : ∀ a, a ∈ ys ↔ a ∈ m) : ys.mergeSort (fun x y => decide (x ≤ y)) = m := by
  have hp := List.mergeSort_perm ys (fun x y : Int => decide (x ≤ y))
  have hs := List.pairwise_mergeSort (le := fun x y : Int => decide (x ≤ y)) (fun a b c h1 h2 => by simp at *; omega) (fun a b => by simp; omega) ys
  have hn' : (ys.mergeSort (fun x y => decide (x ≤ y))).Nodup := hp.nodup_iff.2 hn
  refine ints_unique ?_ hm (fun a => ?_)
  · have := hs.and hn'
    exact this.imp (fun {a b} hab => by
      have h1 := hab.1
      have h2 := hab.2
      simp at h1
      omega)
  · rw [hp.mem_iff]; exact h a
theorem sold_none {xs : List Po} {k : Int} (h : ∀ p ∈ xs, p.parcel ≠ k) : soldL xs k = 0 := by
  have : ∀ (ys : List Po) (n : Int), (∀ p ∈ ys, p.parcel ≠ k) → ys.foldl (soldStep k) n = n := by
    intro ys
    induction ys with
    | nil => intro n _; rfl
    | cons p r ih =>
      intro n hp
      rw [List.foldl_cons, ih _ (fun q hq => hp q (by simp [hq]))]
      unfold soldStep
      rw [if_neg (fun e => hp p (by simp) e.2)]
  exact this xs 0 h
theorem Bk.soldKeys {s : Ch} {xs : List Po} (h : Bk s xs) (k : Int) : k ∈ s.sold.map (·.1) ↔ k ∈ parcelsL xs := by
  rw [← mget_some_iff, h.sold, parcelsL_mem]
  by_cases hk : 0 < soldL xs k
  · rw [if_pos hk]
    constructor
    · intro _
      refine Classical.byContradiction fun hc => ?_
      have := sold_none (xs := xs) (k := k) (fun p hp e => hc ⟨p, hp, e⟩)
      omega
    · intro _; rfl
  · rw [if_neg hk]
    constructor
    · intro e; cases e
    · rintro ⟨p, hp, e⟩
      exact absurd e (h.known k (by have := (soldL_bound h.okl.am k).1; omega) p hp)

def ParcelsPost (w : World) (xs : List Po) (e : Ending) (w' : World) : Prop :=
  ∃ v, e = .returned v ∧ w'.ownsRow w.heap.size 3 1 v (if (checkL xs).2 = 0 then parcelsL xs else []).length ((if (checkL xs).2 = 0 then parcelsL xs else []).flatMap ints) ∧ Below w.heap.size w w'
set_option maxRecDepth 100000 in
set_option maxHeartbeats 2000000 in
theorem parcels_all (a : Option Addr) (n cap : Nat) (xs : List Po) (w : World) (h : Rd Po.vals 8 w a n xs) (hw : ∀ p ∈ xs, p.Wf) :
    Calls Tryz.prog 28 #[.slice a n cap] w (ParcelsPost w xs) := by
  go_enter Tryz.func28, Tryz.ntmps28
  go_wp2_with fail
  refine (opened_any a n cap xs _ h hw).mono ?_
  rintro e w1 ⟨hB, ⟨hc, L, s, rfl, hch, hbk, hL⟩ | ⟨hc, rfl⟩⟩
  · obtain ⟨c0, c1, c2, c3, c4, c5, c6⟩ := hch.cs
    have Hch := Lib.hid hch
    have Hbk := Lib.hid hbk
    have HB := Lib.hid hB
    have Hc := Lib.hid hc
    clear hch hbk hB hc h
    go_wp2_with fail
    refine (keysI_any _ _).mono ?_
    rintro e w2 ⟨rfl, rfl⟩
    have hb1 := (Below.refl w1.heap.size w1).alloc (Nat.le_refl _) (.cells #[.map (some L.sold)] 77)
    have hcell := (Boxed.new w1 77 (.map (some L.sold))).cell
    have hmap := Hch.out.sold.alloc (.cells #[.map (some L.sold)] 77)
    have Hb1 := Lib.hid (below_then HB.out hb1 (Nat.le_refl _))
    have hnd := Hch.out.sold.nodup
    have Hnd := Lib.hid hnd
    have hlen : s.sold.length ≤ 400 := by
      have h1 : (s.sold.map (·.1)).length ≤ (xs.map (·.parcel)).length := hnd.length_le_of_subset fun k hk => by
        obtain ⟨p, hp, e⟩ := (parcelsL_mem xs k).1 ((Hbk.out.soldKeys k).1 hk)
        exact List.mem_map.2 ⟨p, hp, e⟩
      rw [List.length_map, List.length_map] at h1
      have := Hbk.out.len
      omega
    have Hlen := Lib.hid hlen
    clear hnd hlen
    go_wp2_with fail
    refine (sortedI_any 122 _ (enters_of Tryz.func122 (by kernel_rfl) rfl) _ _ s.sold.length (by have := Hlen.out; omega) (fun ys hS => by have := hS.length_eq; rw [List.length_map] at this; have := Hlen.out; omega) _ _ (Below.refl _ _)
      (keysI_stops 4 (by omega) w1.heap.size L.sold s.sold _ hcell hmap)).mono ?_
    rintro e w3 ⟨v, ys, rfl, hS, hrow, hB3⟩
    have hE : ys.mergeSort (fun x y => decide (x ≤ y)) = parcelsL xs := sorted_ints (hS.nodup_iff.2 Hnd.out) (parcelsL_sorted xs) (fun a => by rw [hS.mem_iff]; exact Hbk.out.soldKeys a)
    have hyl : ys.length = (parcelsL xs).length := by rw [← hE, List.length_mergeSort]
    rw [hE, hyl] at hrow
    have HR := Lib.hid (ownsRow_mono hrow Hb1.out.size)
    have HB3 := Lib.hid (below_then Hb1.out hB3 (Nat.le_refl _))
    clear hB3 hrow hS hE hyl hb1 hcell hmap
    go_wp2_with fail
    go_ret
    exact ⟨v, rfl, by rw [if_pos Hc.out]; exact HR.out, HB3.out⟩
  · have HB := Lib.hid hB
    have Hc := Lib.hid hc
    have hc1 : ((checkL xs).2 != 0) = true := by simp [hc]
    clear hB hc
    go_wp2_with fail
    go_ret
    exact ⟨_, rfl, by rw [if_neg Hc.out]; exact World.ownsRow_nil _ _ _ _, HB.out⟩
end Go.Proofs.YtehedodogkhmgaaGreat
