/- The walk of a manifest's end. -/
import Derived.Test.YtehplmeckfinoaaGreatDoorCMissing
import Derived.Test.YtehplmeckfinoaaGreatDoorCBack
import Derived.Shelf.Spec.SlicesGrow
import Derived.Lib.AppendZeros
import Derived.Deep.Cut
set_option linter.unusedSimpArgs false
set_option linter.unusedVariables false
namespace Go.Proofs.YtehplmeckfinoaaGreatDoor
open Go.RowKit Go.Shelf
theorem grow_same (ps ts : List Pa) (h1 h2 : Int → Bool) : ∀ (d : Nat) (pack a b c e : Int) (t : Tr), growT ps ts h1 d pack a b = some t → ∃ t', growT ps ts h2 d pack c e = some t' ∧ t'.pre.length = t.pre.length
 | 0, pack, a, b, c, e, t, h => by simp only [growT] at h; cases h
 | d + 1, pack, a, b, c, e, t, h => by
   simp only [growT] at h ⊢
   have hl : ∀ (l : List Int) (ks : List Tr), mapO (fun p => growT ps ts h1 d p (ownOf h1 ((ofI ps p).getD pa0)).1 (ownOf h1 ((ofI ps p).getD pa0)).2) l = some ks →
    ∃ ks', mapO (fun p => growT ps ts h2 d p (ownOf h2 ((ofI ps p).getD pa0)).1 (ownOf h2 ((ofI ps p).getD pa0)).2) l = some ks' ∧ ks'.length = ks.length ∧ (preL ks').length = (preL ks).length := by
    intro l
    induction l with
    | nil => intro ks h; simp only [mapO] at h ⊢; cases h; exact ⟨[], rfl, rfl, rfl⟩
    | cons p r ih =>
      intro ks h
      simp only [mapO] at h ⊢
      cases e1 : growT ps ts h1 d p (ownOf h1 ((ofI ps p).getD pa0)).1 (ownOf h1 ((ofI ps p).getD pa0)).2 with
      | none => rw [e1] at h; simp at h
      | some k =>
        obtain ⟨k', hk1, hk2⟩ := grow_same ps ts h1 h2 d p _ _ (ownOf h2 ((ofI ps p).getD pa0)).1 (ownOf h2 ((ofI ps p).getD pa0)).2 k e1
        cases e2 : mapO (fun p => growT ps ts h1 d p (ownOf h1 ((ofI ps p).getD pa0)).1 (ownOf h1 ((ofI ps p).getD pa0)).2) r with
        | none => rw [e1, e2] at h; simp at h
        | some kr =>
          obtain ⟨kr', h3, h4, h5⟩ := ih kr e2
          rw [e1, e2] at h
          have h := Option.some.inj h
          subst h
          refine ⟨k' :: kr', by rw [hk1, h3], by simp [h4], by simp [preL, hk2, h5]⟩
   split at h
   · cases h
   · rename_i ks hks
     obtain ⟨ks', h3, h4, h5⟩ := hl _ ks hks
     rw [h3]
     simp only
     split at h
     · cases h
     · rename_i hm
       have h := Option.some.inj h
       subst h
       rw [h4, if_neg hm]
       exact ⟨_, rfl, by simp only [Tr.pre, h5]⟩
theorem tree_same {ps ts : List Pa} (h1 h2 : Int → Bool) (h : (treeT ps ts h1).isSome = true) : (treeT ps ts h2).isSome = true := by
 unfold treeT at h ⊢
 cases e : growT ps ts h1 (ps.length + 1) 0 0 1099511627776 with
 | none => rw [e] at h; cases h
 | some t =>
   obtain ⟨t', h3, h4⟩ := grow_same ps ts h1 h2 _ 0 0 1099511627776 0 1099511627776 t e
   rw [e] at h
   rw [h3]
   simp only at h ⊢
   rw [h4]
   split
   · rfl
   · rename_i hn; rw [if_neg hn] at h; cases h
theorem hasB_some (ids : List Int) : hasB false ids = fun i => ids.contains i := by funext i; simp [hasB]
def EndPost (w : World) (o : Option Int) (e : Ending) (w' : World) : Prop := e = .returned (.tuple #[.int .i64 (o.getD 0), .bool o.isSome]) ∧ Below w.heap.size w w'
theorem endPost_some {w w' : World} {o : Option Int} {v : Int} (h : o = some v) (hB : Below w.heap.size w w') : EndPost w o (.returned (.tuple #[.int .i64 v, .bool true])) w' := ⟨by rw [h]; rfl, hB⟩
theorem endPost_none {w w' : World} {o : Option Int} (h : o = none) (hB : Below w.heap.size w w') : EndPost w o (.returned (.tuple #[.int .i64 0, .bool false])) w' := ⟨by rw [h]; rfl, hB⟩
set_option maxRecDepth 100000 in
set_option maxHeartbeats 4000000 in
theorem end_any (ps ts : List Pa) (hmo : ManiOk ps ts) (hT : (treeT ps ts (fun _ => true)).isSome = true) (pack : Int) (hk : (ofI ps pack).isSome = true) (ids : List Int) (upper : Bool) (pa : Option Addr) (pn pc : Nat) (ta : Option Addr) (tn tc : Nat) (ia : Option Addr) (inn ic : Nat) (w : World)
 (hp : Rd Pa.vals 14 w pa pn ps) (ht : Rd Pa.vals 14 w ta tn ts) (hi : Rd ints 1 w ia inn ids) (lp : ∀ p, pa = some p → p.block < w.heap.size) (lt : ∀ p, ta = some p → p.block < w.heap.size) :
 Calls Tryz.prog 44 #[.agg #[.slice pa pn pc, .slice ta tn tc], .slice ia inn ic, .int .i64 pack, .bool upper] w (EndPost w (endM ps ts ids pack upper)) := by
 have hT2 := tree_same (fun _ => true) (fun i => ids.contains i) hT
 obtain ⟨t0, ht0⟩ := Option.isSome_iff_exists.1 hT2
 have hB0 := al' (Below.refl w.heap.size w) (.cells #[.slice pa pn pc, .slice ta tn tc] 62)
 have hz0 : (w.alloc (.cells #[.slice pa pn pc, .slice ta tn tc] 62)).heap.size = w.heap.size + 1 := by simp
 have hbm := BoxG.made w [.slice pa pn pc, .slice ta tn tc] 62
 have CT := Hd (tree_any ps ts ⟨hmo.packs, fun x hx => by have := (hmo.tt x hx).1; omega, by have := hmo.ln; omega⟩ ids false pa pn pc ta tn tc ia inn ic _ (hp.below' hB0) (ht.below' hB0) (hi.below' hB0) (fun p e => Nat.lt_of_lt_of_le (lp p e) hB0.size) (fun p e => Nat.lt_of_lt_of_le (lt p e) hB0.size))
 rw [hasB_some] at CT
 have hbd0 := tree_bd hmo _ ht0
 have hpk := tree_has hmo.packs ht0 hk
 obtain ⟨m0, m1, mf, ml⟩ := pair_facts hbm
 have HB0 := Hd hB0
 have CT2 := Hd (CT.out.mono (R' := fun e w' => ∃ t : Tr, t.sh = t0 ∧ e = .returned (.pointer (some ⟨t.b, 0, none⟩)) ∧ Below (w.heap.size + 1) (w.alloc (.cells #[.slice pa pn pc, .slice ta tn tc] 62)) w' ∧ TreeAt t.bs w' t ∧ t.bs.Nodup ∧ Bd t ∧ ∀ x ∈ t.bs, w.heap.size + 1 ≤ x) (by
  rintro e w' ⟨h1, ⟨h2, h3⟩ | ⟨t, h2, h3, h4, h5, h6⟩⟩
  · rw [ht0] at h2; cases h2
  · rw [ht0] at h2
    have h2 := (Option.some.inj h2).symm
    rw [hz0] at h1 h6
    exact ⟨t, h2, h3, h1, h4 [] (by simp), h5, Bd_sh t (by rw [h2]; exact hbd0), h6⟩))
 have HEnd := Hd (show endM ps ts ids pack upper = match solveT t0 with | none => none | some t => some (if upper then (nodeF (findT t pack)).endH else (nodeF (findT t pack)).endL) from by
  unfold endM; rw [ht0]; rfl)
 have HPk := Hd hpk
 clear hp ht hi lp lt hbm hB0 CT hT hT2 ht0 hbd0 hpk hmo hk
 go_enter Tryz.func44, Tryz.ntmps44
 go_upto_region 1 with (fail)
 generalize w.alloc (.cells #[.slice pa pn pc, .slice ta tn tc] 62) = w1 at *
 go_upto_region 2 with (go_at_call 56; refine CT2.out.mono ?_; rintro e w2 ⟨t, hsh, rfl, hB2, hta, htn, htb, htf⟩)
 have HSv := Hd (show solveT t0 = (solveT t).map Tr.sh from by rw [← hsh]; exact solveT_sh t)
 have HB2 := Hd (HB0.out.trans (hB2.mono (by omega)))
 have CS := Hd (solved_all t.bs t w2 hta htb htn)
 have HTf := Hd htf
 have hpk2 : pack ∈ t.pre.map (fun k => k.f.pack) := by rw [← pre_packs_sh, hsh]; exact HPk.out
 have HPt := Hd hpk2
 have HBd := Hd htb
 clear hB2 hta htn htb htf CT2 hpk2 HPk m0 m1 mf ml
 cases hS : solveT t with
 | none =>
   have HE := Hd (show endM ps ts ids pack upper = none from by rw [HEnd.out, HSv.out, hS]; rfl)
   have C2 := Hd (CS.out.mono (R' := fun e w' => e = .returned (.bool false) ∧ Keeps t.bs w2 w') (by
    rintro e w' ⟨h1, h2, h3⟩
    rw [hS] at h1; exact ⟨h1, h2⟩))
   clear hS CS HSv
   go_wp2_with (go_at_call 36; refine C2.out.mono ?_; rintro e w4 ⟨rfl, hk4⟩)
   exact bodyPost_ret (by simp [results, Tryz.results44, go_sem]) rfl (endPost_none HE.out (hk4.below_then HB2.out (fun x hx => by have := HTf.out x hx; omega) (Nat.le_refl _)))
 | some t2 =>
   obtain ⟨k, hk1, hk2, hk3⟩ := find_of_pack (t := t2) (pack := pack) (by rw [solve_packs hS]; exact HPt.out)
   have HE := Hd (show endM ps ts ids pack upper = some (if upper then k.f.endH else k.f.endL) from by
    rw [HEnd.out, HSv.out, hS]
    simp only [Option.map_some, findT_sh, hk1, nodeF, sh_f])
   have hsf := solve_facts HBd.out hS
   have C2 := Hd (CS.out.mono (R' := fun e w' => e = .returned (.bool true) ∧ Keeps t.bs w2 w' ∧ TreeAt t.bs w' t2) (by
    rintro e w' ⟨h1, h2, h3⟩
    rw [hS] at h1; exact ⟨h1, h2, h3 t2 hS⟩))
   have CF := Hd (show ∀ W, TreeAt t.bs W t2 → Calls Tryz.prog 34 #[.pointer (some ⟨t.b, 0, none⟩), .int .i64 pack] W fun e w' => e = .returned (.pointer (some ⟨k.b, 0, none⟩)) ∧ Below W.heap.size W w' from fun W hW => by
    have := find_all t.bs t2 pack W hW hsf.1
    rw [hsf.2.2, hk1] at this
    exact this)
   have HNd := Hd (show ∀ W, TreeAt t.bs W t2 → ∃ a n c, NodeAt W k.b k.f a n c from fun W hW => by
    obtain ⟨a, cap, hn, _⟩ := (hW.preMem k hk2).at
    exact ⟨a, _, cap, hn⟩)
   clear hS CS HSv hk1 hk2 hk3 hsf
   cases upper with
   | true =>
     go_wp2_with (first
      | (go_at_call 36; refine C2.out.mono ?_; rintro e w4 ⟨rfl, hk4, ht4⟩)
      | (go_at_call 34; refine (CF.out _ ht4).mono ?_; rintro e w5 ⟨rfl, hB5⟩; obtain ⟨na, nn, nc, hn5⟩ := HNd.out _ (ht4.below' hB5); have c24 := hn5.c24; have nl := hn5.lt))
     have hb4 := hk4.below_then HB2.out (fun x hx => by have := HTf.out x hx; omega) (Nat.le_refl _)
     exact bodyPost_ret (by simp [results, Tryz.results44, go_sem]) rfl (endPost_some HE.out (hb4.trans (hB5.mono hb4.size)))
   | false =>
     go_wp2_with (first
      | (go_at_call 36; refine C2.out.mono ?_; rintro e w4 ⟨rfl, hk4, ht4⟩)
      | (go_at_call 34; refine (CF.out _ ht4).mono ?_; rintro e w5 ⟨rfl, hB5⟩; obtain ⟨na, nn, nc, hn5⟩ := HNd.out _ (ht4.below' hB5); have c23 := hn5.c23; have nl := hn5.lt))
     have hb4 := hk4.below_then HB2.out (fun x hx => by have := HTf.out x hx; omega) (Nat.le_refl _)
     exact bodyPost_ret (by simp [results, Tryz.results44, go_sem]) rfl (endPost_some HE.out (hb4.trans (hB5.mono hb4.size)))
def growPa_ren : Go.Shelf.Ren := ⟨fun | 4 => 109 | n => n, fun | 22 => 22 | 25 => 42 | 3 => 3 | 4 => 4 | 9 => 9 | 20 => 20 | 0 => 0 | n => n, fun | n => n⟩
theorem growPa : Go.Proofs.Lays8.n4 Tryz.prog growPa_ren where
 mixed := by kernel_rfl
 f4 := ⟨"slices.Grow[[]lagan/api.Paper,lagan/api.Paper]", by decide, Tryz.func109.trans (congrArg some (by kernel_rfl))⟩
 t0 := Tryz.underlying0
 a0 := Tryz.isAgg0
 z0 := Tryz.sizeOf0
 v0 := Tryz.zeroValue0
 t3 := Tryz.underlying3
 a3 := Tryz.isAgg3
 z3 := Tryz.sizeOf3
 v3 := Tryz.zeroValue3
 t4 := Tryz.underlying4
 a4 := Tryz.isAgg4
 z4 := Tryz.sizeOf4
 v4 := Tryz.zeroValue4
 t9 := Tryz.underlying9
 a9 := Tryz.isAgg9
 z9 := Tryz.sizeOf9
 v9 := Tryz.zeroValue9
 t20 := Tryz.underlying20
 a20 := Tryz.isAgg20
 z20 := Tryz.sizeOf20
 v20 := Tryz.zeroValue20
 t22 := Tryz.underlying22
 a22 := Tryz.isAgg22
 z22 := Tryz.sizeOf22
 v22 := Tryz.zeroValue22
theorem own_zero {w : World} {cs : Array Value} {G : Nat} (hG : G ≤ maxLen) (hs : cs.size = G * 14) : (w.drew.alloc (.cells cs 42)).ownsRow w.heap.size 42 14 (.slice (some ⟨w.heap.size, 0, none⟩) 0 G) 0 [] :=
 ⟨rfl, .inr ⟨_, _, cs, rfl, Nat.le_refl _, heap_alloc_new w.drew _, Nat.zero_le _, hG, hs, by simp⟩⟩
theorem grow_any (n : Nat) (hn : n ≤ 1000000) (w : World) : Calls Tryz.prog 109 #[.slice none 0 0, .int .i64 n] w fun e w' => ∃ v, e = .returned v ∧ w'.ownsRow w.heap.size 42 14 v 0 [] ∧ Below w.heap.size w w' := by
 obtain ⟨i0, hi, hz0, hz1, hz2⟩ := info_parts info_pa
 by_cases h0 : n = 0
 · subst h0
   refine (Any8.slices_Grow_room growPa none 0 0 0 w (Nat.le_refl _) (by omega) (by omega) (Nat.le_refl _)).mono ?_
   rintro e w' ⟨rfl, rfl⟩
   exact ⟨_, rfl, World.ownsRow_nil _ _ _ _, Below.refl _ _⟩
 · refine (Any8.slices_Grow_grow growPa i0 _ hi hz0 (by rw [hz1]; decide) none 0 0 n [] w (Nat.le_refl _) (by omega) (by rw [hz2]; omega) (by omega) (by simp) (fun _ => rfl) (fun a e => by cases e)).mono ?_
   rintro e w' ⟨rfl, rfl⟩
   have hg := grownCap_ge w (0 + n) 0 42
   have hm := grownCap_le_maxLen w (0 + n) 0 42 (by unfold maxLen; omega)
   refine ⟨_, rfl, own_zero hm ?_, al' (dr' (Below.refl w.heap.size w)) _⟩
   have hgr : growPa_ren.t 25 = 42 := rfl
   rw [hgr]
   simp only [Nat.zero_add] at hg hm ⊢
   simp [Builtin.zeroCells, Value.cells]
   omega
theorem run_append_pa {w : World} {base : Nat} {v : Value} {xs ys : List Pa} (hown : w.ownsRow base 42 14 v xs.length (xs.flatMap Pa.vals)) {a : Option Addr} {n cap : Nat} (hr : Rd Pa.vals 14 w a n ys) (hb : xs.length + n ≤ 1000000) (hbase : base ≤ w.heap.size) (ty : TypeId) :
 ∃ v' w', (Builtin.append_ #[22, 22] ty #[v, .slice a n cap]).run Tryz.prog w = .ok v' w' ∧ w'.ownsRow base 42 14 v' (xs ++ ys).length ((xs ++ ys).flatMap Pa.vals) ∧ w.grownBy w' v.ownBlock := by
 obtain ⟨i0, hi, hz0, hz1, hz2⟩ := info_parts info_pa
 cases a with
 | none =>
   obtain ⟨rfl, rfl⟩ := hr.nil_of
   refine ⟨v, w, ?_, by simpa using hown, World.grownBy.refl _ _⟩
   rcases hown.2 with ⟨rfl, _⟩ | ⟨g, cap', cur, rfl, _, _, hnc, _⟩
   · simp [Builtin.append_, run_underlying Tryz.underlying22, sizeOf, typeInfo, hi, Builtin.lenOf, Builtin.firstCells]
   · simp [Builtin.append_, run_underlying Tryz.underlying22, sizeOf, typeInfo, hi, Builtin.lenOf, Builtin.firstCells, hnc, storeCells]
 | some ad =>
   obtain ⟨v', w', h1, h2, h3, _⟩ := run_append_own (P := Tryz.prog) (w := w) base 22 ty 42 i0 _ 14 128 Tryz.underlying22 hi hz0 hz1 hz2 rfl (by decide) v xs.length _ hown ad n cap (ys.flatMap Pa.vals)
    (by rw [flat_length Pa.vals_length, hr.len]) (fun j u hj => Rd.news hr Pa.vals_length j u hj) (pa_one ys) (by unfold maxLen; omega) (by omega) hbase
   exact ⟨v', w', h1, by rw [List.length_append, hr.len, List.flatMap_append]; exact h2, h3⟩
set_option maxRecDepth 100000 in
set_option maxHeartbeats 4000000 in
theorem concat_any (R : Nat) (pa : Option Addr) (pn pc : Nat) (ta : Option Addr) (tn tc : Nat) (ps ts : List Pa) (w : World) (hp : Rd Pa.vals 14 w pa pn ps) (ht : Rd Pa.vals 14 w ta tn ts) (hn : pn ≤ 1000) (hm : tn ≤ 1000)
 (r0 : w.cell? ⟨R, 0, none⟩ = some (.slice pa pn pc)) (r1 : w.cell? ⟨R, 1, none⟩ = some (.slice ta tn tc)) :
 Calls Tryz.prog 78 #[.slice (some ⟨R, 0, none⟩) 2 2] w fun e w' => ∃ v, e = .returned v ∧ w'.ownsRow w.heap.size 42 14 v (ps ++ ts).length ((ps ++ ts).flatMap Pa.vals) ∧ Below w.heap.size w w' := by
 have hR := World.block_lt_of_cell? _ _ r0
 have HP := Hd hp
 have HT := Hd ht
 have H0 := Hd r0
 have H1 := Hd r1
 have hpl := hp.len
 have htl := ht.len
 have HPl := Hd hpl
 have HTl := Hd htl
 clear hp ht hpl htl
 go_enter Tryz.func78, Tryz.ntmps78
 go_wp2_with fail
 go_loopw [3, 11] (fun sz i wr => ∃ k : Nat, k ≤ 2 ∧ i = .int .i64 k ∧ sz = .int .i64 ((if k = 0 then 0 else if k = 1 then pn else pn + tn : Nat) : Int) ∧ wr = w) (fun _ i _ => 2 - (intOf i).toNat)
 case atStart => exact ⟨0, Nat.zero_le _, rfl, rfl, rfl⟩
 case round =>
  obtain ⟨k, hk, rfl, rfl, hw⟩ := hrel
  have hw := hw.symm
  subst hw
  obtain rfl | rfl | rfl : k = 0 ∨ k = 1 ∨ k = 2 := by omega
  · go_wp2_with fail
    exact ⟨⟨1, by omega, by go_num, by simp, trivial⟩, by simp [intOf]⟩
  · have hge : ¬ ((pn : Int) + (tn : Int) < 0) := by omega
    simp only [Nat.one_ne_zero, if_false, if_true]
    go_wp2_with fail
    exact ⟨⟨2, by omega, by go_num, by simp, trivial⟩, by simp [intOf]⟩
  · simp only [show ¬ (2 : Nat) = 0 from by omega, show ¬ (2 : Nat) = 1 from by omega, if_false]
    have hge : ¬ ((pn : Int) + (tn : Int) < 0) := by omega
    have CG := Hd (grow_any (pn + tn) (by omega) w)
    rw [Int.natCast_add] at CG
    rw [Int.natCast_add]
    go_wp2_with (go_at_call 109; refine CG.out.mono ?_; rintro e w2 ⟨v2, rfl, hrow2, hB2⟩)
    have HRow2 := Hd hrow2
    have HB2 := Hd hB2
    clear hrow2 hB2 CG
    go_loopw [6, 27] (fun v i w3 => ∃ k : Nat, k ≤ 2 ∧ i = .int .i64 k ∧ w3.ownsRow w.heap.size 42 14 v (if k = 0 then [] else if k = 1 then ps else ps ++ ts).length ((if k = 0 then [] else if k = 1 then ps else ps ++ ts).flatMap Pa.vals) ∧ Below w.heap.size w w3) (fun _ i _ => 2 - (intOf i).toNat)
    case atStart => exact ⟨0, Nat.zero_le _, rfl, HRow2.out, HB2.out⟩
    case round =>
     obtain ⟨k, hk, rfl, hrow, hB⟩ := hrel
     have HB := Hd hB
     have d0 := cell_stays H0.out hB
     have d1 := cell_stays H1.out hB
     have dl := World.block_lt_of_cell? _ _ d0
     obtain rfl | rfl | rfl : k = 0 ∨ k = 1 ∨ k = 2 := by omega
     · simp only [if_true] at hrow
       obtain ⟨v', w', hrun, hrow', hg'⟩ := run_append_pa (cap := pc) hrow (HP.out.below' hB) (by simp; omega) hB.size 22
       have HRow' := Hd hrow'
       have HB' := Hd (HB.out.grown hg' hB.size (fun j e => (hrow.lt j e).1))
       clear hrow hrow' hg' hB
       go_wp2_with (at_builtin; refine Lib.wpList_append_run _ rfl _ _ _ _ rfl _ _ rfl rfl _ _ hrun ?_)
       exact ⟨⟨1, by omega, by go_num, HRow'.out, HB'.out⟩, by simp [intOf]⟩
     · simp only [Nat.one_ne_zero, if_false, if_true] at hrow
       obtain ⟨v', w', hrun, hrow', hg'⟩ := run_append_pa (cap := tc) hrow (HT.out.below' hB) (by rw [HPl.out]; omega) hB.size 22
       have HRow' := Hd hrow'
       have HB' := Hd (HB.out.grown hg' hB.size (fun j e => (hrow.lt j e).1))
       clear hrow hrow' hg' hB
       go_wp2_with (at_builtin; refine Lib.wpList_append_run _ rfl _ _ _ _ rfl _ _ rfl rfl _ _ hrun ?_)
       exact ⟨⟨2, by omega, by go_num, HRow'.out, HB'.out⟩, by simp [intOf]⟩
     · simp only [show ¬ (2 : Nat) = 0 from by omega, show ¬ (2 : Nat) = 1 from by omega, if_false] at hrow
       have HRow' := Hd hrow
       clear hrow hB
       go_wp2_with fail
       refine bodyPost_ret (results_tmp rfl _ _ _) rfl ⟨_, rfl, ?_, HB.out⟩
       simpa using HRow'.out
set_option maxRecDepth 100000 in
theorem ids1_any (x y : Pa) (B : Nat) (w : World) (h : BoxG w B x.vals) :
 Calls Tryz.prog 80 #[.agg #[.int .i64 y.id, .int .i64 y.known, .int .u8 y.kind, .int .i64 y.loss, .int .i64 y.pack, .int .i64 y.inn, .string ⟨y.mark.toArray⟩, .string ⟨y.goods.toArray⟩, .int .i64 y.low, .int .i64 y.high, .int .i64 y.pieces, .int .i64 y.owner, .int .i64 y.count, .int .i64 y.of], .pointer (some ⟨B, 0, none⟩)] w fun e w' => e = .returned (.bool (decide (y.id = x.id))) ∧ Below w.heap.size w w' := by
 have HB := Hd (al' (Below.refl w.heap.size w) (.cells #[.int .i64 y.id, .int .i64 y.known, .int .u8 y.kind, .int .i64 y.loss, .int .i64 y.pack, .int .i64 y.inn, .string ⟨y.mark.toArray⟩, .string ⟨y.goods.toArray⟩, .int .i64 y.low, .int .i64 y.high, .int .i64 y.pieces, .int .i64 y.owner, .int .i64 y.count, .int .i64 y.of] 42))
 have hlt := h.1
 obtain ⟨c0, c1, c2, c3, c4, c5, c6, c7, c8, c9, c10, c11, c12, c13⟩ := h.pa
 clear h
 by_cases h0 : y.id = x.id
 case neg =>
  have q0 : (y.id == x.id) = false := by simpa using h0
  have e0 : decide (y.id = x.id) = false := by simp [h0]
  rw [e0]
  clear h0 e0
  go_enter Tryz.func80, Tryz.ntmps80
  go_wp2_with fail
  go_ret
  exact ⟨rfl, HB.out⟩
 have q0 : (y.id == x.id) = true := by simpa using h0
 have e0 : decide (y.id = x.id) = true := by simp [h0]
 rw [e0]
 clear h0 e0
 go_enter Tryz.func80, Tryz.ntmps80
 go_wp2_with fail
 go_ret
 exact ⟨rfl, HB.out⟩
def idsB (all : List Pa) (x : Pa) : Bool := all.any (fun y => decide (y.id = x.id))
def idsA (all l : List Pa) : List Int := (l.filter (idsB all)).map (·.id)
theorem idsA_eq (ps ts l : List Pa) : idsM ps ts l = idsA (ps ++ ts) l := rfl
theorem idsA_yes {all xs : List Pa} {k : Nat} {x : Pa} (hx : xs[k]? = some x) (h : idsB all x = true) : idsA all (xs.take (k + 1)) = idsA all (xs.take k) ++ [x.id] := by
 unfold idsA; rw [take_succ_snoc hx, List.filter_append, List.map_append]; simp [h]
theorem idsA_no {all xs : List Pa} {k : Nat} {x : Pa} (hx : xs[k]? = some x) (h : idsB all x = false) : idsA all (xs.take (k + 1)) = idsA all (xs.take k) := by
 unfold idsA; rw [take_succ_snoc hx, List.filter_append, List.map_append]; simp [h]
theorem idsA_len (all xs : List Pa) : (idsA all xs).length ≤ xs.length := by
 unfold idsA; rw [List.length_map]; exact List.length_filter_le _ _
set_option maxRecDepth 100000 in
set_option maxHeartbeats 4000000 in
theorem ids_any (pa : Option Addr) (pn pc : Nat) (ta : Option Addr) (tn tc : Nat) (ps ts : List Pa) (a : Option Addr) (n cap : Nat) (xs : List Pa) (w : World) (hp : Rd Pa.vals 14 w pa pn ps) (ht : Rd Pa.vals 14 w ta tn ts) (h : Rd Pa.vals 14 w a n xs) (hpn : pn ≤ 1000) (htn : tn ≤ 1000) (hn : n ≤ 1000) :
 Calls Tryz.prog 43 #[.agg #[.slice pa pn pc, .slice ta tn tc], .slice a n cap] w fun e w' => ∃ v, e = .returned v ∧ w'.ownsRow w.heap.size 3 1 v (idsM ps ts xs).length ((idsM ps ts xs).flatMap ints) ∧ Below w.heap.size w w' := by
 obtain ⟨j0, hj0, hy0, hy1, hy2⟩ := info_parts info_int
 rw [idsA_eq]
 have hB0 := al' (al' (Below.refl w.heap.size w) (.cells #[.slice pa pn pc, .slice ta tn tc] 62)) (.cells #[.slice pa pn pc, .slice ta tn tc] 22)
 have hz1 : (w.alloc (.cells #[.slice pa pn pc, .slice ta tn tc] 62)).heap.size = w.heap.size + 1 := by simp
 have hbm := BoxG.made w [.slice pa pn pc, .slice ta tn tc] 62
 have hbr := BoxG.made (w.alloc (.cells #[.slice pa pn pc, .slice ta tn tc] 62)) [.slice pa pn pc, .slice ta tn tc] 22
 rw [hz1] at hbr
 obtain ⟨m0, m1, mf, ml⟩ := pair_facts hbm
 obtain ⟨q0, q1, qf, ql⟩ := pair_facts hbr
 have CC := Hd (concat_any (w.heap.size + 1) pa pn pc ta tn tc ps ts _ (hp.below' hB0) (ht.below' hB0) hpn htn q0 q1)
 have HRx := Hd (h.below' hB0)
 have HB0 := Hd hB0
 have Hl := Hd h.len
 have HPTl := Hd (show (ps ++ ts).length ≤ 2000 from by rw [List.length_append, hp.len, ht.len]; omega)
 clear h hp ht hB0 hbm hbr q0 q1 qf ql
 obtain ⟨AL, hAL⟩ : ∃ A, ps ++ ts = A := ⟨_, rfl⟩
 rw [hAL] at CC HPTl ⊢
 clear hAL
 go_enter Tryz.func43, Tryz.ntmps43
 go_upto_region 3 with (go_at_call 78; refine CC.out.mono ?_; rintro e w1 ⟨v1, rfl, hrow1, hB1⟩)
 obtain ⟨aa, ac, rfl, hac, hrA, hbA⟩ := Rd.of_own hrow1 Pa.vals_length (by decide) rfl (by have := HPTl.out; unfold maxLen; omega)
 have HRA := Hd hrA
 have HB1 := Hd (HB0.out.trans (hB1.mono HB0.out.size))
 have HR1 := Hd (HRx.out.below' hB1)
 clear m0 m1 mf ml hrow1 hB1 hrA hbA CC HRx HB0
 go_wp2_with fail
 go_loopw [5, 17] (fun v i wr => ∃ k : Nat, k ≤ n ∧ i = .int .i64 k ∧ wr.ownsRow w1.heap.size 3 1 v (idsA AL (xs.take k)).length ((idsA AL (xs.take k)).flatMap ints) ∧ Below w1.heap.size w1 wr) (fun _ i _ => n - (intOf i).toNat)
 case atStart => exact ⟨0, Nat.zero_le _, rfl, World.ownsRow_nil _ _ _ _, Below.refl _ _⟩
 case round =>
  obtain ⟨k, hk, rfl, hrow, hB⟩ := hrel
  have h1 := HR1.out.below' hB
  have HB := Hd hB
  have HRow := Hd hrow
  have HRA2 := Hd (HRA.out.below' hB)
  clear hB hrow
  by_cases hlt : k < n
  · have hlt' : (k : Int) < (n : Int) := by omega
    obtain ⟨b, off, x, rfl, hb, hx, c0, c1, c2, c3, c4, c5, c6, c7, c8, c9, c10, c11, c12, c13⟩ := h1.pa hlt
    have Hx := Hd hx
    clear hx h1
    go_upto_region 6 with (fail)
    have hBx := al' (Below.refl wr.heap.size wr) (.cells #[.int .i64 x.id, .int .i64 x.known, .int .u8 x.kind, .int .i64 x.loss, .int .i64 x.pack, .int .i64 x.inn, .string ⟨x.mark.toArray⟩, .string ⟨x.goods.toArray⟩, .int .i64 x.low, .int .i64 x.high, .int .i64 x.pieces, .int .i64 x.owner, .int .i64 x.count, .int .i64 x.of] 42)
    have hbx := BoxG.made wr x.vals 42
    simp only [Pa.vals] at hbx
    have HB2 := Hd (HB.out.trans (hBx.mono HB.out.size))
    have HRow2 := Hd (own_later' HRow.out hBx)
    have hra := HRA2.out.below' hBx
    clear c0 c1 c2 c3 c4 c5 c6 c7 c8 c9 c10 c11 c12 c13 hBx
    generalize wr.alloc (.cells #[.int .i64 x.id, .int .i64 x.known, .int .u8 x.kind, .int .i64 x.loss, .int .i64 x.pack, .int .i64 x.inn, .string ⟨x.mark.toArray⟩, .string ⟨x.goods.toArray⟩, .int .i64 x.low, .int .i64 x.high, .int .i64 x.pieces, .int .i64 x.owner, .int .i64 x.count, .int .i64 x.of] 42) = w2 at *
    obtain ⟨B2, hB2⟩ : ∃ B, wr.heap.size = B := ⟨_, rfl⟩
    rw [hB2] at hbx ⊢
    have CH := Hd (having_any 80 #[.pointer (some ⟨B2, 0, none⟩)] (fun _ _ => rfl) (fun y => decide (y.id = x.id)) aa AL.length ac AL w2 hra (fun W y _ hW => ids1_any x y B2 W (hbx.below' hW)))
    have Hbx := Hd hbx
    have HI := Hd (show decide (0 ≤ idxP (fun y : Pa => decide (y.id = x.id)) AL) = idsB AL x from idxP_neg _ _)
    clear hra hbx hB2 HB HRow HRA2
    have hlk : (idsA AL (xs.take k)).length ≤ 1000 := Nat.le_trans (idsA_len _ _) (by rw [List.length_take]; omega)
    cases hp : idsB AL x with
    | true =>
      have hge : (0 : Int) ≤ idxP (fun y : Pa => decide (y.id = x.id)) AL := by have := HI.out; rw [hp] at this; simpa using this
      have HS := Hd (idsA_yes Hx.out hp)
      obtain ⟨NS, hNS⟩ : ∃ N, idsA AL (xs.take k) = N := ⟨_, rfl⟩
      rw [hNS] at HRow2 HS hlk
      obtain ⟨ix, hix⟩ : ∃ N, idxP (fun y : Pa => decide (y.id = x.id)) AL = N := ⟨_, rfl⟩
      rw [hix] at hge CH
      clear hp hNS HI hix
      go_wp2_with (first
       | (go_at_call 79; refine CH.out.mono ?_; rintro e w4 ⟨rfl, hB4⟩; have HB4 := Hd hB4; obtain ⟨c0, c1, c2, c3, c4, c5, c6, c7, c8, c9, c10, c11, c12, c13⟩ := BoxG.pa (x := x) (Hbx.out.below' hB4); have HRow4 := Hd (own_later' HRow2.out hB4); clear hB4)
       | (at_builtin; go_loud (refine wpList_append_own _ rfl _ _ 43 rfl w1.heap.size 3 j0 _ 1 8 Tryz.underlying43 hj0 hy0 hy1 hy2 rfl (by decide) _ _ _ rfl (HRow4.out.alloc _) ⟨w4.heap.size, 0, none⟩ 1 1 (ints x.id) rfl rfl (cell_one_new _ _ _) (by simp [ints, Value.oneCell']) (by unfold maxLen; omega) (by omega) (Nat.le_trans HB2.out.size (Nat.le_trans HB4.out.size (by simp))) ?_; intro v9 w9 hown9 hgrow9 _)))
      have HB24 : Below w1.heap.size w1 w4 := HB2.out.trans (HB4.out.mono HB2.out.size)
      have HB9 := Hd ((HB24.alloc HB24.size (.cells #[.int .i64 x.id] 3)).grown hgrow9 (Nat.le_trans HB24.size (by simp)) (fun j e => (HRow4.out.lt j e).1))
      have HO9 := Hd (own_int_next hown9)
      clear hown9 hgrow9
      go_wp2_with fail
      exact ⟨⟨k + 1, by omega, by go_num, by rw [HS.out]; exact HO9.out, HB9.out⟩, by simp [intOf]; omega⟩
    | false =>
      have hge : ¬ (0 : Int) ≤ idxP (fun y : Pa => decide (y.id = x.id)) AL := by have := HI.out; rw [hp] at this; simpa using this
      have HS := Hd (idsA_no Hx.out hp)
      obtain ⟨ix, hix⟩ : ∃ N, idxP (fun y : Pa => decide (y.id = x.id)) AL = N := ⟨_, rfl⟩
      rw [hix] at hge CH
      clear hp HI hix
      go_wp2_with (go_at_call 79; refine CH.out.mono ?_; rintro e w4 ⟨rfl, hB4⟩)
      exact ⟨⟨k + 1, by omega, by go_num, by rw [HS.out]; exact own_later' HRow2.out hB4, HB2.out.trans (hB4.mono HB2.out.size)⟩, by simp [intOf]; omega⟩
  · have hltg : ¬ (k : Int) < (n : Int) := by omega
    have HW := Hd (show xs.take k = xs from List.take_of_length_le (by rw [Hl.out]; omega))
    rw [HW.out] at HRow
    clear hlt h1
    go_wp2_with fail
    go_ret
    exact ⟨_, rfl, ownsRow_mono HRow.out HB1.out.size, HB1.out.trans (HB.out.mono HB1.out.size)⟩
end Go.Proofs.YtehplmeckfinoaaGreatDoor
