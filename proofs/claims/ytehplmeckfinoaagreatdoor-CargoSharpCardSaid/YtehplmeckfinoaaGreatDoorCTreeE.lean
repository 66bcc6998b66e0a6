/- What of trees the reference and the package say alike: the plain law; few papers. -/
import Derived.Test.YtehplmeckfinoaaGreatDoorCAlive
import Derived.Test.YtehplmeckfinoaaGreatDoorCROf
set_option linter.unusedSimpArgs false
set_option linter.unusedVariables false
namespace Go.Proofs.YtehplmeckfinoaaGreatDoor
open Go.RowKit Go.Shelf
def treeE (e : Int) (PS TS : List Pa) : Int := if e = 0 then (if treeRB PS TS then 0 else 11) else e
def pathRV (l : List Pa) (known loss pack : Int) : List Int :=
 if treeE (paperE l known loss pack) (papersO l known loss) (totalsO l known loss) = 0 then (wayR (papersO l known loss) 201 pack []).getD [] else []
theorem counts_ok {l : List Pa} {known loss : Int} : ∀ t ∈ totalsO l known loss, 0 ≤ t.count ∧ t.count ≤ 1000 := by
 intro t ht
 have := (papersO_ok (l := l) (known := known) (loss := loss)).tt t ht
 omega
def missE (l : List Pa) (known loss pack : Int) : Int := if pack = 0 then openE l loss else paperE l known loss pack
def missRV (l : List Pa) (known loss pack : Int) : Int :=
 if treeE (missE l known loss pack) (papersO l known loss) (totalsO l known loss) = 0 then missR (papersO l known loss) (totalsO l known loss) pack else 0
theorem paperE_bad {l : List Pa} {known loss pack : Int} (h : ¬ openE l loss = 0) : paperE l known loss pack = openE l loss := by unfold paperE; rw [if_neg h]
theorem root_is {l : List Pa} {known loss pack : Int} {b : Bool} {E : Int} (h : openE l loss = 0 → E = if b then 0 else 5) (h2 : ¬ openE l loss = 0 → E = openE l loss) :
 rootE l known loss b = treeE E (papersO l known loss) (totalsO l known loss) := by
 by_cases h0 : openE l loss = 0
 · obtain ⟨p1, p2⟩ := open_some (known := known) h0
   rw [h h0, p1, p2]
   unfold rootE treeE
   rw [if_pos h0, tree_iff (mani_ok (check_good (open_check h0)).1 known loss) totals_in]
   cases b <;> simp
 · rw [rootE_bad h0, h2 h0]
   unfold treeE
   rw [if_neg h0]
theorem rootP_is (l : List Pa) (known loss pack : Int) : rootE l known loss (hasP l known loss pack) = treeE (paperE l known loss pack) (papersO l known loss) (totalsO l known loss) :=
 root_is (pack := pack) (fun h0 => by unfold paperE hasP; rw [if_pos h0, (open_some (known := known) h0).1]) (fun h0 => paperE_bad h0)
theorem rootM_is (l : List Pa) (known loss pack : Int) : rootE l known loss (missB l known loss pack) = treeE (missE l known loss pack) (papersO l known loss) (totalsO l known loss) :=
 root_is (pack := pack) (fun h0 => by
  unfold missE missB
  by_cases hp : pack = 0
  · rw [if_pos hp, h0]; simp [hp]
  · rw [if_neg hp]; unfold paperE hasP; rw [if_pos h0, (open_some (known := known) h0).1]; simp [hp]) (fun h0 => by
  unfold missE; rw [paperE_bad h0]; split <;> rfl)
theorem rootE_zero {l : List Pa} {known loss : Int} {b : Bool} (h : rootE l known loss b = 0) : openE l loss = 0 ∧ b = true ∧ ∃ t, rootT l known loss = some t := by
 by_cases h0 : openE l loss = 0
 · cases b with
   | false => rw [rootE_none h0] at h; cases h
   | true =>
     rw [rootE_tree h0] at h
     cases e : rootT l known loss with
     | none => rw [e] at h; cases h
     | some t => exact ⟨h0, rfl, t, rfl⟩
 · rw [rootE_bad h0] at h; exact absurd h h0
theorem path_is (l : List Pa) (known loss pack : Int) : pathV l known loss pack = pathRV l known loss pack := by
 unfold pathV pathRV
 rw [← rootP_is]
 by_cases h : rootE l known loss (hasP l known loss pack) = 0
 · rw [if_pos h, if_pos h]
   obtain ⟨h0, hh, t, ht⟩ := rootE_zero h
   have hmo := mani_ok (check_good (open_check h0)).1 known loss
   have hp := hmo.packs
   have hm := tree_has hp (show treeT (papersL l known loss) (totalsL l known loss) (fun _ => true) = some t from ht) (pack := pack) hh
   obtain ⟨c, hc⟩ := tree_chain hp ht hm
   have hl := hc.len hp
   simp only [List.length_cons] at hl
   have := hmo.ln
   rw [(open_some (known := known) h0).1, chain_way hp 201 300 pack c [] hc (by omega) (by omega)]
   rfl
 · rw [if_neg h, if_neg h]
theorem miss_is (l : List Pa) (known loss pack : Int) : missV l known loss pack = missRV l known loss pack := by
 unfold missV missRV
 rw [← rootM_is]
 by_cases h : rootE l known loss (missB l known loss pack) = 0
 · rw [if_pos h, if_pos h]
   obtain ⟨h0, hh, t, ht⟩ := rootE_zero h
   obtain ⟨p1, p2⟩ := open_some (known := known) h0
   rw [p1, p2]
   have hmo := mani_ok (check_good (open_check h0)).1 known loss
   have hp := hmo.packs
   have hg := tree_grown ht
   unfold missP
   rw [ht]
   simp only
   by_cases hz : pack = 0
   · rw [if_pos hz, hz, hg.1.miss.1, hg.2.1]
   · rw [if_neg hz]
     unfold missB at hh
     rw [decide_eq_false hz, Bool.false_or] at hh
     have hm := tree_has hp (show treeT (papersL l known loss) (totalsL l known loss) (fun _ => true) = some t from ht) (pack := pack) hh
     obtain ⟨k, hk, hkm, hkp⟩ := find_of_pack hm
     rw [hk]
     simp only [nodeF]
     rw [(grown_pre t hg.1 k hkm).1.miss.1, hkp]
 · rw [if_neg h, if_neg h]
theorem leaves_is (l : List Pa) (known loss : Int) : leavesV l known loss = leavesA (papersO l known loss) (totalsO l known loss) (papersO l known loss) := by
 unfold leavesV
 by_cases h0 : openE l loss = 0
 · obtain ⟨p1, p2⟩ := open_some (known := known) h0
   rw [if_pos h0, p1, p2, leaves_eq]
 · obtain ⟨p1, p2⟩ := open_none (known := known) h0
   rw [if_neg h0, p1]; rfl
theorem lfew_any (a : Option Addr) (n cap : Nat) (xs : List Pa) (w : World) (h : Rd Pa.vals 14 w a n xs) :
 Calls Tryz.prog 5 #[.slice a n cap] w fun e w' => e = .returned (.bool (fewB xs 30)) ∧ w' = w := by
 have CF := Hd (rfew_any a n cap xs 30 w h)
 clear h
 obtain ⟨F, hF⟩ : ∃ F, fewB xs 30 = F := ⟨_, rfl⟩
 rw [hF] at CF ⊢
 clear hF
 go_enter Tryz.func5, Tryz.ntmps5
 go_wp2_with fail
 refine CF.out.mono ?_
 rintro e w2 ⟨rfl, rfl⟩
 go_wp2_with fail
 go_ret
 exact ⟨rfl, rfl⟩
theorem rd_own {w w' : World} {v : Value} {L : List Int} (h : w'.ownsRow w.heap.size 3 1 v L.length (L.flatMap ints)) (hl : L.length ≤ 1000) : ∃ a n c, v = .slice a n c ∧ Rd ints 1 w' a n L := by
 obtain ⟨a, c, rfl, _, hr, _⟩ := Rd.of_own h ints_length (by decide) rfl (by unfold maxLen; omega)
 exact ⟨a, _, c, rfl, hr⟩
def NumsPost (w : World) (L : List Int) (e : Ending) (w' : World) : Prop := ∃ a n c, e = .returned (.slice a n c) ∧ Rd ints 1 w' a n L ∧ Below w.heap.size w w'
theorem nums_post {w w' : World} {L : List Int} {e : Ending} (hl : L.length ≤ 1000) (h : ∃ v, e = .returned v ∧ w'.ownsRow w.heap.size 3 1 v L.length (L.flatMap ints) ∧ Below w.heap.size w w') : NumsPost w L e w' := by
 obtain ⟨v, rfl, ho, hB⟩ := h
 obtain ⟨a, n, c, rfl, hr⟩ := rd_own ho hl
 exact ⟨a, n, c, rfl, hr, hB⟩
theorem pathP_len (ps : List Pa) : ∀ (d : Nat) (p : Int) (acc : List Int), (pathP ps d p acc).length ≤ acc.length + d
 | 0, p, acc => Nat.le_refl _
 | d + 1, p, acc => by
   unfold pathP
   split
   · omega
   · have := pathP_len ps d (((ofI ps p).getD pa0).inn) (p :: acc)
     simp only [List.length_cons] at this
     omega
theorem pathV_len (l : List Pa) (known loss pack : Int) : (pathV l known loss pack).length ≤ 1000 := by
 unfold pathV
 split
 · have := pathP_len (papersL l known loss) 300 pack []
   simp only [List.length_nil] at this
   omega
 · simp
end Go.Proofs.YtehplmeckfinoaaGreatDoor
