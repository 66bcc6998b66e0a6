/- The walk of the reference's without. -/
import Derived.Test.YtleiapljnjaloaaGreatDoorCAppend
import Derived.Test.YtleiapljnjaloaaGreatDoorCPathP
import Derived.Test.YtleiapljnjaloaaGreatDoorCLeftP
import Derived.Test.YtleiapljnjaloaaGreatDoorCROf
import Derived.Test.YtleiapljnjaloaaGreatDoorCCheckD
import Derived.Test.YtleiapljnjaloaaGreatDoorCRRight
set_option linter.unusedSimpArgs false
set_option linter.unusedVariables false
namespace Go.Proofs.YtleiapljnjaloaaGreatDoor
open Go.RowKit Go.Shelf
theorem drop_without_r {w : World} {b off n : Nat} {xs : List Int} (h : Rd ints 1 w (some ⟨b, off, none⟩) n xs) {m : Nat} (hm : m ≤ n) : Rd ints 1 w (some ⟨b, off + m * 1, none⟩) (n - m) (xs.drop m) :=
 ⟨by have := h.len; simp; omega, by have := h.cap; omega, fun i hi => by
  obtain ⟨b', off', x, he, hlt, hx, hc⟩ := h.read (m + i) (by omega)
  cases he
  refine ⟨b, off + m * 1, x, rfl, hlt, by rw [List.getElem?_drop]; exact hx, fun j hj => ?_⟩
  have := hc j hj
  rw [Nat.add_mul] at this
  rw [← this]
  congr 2
  omega⟩
set_option maxRecDepth 100000 in
set_option maxHeartbeats 4000000 in
theorem without_r (b off n cap : Nat) (xs : List Int) (i : Nat) (w : World) (h : Rd ints 1 w (some ⟨b, off, none⟩) n xs) (hi : i < n) (hn : n ≤ 1000) (hcap : n ≤ cap) :
 Calls Tryz.prog 61 #[.slice (some ⟨b, off, none⟩) n cap, .int .i64 i] w fun e w' => ∃ v, e = .returned v ∧ w'.ownsRow w.heap.size 3 1 v (xs.eraseIdx i).length ((xs.eraseIdx i).flatMap ints) ∧ Below w.heap.size w w' := by
 obtain ⟨j0, hj0, hy0, hy1, hy2⟩ := info_parts info_int
 have hl := h.len
 have HT := Hd (h.take (m := i) (by omega))
 have HD := Hd (drop_without_r h (m := i + 1) (by omega))
 have HE := Hd (show (xs.take i).flatMap ints ++ (xs.drop (i + 1)).flatMap ints = (xs.eraseIdx i).flatMap ints from by rw [List.eraseIdx_eq_take_drop_succ, List.flatMap_append])
 have HL := Hd (show i + (n - (i + 1)) = (xs.eraseIdx i).length from by rw [List.length_eraseIdx, if_pos (by omega)]; omega)
 have hlT : (xs.take i).length = i := by rw [List.length_take]; omega
 have hlD : (xs.drop (i + 1)).length = n - (i + 1) := by rw [List.length_drop]; omega
 have HlT := Hd (show ((xs.take i).flatMap ints).length = i * 1 from by rw [flat_length ints_length, hlT])
 have HlD := Hd (show ((xs.drop (i + 1)).flatMap ints).length = (n - (i + 1)) * 1 from by rw [flat_length ints_length, hlD])
 obtain ⟨LT, hLT⟩ : ∃ l, xs.take i = l := ⟨_, rfl⟩
 obtain ⟨LD, hLD⟩ : ∃ l, xs.drop (i + 1) = l := ⟨_, rfl⟩
 rw [hLT] at HT HE HlT
 rw [hLD] at HD HE HlD
 have g0 : (i : Int) ≤ (cap : Int) := by omega
 have g1 : (i : Int) + 1 ≤ (n : Int) := by omega
 have g2 : (n : Int) ≤ (cap : Int) := by omega
 have hin : (i : Int) < (n : Int) := by omega
 have g3 : (0 : Int) ≤ (i : Int) := by omega
 have g4 : (0 : Int) ≤ (i : Int) + 1 := by omega
 have gw : IntKind.i64.wrap ((i : Int) + 1) = (i : Int) + 1 := by rw [IntKind.wrap_i64]; omega
 have hBa := (drewN_below w 1).alloc (Nat.le_refl _) (.cells #[] 3)
 have HBa := Hd hBa
 clear h hl hlT hlD hLT hLD hBa
 by_cases hcz : cap = i + 1
 · have HL0 := Hd (show LD.flatMap ints = [] from List.eq_nil_of_length_eq_zero (by rw [HlD.out]; omega))
   have HC := Hd hcz
   clear hcz
   go_enter Tryz.func61, Tryz.ntmps61
   go_wp2_with fail
   go_region_held3 (fun _ => True)
    (first | trivial | go_keep)
    (first
      | (refine step_append_own' _ rfl _ _ _ rfl w.heap.size 3 j0 _ 1 8 Tryz.underlying34 hj0 hy0 hy1 hy2 rfl (by omega) v3 (0 + i) ([] ++ LT.flatMap ints) rfl hown3 ⟨b, off, none⟩ (n - (i + 1)) (cap - (i + 1)) (LD.flatMap ints) (show Value.slice (if cap = i + 1 then some ⟨b, off, none⟩ else some ⟨b, off + (i + 1), none⟩) (n - (i + 1)) (cap - (i + 1)) = _ from by rw [if_pos HC.out]) HlD.out
          (fun j u hu => by rw [HL0.out] at hu; simp at hu) (ints_one _) (by unfold maxLen; omega) (by omega) hB3.size ?_; intro v4 w4 hown4 hgrow4 hnil4)
      | (refine step_append_own' _ rfl _ _ _ rfl w.heap.size 3 j0 _ 1 8 Tryz.underlying34 hj0 hy0 hy1 hy2 rfl (by omega) (.slice (some ⟨w.heap.size, 0, none⟩) 0 0) 0 [] rfl (World.ownsRow_made w.drew #[] 0 (Nat.le_refl _) (Nat.zero_le _) rfl) ⟨b, off, none⟩ i cap (LT.flatMap ints) rfl HlT.out
          (Rd.news (HT.out.below' HBa.out) ints_length) (ints_one _) (by unfold maxLen; omega) (by omega) HBa.out.size ?_; intro v3 w3 hown3 hgrow3 hnil3; have hB3 := HBa.out.grown hgrow3 HBa.out.size (fun k e => by simp [Value.ownBlock] at e; omega)))
   all_goals
    have HB4 := Hd (hB3.grown hgrow4 hB3.size (fun k e => (hown3.lt k e).1))
    have HO4 := Hd hown4
    clear hown4 hgrow4 hown3 hgrow3 hnil3 hnil4 hB3
    go_wp2_with fail
    go_ret
   all_goals
    refine ⟨_, rfl, ?_, HB4.out⟩
    have := HO4.out
    rw [List.nil_append, Nat.zero_add, HE.out, HL.out] at this
    exact this
 · rw [Nat.mul_one] at HD
   have HC := Hd hcz
   clear hcz
   go_enter Tryz.func61, Tryz.ntmps61
   go_wp2_with fail
   go_region_held3 (fun _ => True)
    (first | trivial | go_keep)
    (first
      | (refine step_append_own' _ rfl _ _ _ rfl w.heap.size 3 j0 _ 1 8 Tryz.underlying34 hj0 hy0 hy1 hy2 rfl (by omega) v3 (0 + i) ([] ++ LT.flatMap ints) rfl hown3 ⟨b, off + (i + 1), none⟩ (n - (i + 1)) (cap - (i + 1)) (LD.flatMap ints) (show Value.slice (if cap = i + 1 then some ⟨b, off, none⟩ else some ⟨b, off + (i + 1), none⟩) (n - (i + 1)) (cap - (i + 1)) = _ from by rw [if_neg HC.out]) HlD.out
          (Rd.news (HD.out.below' hB3) ints_length) (ints_one _) (by unfold maxLen; omega) (by omega) hB3.size ?_; intro v4 w4 hown4 hgrow4 hnil4)
      | (refine step_append_own' _ rfl _ _ _ rfl w.heap.size 3 j0 _ 1 8 Tryz.underlying34 hj0 hy0 hy1 hy2 rfl (by omega) (.slice (some ⟨w.heap.size, 0, none⟩) 0 0) 0 [] rfl (World.ownsRow_made w.drew #[] 0 (Nat.le_refl _) (Nat.zero_le _) rfl) ⟨b, off, none⟩ i cap (LT.flatMap ints) rfl HlT.out
          (Rd.news (HT.out.below' HBa.out) ints_length) (ints_one _) (by unfold maxLen; omega) (by omega) HBa.out.size ?_; intro v3 w3 hown3 hgrow3 hnil3; have hB3 := HBa.out.grown hgrow3 HBa.out.size (fun k e => by simp [Value.ownBlock] at e; omega)))
   all_goals
    have HB4 := Hd (hB3.grown hgrow4 hB3.size (fun k e => (hown3.lt k e).1))
    have HO4 := Hd hown4
    clear hown4 hgrow4 hown3 hgrow3 hnil3 hnil4 hB3
    go_wp2_with fail
    go_ret
   all_goals
    refine ⟨_, rfl, ?_, HB4.out⟩
    have := HO4.out
    rw [List.nil_append, Nat.zero_add, HE.out, HL.out] at this
    exact this
theorem drop_ints {w : World} {b off n : Nat} {xs : List Int} (h : Rd ints 1 w (some ⟨b, off, none⟩) n xs) {m : Nat} (hm : m ≤ n) (c : Nat) (hc : n ≤ c) : ∃ ad, (if c = m then some ⟨b, off, none⟩ else some ⟨b, off + m, none⟩ : Option Addr) = some ad ∧ ∀ W, Below w.heap.size w W → ∀ j u, ((xs.drop m).flatMap ints)[j]? = some u → W.cell? (ad.add j) = some u := by
 by_cases hcm : c = m
 · rw [if_pos hcm]
   refine ⟨_, rfl, fun W _ j u hu => ?_⟩
   rw [List.drop_eq_nil_of_le (by rw [h.len]; omega)] at hu
   simp at hu
 · rw [if_neg hcm]
   have hd : Rd ints 1 w (some ⟨b, off + m, none⟩) (n - m) (xs.drop m) := ⟨by have := h.len; simp; omega, by have := h.cap; omega, fun i hi => by
    obtain ⟨b', off', x, he, hlt, hx, hc⟩ := h.read (m + i) (by omega)
    cases he
    refine ⟨b, off + m, x, rfl, hlt, by rw [List.getElem?_drop]; exact hx, fun j hj => ?_⟩
    have := hc j hj
    rw [Nat.mul_one] at this ⊢
    rw [← this]
    congr 2
    omega⟩
   exact ⟨_, rfl, fun W hW => Rd.news (hd.below' hW) ints_length⟩
theorem ascR_len (l : List Int) : (ascR l).length = l.length := (ascR_facts l).2.length_eq
theorem asc_step {L : List Int} {k j : Nat} {y : Int} (hy : L[k]? = some y) (hj : j ≤ (ascR (L.take k)).length) (h1 : ∀ z ∈ (ascR (L.take k)).take j, z < y) (h2 : ∀ z, (ascR (L.take k))[j]? = some z → ¬ z < y) :
 (ascR (L.take (k + 1))).flatMap ints = ((ascR (L.take k)).take j).flatMap ints ++ [.int .i64 y] ++ ((ascR (L.take k)).drop j).flatMap ints := by
 rw [take_succ_snoc hy, ascR_snoc, insA_at _ j hj h1 h2, List.flatMap_append, List.flatMap_cons, List.append_assoc]
 rfl
set_option maxRecDepth 100000 in
set_option maxHeartbeats 8000000 in
theorem asc_r (a : Option Addr) (n cap : Nat) (L : List Int) (w : World) (h : Rd ints 1 w a n L) (hn : n ≤ 1000) :
 Calls Tryz.prog 64 #[.slice a n cap] w fun e w' => ∃ v, e = .returned v ∧ w'.ownsRow w.heap.size 3 1 v (ascR L).length ((ascR L).flatMap ints) ∧ Below w.heap.size w w' := by
 obtain ⟨j0, hj0, hy0, hy1, hy2⟩ := info_parts info_int
 have HR := Hd h
 have Hlen := Hd h.len
 clear h
 go_enter Tryz.func64, Tryz.ntmps64
 go_wp2_with fail
 go_loopw [3, 4] (fun v i wr => ∃ k : Nat, k ≤ n ∧ i = .int .i64 k ∧ wr.ownsRow w.heap.size 3 1 v k ((ascR (L.take k)).flatMap ints) ∧ (k = 0 → v = .slice none 0 0) ∧ Below w.heap.size w wr) (fun _ i _ => n - (intOf i).toNat)
 case atStart => exact ⟨0, Nat.zero_le _, rfl, World.ownsRow_nil _ _ _ _, fun _ => rfl, Below.refl _ _⟩
 case round =>
  obtain ⟨k, hk, rfl, hrow, hnil, hB⟩ := hrel
  have HRow := Hd hrow
  have HNil := Hd hnil
  have HB := Hd hB
  have HL := Hd (HR.out.below' hB)
  clear hrow hnil hB
  by_cases hlt : k < n
  case neg =>
   have hltg : ¬ (k : Int) < (n : Int) := by omega
   have HE := Hd (show k = n ∧ L.take k = L from ⟨by omega, List.take_of_length_le (by rw [Hlen.out]; omega)⟩)
   clear hlt
   go_wp2_with fail
   go_ret
   obtain ⟨e1, e2⟩ := HE.out
   have := HRow.out
   rw [e2] at this
   exact ⟨_, rfl, by rw [ascR_len, Hlen.out, ← e1]; exact this, HB.out⟩
  have hlt' : (k : Int) < (n : Int) := by omega
  obtain ⟨lb, lf, y, rfl, _, hy, hc⟩ := HL.out.int hlt
  have HY := Hd hy
  have HC := Hd hc
  clear hy hc
  by_cases hk0 : k = 0
  · subst hk0
    have hv := HNil.out rfl
    subst hv
    have HE := Hd (show (ascR (L.take (0 + 1))).flatMap ints = [.int .i64 y] from by rw [take_succ_snoc HY.out]; rfl)
    clear HRow HNil
    go_wp2_with fail
    go_loopw [5] (fun jv wr2 => jv = .int .i64 0 ∧ wr2 = wr) (fun _ _ => 0)
    case atStart => exact ⟨rfl, rfl⟩
    case round =>
     obtain ⟨rfl, hw2⟩ := hrel
     obtain rfl := hw2.symm
     clear hw2
     go_wp2_with fail
     go_quiet (fail)
     go_wp2_with fail
     generalize hw8 : wr.drewN nq = w2
     have HB2 := Hd (show Below w.heap.size w w2 from by rw [← hw8]; exact below_drewN HB.out _)
     have c8 : w2.cell? ⟨lb, lf, none⟩ = some (.int .i64 y) := by rw [← hw8]; exact HC.out
     clear hw8
     have K1 := Hd (fun o => (drewN_below w2 1).alloc (Nat.le_refl _) o)
     have K2 := Hd (fun o o' => (K1.out o).alloc (K1.out o).size o')
     go_region_held3 (fun w' => w'.cell? ⟨lb, lf, none⟩ = some (.int .i64 y))
      (first | go_keep | with_reducible exact cell_stays c8 hb3.out | with_reducible exact cell_stays c8 hb4.out | with_reducible exact cell_stays c8 hb5.out)
      (first
        | (refine step_append_none _ rfl _ _ _ rfl w2.heap.size 3 j0 1 Tryz.underlying34 hj0 v4 (0 + 1) ([] ++ [.int .i64 y]) rfl hown4 rfl ?_)
        | (refine step_append_own' _ rfl _ _ _ rfl w2.heap.size 3 j0 _ 1 8 Tryz.underlying34 hj0 hy0 hy1 hy2 rfl (by omega) (.slice (some ⟨w2.heap.size, 0, none⟩) 0 0) 0 [] rfl ((ownsRow_made' w2.drew (Nat.le_refl _) rfl).alloc _) ⟨w2.heap.size + 1, 0, none⟩ 1 1 [.int .i64 y] rfl rfl (World.news_of_block (cs := #[.int .i64 y]) (t := 3) (fr := (0, 0)) (heap_alloc_new' (w2.drew.alloc _) _ (by simp))) (by simp [Value.oneCell']) (by unfold maxLen; omega) (by omega) (K2.out _ _).size ?_; intro v4 w4 hown4 hgrow4 hnil4; have hb4 := Hd ((K2.out _ _).grown hgrow4 (K2.out _ _).size (fun k e => by simp [Value.ownBlock] at e; omega)))
        | (refine step_append_own' _ rfl _ _ _ rfl w2.heap.size 3 j0 _ 1 8 Tryz.underlying34 hj0 hy0 hy1 hy2 rfl (by omega) (.slice (some ⟨w2.heap.size + 1, 0, none⟩) 0 0) 0 [] rfl (ownsRow_made' (w2.drew.alloc _) (K1.out _).size (by simp)) ⟨w2.heap.size, 0, none⟩ 1 1 [.int .i64 y] rfl rfl (World.news_of_block (cs := #[.int .i64 y]) (t := 3) (fr := (0, 0)) (alloc2_block w2.drew _ _)) (by simp [Value.oneCell']) (by unfold maxLen; omega) (by omega) (K2.out _ _).size ?_; intro v4 w4 hown4 hgrow4 hnil4; have hb4 := Hd ((K2.out _ _).grown hgrow4 (K2.out _ _).size (fun k e => by simp [Value.ownBlock] at e; omega)))
        | (refine step_append_none _ rfl _ _ _ rfl w2.heap.size 3 j0 1 Tryz.underlying34 hj0 (.slice (some ⟨w2.heap.size, 0, none⟩) 0 0) 0 [] rfl (ownsRow_made' w2.drew (Nat.le_refl _) rfl) rfl ?_)
        | (refine step_append_none _ rfl _ _ _ rfl w2.heap.size 3 j0 1 Tryz.underlying34 hj0 (.slice (some ⟨w2.heap.size, 0, none⟩) 0 0) 0 [] rfl ((ownsRow_made' w2.drew (Nat.le_refl _) rfl).alloc _) rfl ?_)
        | (refine step_append_none _ rfl _ _ _ rfl w2.heap.size 3 j0 1 Tryz.underlying34 hj0 (.slice (some ⟨w2.heap.size + 1, 0, none⟩) 0 0) 0 [] rfl (ownsRow_made' (w2.drew.alloc _) (K1.out _).size (by simp)) rfl ?_))
     all_goals
      have HO4 := Hd hown4
      clear hown4 hgrow4 hnil4
      go_wp2_with fail
      exact ⟨⟨0 + 1, by omega, by go_num, by have := ownsRow_mono HO4.out (b' := w.heap.size) HB2.out.size; rw [HE.out]; simpa using this, fun e => by omega, HB2.out.trans (hb4.out.mono HB2.out.size)⟩, by simp [intOf]; omega⟩
  · have Hk0 := Hd hk0
    clear hk0
    obtain ⟨va, vc, rfl, hvc, hrd, _⟩ := Rd.of_own HRow.out ints_length (by decide) (by rw [ascR_len, List.length_take]; have := Hlen.out; omega) (by unfold maxLen; omega)
    obtain ⟨ob, of, z0, rfl, _, _, _⟩ := hrd.int (i := 0) (by have := Hk0.out; omega)
    have HO := Hd hrd
    have HNl := Hd (show (ascR (L.take (k))).length = k from hrd.len)
    clear hrd HRow HNil
    obtain ⟨O, hO⟩ : ∃ O, ascR (L.take (k)) = O := ⟨_, rfl⟩
    have HOe := Hd hO
    rw [hO] at HO HNl
    clear hO
    obtain ⟨wo, rfl⟩ : ∃ wo : World, wo = wr := ⟨_, rfl⟩
    go_wp2_with fail
    go_loopw [5] (fun jv wr2 => ∃ j : Nat, j ≤ k ∧ jv = .int .i64 j ∧ (∀ z ∈ O.take j, z < y) ∧ Below wo.heap.size wo wr2) (fun jv _ => k - (intOf jv).toNat)
    case atStart => exact ⟨0, Nat.zero_le _, rfl, by simp, Below.refl _ _⟩
    case round =>
     obtain ⟨j, hj, rfl, hall, hB2⟩ := hrel
     have HAll := Hd hall
     have HB2 := Hd hB2
     have HO2 := Hd (HO.out.below' hB2)
     have c0 := cell_stays HC.out hB2
     clear hall hB2
     by_cases hlj : j < k
     · have hlj' : (j : Int) < (k : Int) := by omega
       obtain ⟨ob2, of2, z, hab, _, hz, hcz⟩ := HO2.out.int hlj
       cases hab
       by_cases hzy : z < y
       · have HAll2 := Hd (show ∀ x ∈ O.take (j + 1), x < y from by
          rw [take_succ_snoc hz]
          intro x hx
          rcases List.mem_append.1 hx with hx | hx
          · exact HAll.out x hx
          · rw [List.mem_singleton.1 hx]; exact hzy)
         clear hz
         go_wp2_with fail
         go_quiet (fail)
         go_wp2_with fail
         exact ⟨⟨j + 1, by omega, by go_num, HAll2.out, below_drewN HB2.out _⟩, by simp [intOf]; omega⟩
       · have HStop := Hd (show ∀ x, O[j]? = some x → ¬ x < y from fun x hx => by rw [hz] at hx; cases hx; exact hzy)
         clear hz
         go_wp2_with fail
         go_quiet (fail)
         go_wp2_with fail
         generalize hw8 : wr.drewN nq = w2
         have HBw := Hd (show Below wo.heap.size wo w2 from by rw [← hw8]; exact below_drewN HB2.out _)
         clear hw8 HO2 c0
         have HB3 := Hd (HB.out.trans (HBw.out.mono HB.out.size))
         have c8 := cell_stays HC.out HBw.out
         have hr := HO.out.below' HBw.out
         have HT := Hd (hr.take (m := j) (by omega))
         obtain ⟨ad, had, hdn⟩ := drop_ints hr hj vc (by omega)
         have HAd := Hd had
         have HDn := Hd hdn
         have HlT := Hd (show ((O.take j).flatMap ints).length = j * 1 from by rw [flat_length ints_length, List.length_take, hr.len]; congr 1; omega)
         have HlD := Hd (show ((O.drop j).flatMap ints).length = (k - j) * 1 from by rw [flat_length ints_length, List.length_drop, hr.len])
         have HE := Hd (show (ascR (L.take (k + 1))).flatMap ints = (O.take j).flatMap ints ++ [.int .i64 y] ++ (O.drop j).flatMap ints from by
          have := asc_step HY.out (j := j) (by rw [HOe.out, HNl.out]; exact hj) (by rw [HOe.out]; exact HAll.out) (by rw [HOe.out]; intro z hz; have := HStop.out z hz; omega)
          rw [HOe.out] at this
          exact this)
         clear hr had hdn
         obtain ⟨OT, hOT⟩ : ∃ z, O.take j = z := ⟨_, rfl⟩
         obtain ⟨OD, hOD⟩ : ∃ z, O.drop j = z := ⟨_, rfl⟩
         rw [hOT] at HT HlT HE
         rw [hOD] at HDn HlD HE
         clear hOT hOD
         have g0 : (j : Int) ≤ (vc : Int) := by omega
         have g1 : (j : Int) ≤ (k : Int) := by omega
         have g2 : (k : Int) ≤ (vc : Int) := by omega
         have g3 : (0 : Int) ≤ (j : Int) := by omega
         have K1 := Hd (fun o => (drewN_below w2 1).alloc (Nat.le_refl _) o)
         have K2 := Hd (fun o o' => (K1.out o).alloc (K1.out o).size o')
         go_region_held3 (fun w' => w'.cell? ⟨lb, lf + k, none⟩ = some (.int .i64 y))
          (first | go_keep | with_reducible exact cell_stays c8 hb3.out | with_reducible exact cell_stays c8 hb4.out | with_reducible exact cell_stays c8 hb5.out)
          (first
            | (refine step_append_own' _ rfl _ _ _ rfl w2.heap.size 3 j0 _ 1 8 Tryz.underlying34 hj0 hy0 hy1 hy2 rfl (by omega) v4 (0 + j + 1) ([] ++ OT.flatMap ints ++ [.int .i64 y]) rfl hown4 ad (k - j) (vc - j) (OD.flatMap ints) (show Value.slice (if vc = j then some ⟨ob, of, none⟩ else some ⟨ob, of + j, none⟩) (k - j) (vc - j) = _ from by rw [HAd.out]) HlD.out (HDn.out _ hb4.out) (ints_one _) (by unfold maxLen; omega) (by omega) hb4.out.size ?_; intro v5 w5 hown5 hgrow5 hnil5; have hb5 := Hd (hb4.out.grown hgrow5 hb4.out.size (fun k e => (hown4.lt k e).1)))
            | (refine step_append_own' _ rfl _ _ _ rfl w2.heap.size 3 j0 _ 1 8 Tryz.underlying34 hj0 hy0 hy1 hy2 rfl (by omega) v3 (0 + j) ([] ++ OT.flatMap ints) rfl (hown3.alloc _) ⟨w3.heap.size, 0, none⟩ 1 1 [.int .i64 y] rfl rfl (World.news_of_block (cs := #[.int .i64 y]) (t := 3) (fr := (0, 0)) (heap_alloc_new w3 _)) (by simp [Value.oneCell']) (by unfold maxLen; omega) (by omega) (hb3.out.alloc hb3.out.size _).size ?_; intro v4 w4 hown4 hgrow4 hnil4; have hb4 := Hd ((hb3.out.alloc hb3.out.size _).grown hgrow4 (hb3.out.alloc hb3.out.size _).size (fun k e => (hown3.lt k e).1)))
            | (refine step_append_own' _ rfl _ _ _ rfl w2.heap.size 3 j0 _ 1 8 Tryz.underlying34 hj0 hy0 hy1 hy2 rfl (by omega) v3 (0 + j) ([] ++ OT.flatMap ints) rfl hown3 ⟨w2.heap.size + 1, 0, none⟩ 1 1 [.int .i64 y] rfl rfl (World.news_of_block (cs := #[.int .i64 y]) (t := 3) (fr := (0, 0)) (show w3.heap[w2.heap.size + 1]? = _ from (hgrow3.block _ (by simp) (by simp [Value.ownBlock])).trans (heap_alloc_new' (w2.drew.alloc _) _ (by simp)))) (by simp [Value.oneCell']) (by unfold maxLen; omega) (by omega) hb3.out.size ?_; intro v4 w4 hown4 hgrow4 hnil4; have hb4 := Hd (hb3.out.grown hgrow4 hb3.out.size (fun k e => (hown3.lt k e).1)))
            | (refine step_append_own' _ rfl _ _ _ rfl w2.heap.size 3 j0 _ 1 8 Tryz.underlying34 hj0 hy0 hy1 hy2 rfl (by omega) v3 (0 + j) ([] ++ OT.flatMap ints) rfl hown3 ⟨w2.heap.size, 0, none⟩ 1 1 [.int .i64 y] rfl rfl (World.news_of_block (cs := #[.int .i64 y]) (t := 3) (fr := (0, 0)) (show w3.heap[w2.heap.size]? = _ from (hgrow3.block _ (by simp; omega) (by simp [Value.ownBlock])).trans (alloc2_block w2.drew _ _))) (by simp [Value.oneCell']) (by unfold maxLen; omega) (by omega) hb3.out.size ?_; intro v4 w4 hown4 hgrow4 hnil4; have hb4 := Hd (hb3.out.grown hgrow4 hb3.out.size (fun k e => (hown3.lt k e).1)))
            | (refine step_append_own' _ rfl _ _ _ rfl w2.heap.size 3 j0 _ 1 8 Tryz.underlying34 hj0 hy0 hy1 hy2 rfl (by omega) (.slice (some ⟨w2.heap.size, 0, none⟩) 0 0) 0 [] rfl (World.ownsRow_made w2.drew #[] 0 (Nat.le_refl _) (Nat.zero_le _) rfl) ⟨ob, of, none⟩ j vc (OT.flatMap ints) rfl HlT.out (Rd.news (HT.out.below' (K1.out _)) ints_length) (ints_one _) (by unfold maxLen; omega) (by omega) (K1.out _).size ?_; intro v3 w3 hown3 hgrow3 hnil3; have hb3 := Hd ((K1.out _).grown hgrow3 (K1.out _).size (fun k e => by simp [Value.ownBlock] at e; omega)))
            | (refine step_append_own' _ rfl _ _ _ rfl w2.heap.size 3 j0 _ 1 8 Tryz.underlying34 hj0 hy0 hy1 hy2 rfl (by omega) (.slice (some ⟨w2.heap.size, 0, none⟩) 0 0) 0 [] rfl ((World.ownsRow_made w2.drew #[] 0 (Nat.le_refl _) (Nat.zero_le _) rfl).alloc _) ⟨ob, of, none⟩ j vc (OT.flatMap ints) rfl HlT.out (Rd.news (HT.out.below' (K2.out _ _)) ints_length) (ints_one _) (by unfold maxLen; omega) (by omega) (K2.out _ _).size ?_; intro v3 w3 hown3 hgrow3 hnil3; have hb3 := Hd ((K2.out _ _).grown hgrow3 (K2.out _ _).size (fun k e => by simp [Value.ownBlock] at e; omega)))
            | (refine step_append_own' _ rfl _ _ _ rfl w2.heap.size 3 j0 _ 1 8 Tryz.underlying34 hj0 hy0 hy1 hy2 rfl (by omega) (.slice (some ⟨w2.heap.size + 1, 0, none⟩) 0 0) 0 [] rfl (ownsRow_made' (w2.drew.alloc _) (K1.out _).size (by simp)) ⟨ob, of, none⟩ j vc (OT.flatMap ints) rfl HlT.out (Rd.news (HT.out.below' (K2.out _ _)) ints_length) (ints_one _) (by unfold maxLen; omega) (by omega) (K2.out _ _).size ?_; intro v3 w3 hown3 hgrow3 hnil3; have hb3 := Hd ((K2.out _ _).grown hgrow3 (K2.out _ _).size (fun k e => by simp [Value.ownBlock] at e; omega))))
         all_goals
          have HO5 := Hd hown5
          clear hown3 hgrow3 hnil3 hown4 hgrow4 hnil4 hown5 hgrow5 hnil5
          go_wp2_with fail
          exact ⟨⟨k + 1, by omega, by go_num, by have := ownsRow_mono HO5.out (b' := w.heap.size) HB3.out.size; rw [HE.out]; rw [List.nil_append, show 0 + j + 1 + (k - j) = k + 1 by omega] at this; exact this, fun e => by omega, HB3.out.trans (hb5.out.mono HB3.out.size)⟩, by simp [intOf]; omega⟩
     · have hlj' : ¬ (j : Int) < (k : Int) := by omega
       have HStop := Hd (show ∀ x, O[j]? = some x → ¬ x < y from fun x hx => by have := (List.getElem?_eq_some_iff.1 hx).1; have := HNl.out; omega)
       go_wp2_with fail
       go_quiet (fail)
       go_wp2_with fail
       generalize hw8 : wr.drewN nq = w2
       have HBw := Hd (show Below wo.heap.size wo w2 from by rw [← hw8]; exact below_drewN HB2.out _)
       clear hw8 HO2 c0
       have HB3 := Hd (HB.out.trans (HBw.out.mono HB.out.size))
       have c8 := cell_stays HC.out HBw.out
       have hr := HO.out.below' HBw.out
       have HT := Hd (hr.take (m := j) (by omega))
       obtain ⟨ad, had, hdn⟩ := drop_ints hr hj vc (by omega)
       have HAd := Hd had
       have HDn := Hd hdn
       have HlT := Hd (show ((O.take j).flatMap ints).length = j * 1 from by rw [flat_length ints_length, List.length_take, hr.len]; congr 1; omega)
       have HlD := Hd (show ((O.drop j).flatMap ints).length = (k - j) * 1 from by rw [flat_length ints_length, List.length_drop, hr.len])
       have HE := Hd (show (ascR (L.take (k + 1))).flatMap ints = (O.take j).flatMap ints ++ [.int .i64 y] ++ (O.drop j).flatMap ints from by
        have := asc_step HY.out (j := j) (by rw [HOe.out, HNl.out]; exact hj) (by rw [HOe.out]; exact HAll.out) (by rw [HOe.out]; intro z hz; have := HStop.out z hz; omega)
        rw [HOe.out] at this
        exact this)
       clear hr had hdn
       obtain ⟨OT, hOT⟩ : ∃ z, O.take j = z := ⟨_, rfl⟩
       obtain ⟨OD, hOD⟩ : ∃ z, O.drop j = z := ⟨_, rfl⟩
       rw [hOT] at HT HlT HE
       rw [hOD] at HDn HlD HE
       clear hOT hOD
       have g0 : (j : Int) ≤ (vc : Int) := by omega
       have g1 : (j : Int) ≤ (k : Int) := by omega
       have g2 : (k : Int) ≤ (vc : Int) := by omega
       have g3 : (0 : Int) ≤ (j : Int) := by omega
       have K1 := Hd (fun o => (drewN_below w2 1).alloc (Nat.le_refl _) o)
       have K2 := Hd (fun o o' => (K1.out o).alloc (K1.out o).size o')
       go_region_held3 (fun w' => w'.cell? ⟨lb, lf + k, none⟩ = some (.int .i64 y))
        (first | go_keep | with_reducible exact cell_stays c8 hb3.out | with_reducible exact cell_stays c8 hb4.out | with_reducible exact cell_stays c8 hb5.out)
        (first
          | (refine step_append_own' _ rfl _ _ _ rfl w2.heap.size 3 j0 _ 1 8 Tryz.underlying34 hj0 hy0 hy1 hy2 rfl (by omega) v4 (0 + j + 1) ([] ++ OT.flatMap ints ++ [.int .i64 y]) rfl hown4 ad (k - j) (vc - j) (OD.flatMap ints) (show Value.slice (if vc = j then some ⟨ob, of, none⟩ else some ⟨ob, of + j, none⟩) (k - j) (vc - j) = _ from by rw [HAd.out]) HlD.out (HDn.out _ hb4.out) (ints_one _) (by unfold maxLen; omega) (by omega) hb4.out.size ?_; intro v5 w5 hown5 hgrow5 hnil5; have hb5 := Hd (hb4.out.grown hgrow5 hb4.out.size (fun k e => (hown4.lt k e).1)))
          | (refine step_append_own' _ rfl _ _ _ rfl w2.heap.size 3 j0 _ 1 8 Tryz.underlying34 hj0 hy0 hy1 hy2 rfl (by omega) v3 (0 + j) ([] ++ OT.flatMap ints) rfl (hown3.alloc _) ⟨w3.heap.size, 0, none⟩ 1 1 [.int .i64 y] rfl rfl (World.news_of_block (cs := #[.int .i64 y]) (t := 3) (fr := (0, 0)) (heap_alloc_new w3 _)) (by simp [Value.oneCell']) (by unfold maxLen; omega) (by omega) (hb3.out.alloc hb3.out.size _).size ?_; intro v4 w4 hown4 hgrow4 hnil4; have hb4 := Hd ((hb3.out.alloc hb3.out.size _).grown hgrow4 (hb3.out.alloc hb3.out.size _).size (fun k e => (hown3.lt k e).1)))
          | (refine step_append_own' _ rfl _ _ _ rfl w2.heap.size 3 j0 _ 1 8 Tryz.underlying34 hj0 hy0 hy1 hy2 rfl (by omega) v3 (0 + j) ([] ++ OT.flatMap ints) rfl hown3 ⟨w2.heap.size + 1, 0, none⟩ 1 1 [.int .i64 y] rfl rfl (World.news_of_block (cs := #[.int .i64 y]) (t := 3) (fr := (0, 0)) (show w3.heap[w2.heap.size + 1]? = _ from (hgrow3.block _ (by simp) (by simp [Value.ownBlock])).trans (heap_alloc_new' (w2.drew.alloc _) _ (by simp)))) (by simp [Value.oneCell']) (by unfold maxLen; omega) (by omega) hb3.out.size ?_; intro v4 w4 hown4 hgrow4 hnil4; have hb4 := Hd (hb3.out.grown hgrow4 hb3.out.size (fun k e => (hown3.lt k e).1)))
          | (refine step_append_own' _ rfl _ _ _ rfl w2.heap.size 3 j0 _ 1 8 Tryz.underlying34 hj0 hy0 hy1 hy2 rfl (by omega) v3 (0 + j) ([] ++ OT.flatMap ints) rfl hown3 ⟨w2.heap.size, 0, none⟩ 1 1 [.int .i64 y] rfl rfl (World.news_of_block (cs := #[.int .i64 y]) (t := 3) (fr := (0, 0)) (show w3.heap[w2.heap.size]? = _ from (hgrow3.block _ (by simp; omega) (by simp [Value.ownBlock])).trans (alloc2_block w2.drew _ _))) (by simp [Value.oneCell']) (by unfold maxLen; omega) (by omega) hb3.out.size ?_; intro v4 w4 hown4 hgrow4 hnil4; have hb4 := Hd (hb3.out.grown hgrow4 hb3.out.size (fun k e => (hown3.lt k e).1)))
          | (refine step_append_own' _ rfl _ _ _ rfl w2.heap.size 3 j0 _ 1 8 Tryz.underlying34 hj0 hy0 hy1 hy2 rfl (by omega) (.slice (some ⟨w2.heap.size, 0, none⟩) 0 0) 0 [] rfl (World.ownsRow_made w2.drew #[] 0 (Nat.le_refl _) (Nat.zero_le _) rfl) ⟨ob, of, none⟩ j vc (OT.flatMap ints) rfl HlT.out (Rd.news (HT.out.below' (K1.out _)) ints_length) (ints_one _) (by unfold maxLen; omega) (by omega) (K1.out _).size ?_; intro v3 w3 hown3 hgrow3 hnil3; have hb3 := Hd ((K1.out _).grown hgrow3 (K1.out _).size (fun k e => by simp [Value.ownBlock] at e; omega)))
          | (refine step_append_own' _ rfl _ _ _ rfl w2.heap.size 3 j0 _ 1 8 Tryz.underlying34 hj0 hy0 hy1 hy2 rfl (by omega) (.slice (some ⟨w2.heap.size, 0, none⟩) 0 0) 0 [] rfl ((World.ownsRow_made w2.drew #[] 0 (Nat.le_refl _) (Nat.zero_le _) rfl).alloc _) ⟨ob, of, none⟩ j vc (OT.flatMap ints) rfl HlT.out (Rd.news (HT.out.below' (K2.out _ _)) ints_length) (ints_one _) (by unfold maxLen; omega) (by omega) (K2.out _ _).size ?_; intro v3 w3 hown3 hgrow3 hnil3; have hb3 := Hd ((K2.out _ _).grown hgrow3 (K2.out _ _).size (fun k e => by simp [Value.ownBlock] at e; omega)))
          | (refine step_append_own' _ rfl _ _ _ rfl w2.heap.size 3 j0 _ 1 8 Tryz.underlying34 hj0 hy0 hy1 hy2 rfl (by omega) (.slice (some ⟨w2.heap.size + 1, 0, none⟩) 0 0) 0 [] rfl (ownsRow_made' (w2.drew.alloc _) (K1.out _).size (by simp)) ⟨ob, of, none⟩ j vc (OT.flatMap ints) rfl HlT.out (Rd.news (HT.out.below' (K2.out _ _)) ints_length) (ints_one _) (by unfold maxLen; omega) (by omega) (K2.out _ _).size ?_; intro v3 w3 hown3 hgrow3 hnil3; have hb3 := Hd ((K2.out _ _).grown hgrow3 (K2.out _ _).size (fun k e => by simp [Value.ownBlock] at e; omega))))
       all_goals
        have HO5 := Hd hown5
        clear hown3 hgrow3 hnil3 hown4 hgrow4 hnil4 hown5 hgrow5 hnil5
        go_wp2_with fail
        exact ⟨⟨k + 1, by omega, by go_num, by have := ownsRow_mono HO5.out (b' := w.heap.size) HB3.out.size; rw [HE.out]; rw [List.nil_append, show 0 + j + 1 + (k - j) = k + 1 by omega] at this; exact this, fun e => by omega, HB3.out.trans (hb5.out.mono HB3.out.size)⟩, by simp [intOf]; omega⟩
theorem ends_box {W : World} {Y : Nat} {x : Pa} (h : BoxG W Y [.int .i64 x.id, .int .i64 x.known, .int .u8 x.kind, .int .i64 x.loss, .int .i64 x.pack, .int .i64 x.inn, .string ⟨x.mark.toArray⟩, .string ⟨x.goods.toArray⟩, .int .i64 x.low, .int .i64 x.high, .int .i64 x.pieces, .int .i64 x.owner, .int .i64 x.count, .int .i64 x.of]) (lo hi : Int) : BoxG ((W.setCell ⟨Y, 8, none⟩ (.int .i64 lo)).setCell ⟨Y, 8 + 1, none⟩ (.int .i64 hi)) Y [.int .i64 x.id, .int .i64 x.known, .int .u8 x.kind, .int .i64 x.loss, .int .i64 x.pack, .int .i64 x.inn, .string ⟨x.mark.toArray⟩, .string ⟨x.goods.toArray⟩, .int .i64 lo, .int .i64 hi, .int .i64 x.pieces, .int .i64 x.owner, .int .i64 x.count, .int .i64 x.of] :=
 (h.set 8 (.int .i64 lo) (by simp)).set 9 (.int .i64 hi) (by simp)
set_option maxRecDepth 100000 in
set_option maxHeartbeats 8000000 in
theorem has_r (a : Option Addr) (n cap : Nat) (L : List Int) (x : Int) (w : World) (h : Rd ints 1 w a n L) :
 Calls Tryz.prog 116 #[.slice a n cap, .int .i64 x] w fun e w' => e = .returned (.bool (L.contains x)) ∧ w' = w := by
 have hn := h.cap
 unfold maxLen at hn
 have HR := Hd h
 clear h
 obtain ⟨R, hR⟩ : ∃ b, L.contains x = b := ⟨_, rfl⟩
 rw [hR]
 have HRv := Hd hR
 clear hR
 go_enter Tryz.func116, Tryz.ntmps116
 go_wp2_with fail
 go_loopw [5] (fun i wr => ∃ k : Nat, k ≤ n ∧ i = .int .i64 k ∧ x ∉ L.take k ∧ wr = w) (fun i _ => n - (intOf i).toNat)
 case atStart => exact ⟨0, Nat.zero_le _, rfl, by simp, rfl⟩
 case round =>
  obtain ⟨k, hk, rfl, hno, hw⟩ := hrel
  obtain rfl := hw.symm
  clear hw
  have HNo := Hd hno
  clear hno
  by_cases hlt : k < n
  · have hlt' : (k : Int) < (n : Int) := by omega
    obtain ⟨b, off, y, rfl, _, hy, hc⟩ := HR.out.int hlt
    by_cases he : y = x
    · have q : (y == x) = true := by simpa using he
      have HE := Hd (show R = true from by rw [← HRv.out]; simp only [List.contains_iff_mem]; rw [← he]; exact List.mem_of_getElem? hy)
      clear he hy
      go_wp2_with fail
      go_ret
      exact ⟨by rw [HE.out] <;> rfl, rfl⟩
    · have q : (y == x) = false := by simpa using he
      have HN := Hd (show x ∉ L.take (k + 1) from by
       rw [take_succ_snoc hy, List.mem_append, List.mem_singleton]
       rintro (h | h)
       · exact HNo.out h
       · exact he h.symm)
      clear he hy
      go_wp2_with fail
      exact ⟨⟨k + 1, by omega, by go_num, HN.out, by trivial⟩, by simp [intOf]; omega⟩
  · have hltg : ¬ (k : Int) < (n : Int) := by omega
    have HE := Hd (show R = false from by
     have h1 := HNo.out
     rw [List.take_of_length_le (by rw [HR.out.len]; omega)] at h1
     rw [← HRv.out, Bool.eq_false_iff]
     simpa using h1)
    clear hlt
    go_wp2_with fail
    go_ret
    exact ⟨by rw [HE.out] <;> rfl, rfl⟩
theorem map_id_step {xs : List Pa} {k : Nat} {x : Pa} (h : xs[k]? = some x) : (xs.take (k + 1)).map (·.id) = (xs.take k).map (·.id) ++ [x.id] := by rw [take_succ_snoc h, List.map_append]; rfl
theorem idsB_has (ps ts : List Pa) (x : Pa) : (ps.map (·.id) ++ ts.map (·.id)).contains x.id = idsB (ps ++ ts) x := by
 unfold idsB
 rw [Bool.eq_iff_iff, List.contains_iff_mem, List.any_eq_true, ← List.map_append, List.mem_map]
 constructor
 · rintro ⟨y, hy, e⟩; exact ⟨y, hy, decide_eq_true e⟩
 · rintro ⟨y, hy, e⟩; exact ⟨y, hy, of_decide_eq_true e⟩
set_option maxRecDepth 100000 in
set_option maxHeartbeats 8000000 in
theorem ids_r (pa : Option Addr) (pn pc : Nat) (ta : Option Addr) (tn tc : Nat) (PS TS : List Pa) (a : Option Addr) (n cap : Nat) (xs : List Pa) (w : World) (hp : Rd Pa.vals 14 w pa pn PS) (ht : Rd Pa.vals 14 w ta tn TS) (h : Rd Pa.vals 14 w a n xs) (hpn : pn ≤ 1000) (htn : tn ≤ 1000) (hn : n ≤ 1000) :
 Calls Tryz.prog 60 #[.agg #[.slice pa pn pc, .slice ta tn tc], .slice a n cap] w fun e w' => ∃ v, e = .returned v ∧ w'.ownsRow w.heap.size 3 1 v (idsA (PS ++ TS) xs).length ((idsA (PS ++ TS) xs).flatMap ints) ∧ Below w.heap.size w w' := by
 obtain ⟨j0, hj0, hy0, hy1, hy2⟩ := info_parts info_int
 have hM := ManR.box pc tc hp ht 91
 have hB := al' (Below.refl w.heap.size w) (.cells #[.slice pa pn pc, .slice ta tn tc] 91)
 have HM := Hd hM
 have HB1 := Hd hB
 have HR := Hd (h.below' hB)
 have Hpl := Hd hp.len
 have Htl := Hd ht.len
 have Hl := Hd h.len
 clear hM hB hp ht h
 go_enter Tryz.func60, Tryz.ntmps60
 go_upto_region 1 with (fail)
 generalize w.alloc (.cells #[.slice pa pn pc, .slice ta tn tc] 91) = w1 at *
 obtain ⟨M, hMe⟩ : ∃ M, w.heap.size = M := ⟨_, rfl⟩
 have HMe := Hd hMe
 rw [hMe] at HM ⊢
 clear hMe
 go_wp2_with fail
 go_loopw [5, 6] (fun v i wr => ∃ k : Nat, k ≤ pn ∧ i = .int .i64 k ∧ wr.ownsRow w1.heap.size 3 1 v ((PS.take k).map (·.id)).length (((PS.take k).map (·.id)).flatMap ints) ∧ Below w1.heap.size w1 wr) (fun _ i _ => pn - (intOf i).toNat)
 case atStart => exact ⟨0, Nat.zero_le _, rfl, World.ownsRow_nil _ _ _ _, Below.refl _ _⟩
 case round =>
  obtain ⟨k, hk, rfl, hrow, hB⟩ := hrel
  have HB := Hd hB
  have HRow := Hd hrow
  have HMr := Hd (HM.out.below' hB)
  have m0 := HMr.out.c0
  have m1 := HMr.out.c1
  clear hB hrow
  by_cases hlt : k < pn
  · have hlt' : (k : Int) < (pn : Int) := by omega
    obtain ⟨b, off, x, hpa, hb, hx, c0, c1, c2, c3, c4, c5, c6, c7, c8, c9, c10, c11, c12, c13⟩ := HMr.out.rp.pa hlt
    subst hpa
    have HS := Hd (map_id_step hx)
    have hlk : ((PS.take k).map (·.id)).length ≤ 1000 := by rw [List.length_map, List.length_take]; omega
    obtain ⟨NS, hNS⟩ : ∃ N, (PS.take k).map (·.id) = N := ⟨_, rfl⟩
    rw [hNS] at HRow HS hlk
    clear hNS hx c1 c2 c3 c4 c5 c6 c7 c8 c9 c10 c11 c12 c13
    go_wp2_with (at_builtin; go_loud (refine wpList_append_own _ rfl _ _ 34 rfl w1.heap.size 3 j0 _ 1 8 Tryz.underlying34 hj0 hy0 hy1 hy2 rfl (by decide) _ _ _ rfl (HRow.out.alloc _) ⟨wr.heap.size, 0, none⟩ 1 1 (ints x.id) rfl rfl (cell_one_new _ _ _) (by simp [ints, Value.oneCell']) (by unfold maxLen; omega) (by omega) (Nat.le_trans HB.out.size (by simp)) ?_; intro v9 w9 hown9 hgrow9 _))
    have HB9 := Hd ((HB.out.alloc HB.out.size (.cells #[.int .i64 x.id] 3)).grown hgrow9 (Nat.le_trans HB.out.size (by simp)) (fun j e => (HRow.out.lt j e).1))
    have HO9 := Hd (own_int_next hown9)
    clear hown9 hgrow9
    go_wp2_with fail
    exact ⟨⟨k + 1, by omega, by go_num, by rw [HS.out]; exact HO9.out, HB9.out⟩, by simp [intOf]; omega⟩
  · have hltg : ¬ (k : Int) < (pn : Int) := by omega
    have HT := Hd (show PS.take k = PS from List.take_of_length_le (by rw [Hpl.out]; omega))
    rw [HT.out] at HRow
    clear hlt
    obtain ⟨wo, rfl⟩ : ∃ wo : World, wo = wr := ⟨_, rfl⟩
    go_wp2_with fail
    go_loopw [5, 7] (fun v i wr => ∃ k : Nat, k ≤ tn ∧ i = .int .i64 k ∧ wr.ownsRow w1.heap.size 3 1 v (PS.map (·.id) ++ (TS.take k).map (·.id)).length ((PS.map (·.id) ++ (TS.take k).map (·.id)).flatMap ints) ∧ Below w1.heap.size w1 wr) (fun _ i _ => tn - (intOf i).toNat)
    case atStart => exact ⟨0, Nat.zero_le _, rfl, by simpa using HRow.out, HB.out⟩
    case round =>
     obtain ⟨k2, hk2, rfl, hrow, hB⟩ := hrel
     have HB2 := Hd hB
     have HRow2 := Hd hrow
     have HM2 := Hd (HM.out.below' hB)
     have m0 := HM2.out.c0
     have m1 := HM2.out.c1
     clear hB hrow
     by_cases hlt : k2 < tn
     · have hlt' : (k2 : Int) < (tn : Int) := by omega
       obtain ⟨b, off, x, hpa, hb, hx, c0, c1, c2, c3, c4, c5, c6, c7, c8, c9, c10, c11, c12, c13⟩ := HM2.out.rt.pa hlt
       subst hpa
       have HS := Hd (show PS.map (·.id) ++ (TS.take (k2 + 1)).map (·.id) = (PS.map (·.id) ++ (TS.take k2).map (·.id)) ++ [x.id] from by rw [map_id_step hx, List.append_assoc])
       have hlk : (PS.map (·.id) ++ (TS.take k2).map (·.id)).length ≤ 2000 := by rw [List.length_append, List.length_map, List.length_map, List.length_take, Hpl.out]; omega
       obtain ⟨NS, hNS⟩ : ∃ N, PS.map (·.id) ++ (TS.take k2).map (·.id) = N := ⟨_, rfl⟩
       rw [hNS] at HRow2 HS hlk
       clear hNS hx c1 c2 c3 c4 c5 c6 c7 c8 c9 c10 c11 c12 c13
       go_wp2_with (at_builtin; go_loud (refine wpList_append_own _ rfl _ _ 34 rfl w1.heap.size 3 j0 _ 1 8 Tryz.underlying34 hj0 hy0 hy1 hy2 rfl (by decide) _ _ _ rfl (HRow2.out.alloc _) ⟨wr.heap.size, 0, none⟩ 1 1 (ints x.id) rfl rfl (cell_one_new _ _ _) (by simp [ints, Value.oneCell']) (by unfold maxLen; omega) (by omega) (Nat.le_trans HB2.out.size (by simp)) ?_; intro v9 w9 hown9 hgrow9 _))
       have HB9 := Hd ((HB2.out.alloc HB2.out.size (.cells #[.int .i64 x.id] 3)).grown hgrow9 (Nat.le_trans HB2.out.size (by simp)) (fun j e => (HRow2.out.lt j e).1))
       have HO9 := Hd (own_int_next hown9)
       clear hown9 hgrow9
       go_wp2_with fail
       exact ⟨⟨k2 + 1, by omega, by go_num, by rw [HS.out]; exact HO9.out, HB9.out⟩, by simp [intOf]; omega⟩
     · have hltg : ¬ (k2 : Int) < (tn : Int) := by omega
       have HT2 := Hd (show TS.take k2 = TS from List.take_of_length_le (by rw [Htl.out]; omega))
       rw [HT2.out] at HRow2
       have hal : (PS.map (·.id) ++ TS.map (·.id)).length ≤ 2000 := by rw [List.length_append, List.length_map, List.length_map, Hpl.out, Htl.out]; omega
       obtain ⟨AL, hAL⟩ : ∃ N, PS.map (·.id) ++ TS.map (·.id) = N := ⟨_, rfl⟩
       have HAll := Hd (show ∀ x : Pa, AL.contains x.id = idsB (PS ++ TS) x from fun x => by rw [← hAL]; exact idsB_has PS TS x)
       rw [hAL] at HRow2 hal
       obtain ⟨la, lc, rfl, _, hrl, hlb⟩ := Rd.of_own HRow2.out ints_length (by decide) rfl (by unfold maxLen; omega)
       have HL := Hd hrl
       obtain ⟨al, hale⟩ : ∃ l, AL.length = l := ⟨_, rfl⟩
       rw [hale] at HL ⊢
       clear hlt hrl hlb hAL HRow2 hal hale
       obtain ⟨wt, rfl⟩ : ∃ wo : World, wo = wr := ⟨_, rfl⟩
       go_wp2_with fail
       go_loopw [8, 9] (fun v i wr => ∃ k : Nat, k ≤ n ∧ i = .int .i64 k ∧ wr.ownsRow wt.heap.size 3 1 v (idsA (PS ++ TS) (xs.take k)).length ((idsA (PS ++ TS) (xs.take k)).flatMap ints) ∧ Below wt.heap.size wt wr) (fun _ i _ => n - (intOf i).toNat)
       case atStart => exact ⟨0, Nat.zero_le _, rfl, World.ownsRow_nil _ _ _ _, Below.refl _ _⟩
       case round =>
        obtain ⟨k3, hk3, rfl, hrow, hB⟩ := hrel
        have HB3 := Hd hB
        have HRow3 := Hd hrow
        have HL3 := Hd (HL.out.below' hB)
        have HR3 := Hd (HR.out.below' (HB2.out.trans (hB.mono HB2.out.size)))
        clear hB hrow
        by_cases hlt : k3 < n
        · have hlt' : (k3 : Int) < (n : Int) := by omega
          obtain ⟨b, off, x, hpa, hb, hx, c0, c1, c2, c3, c4, c5, c6, c7, c8, c9, c10, c11, c12, c13⟩ := HR3.out.pa hlt
          subst hpa
          have CH := Hd (has_r la al lc AL x.id wr HL3.out)
          rw [HAll.out x] at CH
          have hlk : (idsA (PS ++ TS) (xs.take k3)).length ≤ 1000 := Nat.le_trans (idsA_len _ _) (by rw [List.length_take]; omega)
          have HY := Hd (fun h => idsA_yes (all := PS ++ TS) hx h)
          have HNn := Hd (fun h => idsA_no (all := PS ++ TS) hx h)
          obtain ⟨is, his⟩ : ∃ b, idsB (PS ++ TS) x = b := ⟨_, rfl⟩
          rw [his] at CH HY HNn
          obtain ⟨NS, hNS⟩ : ∃ N, idsA (PS ++ TS) (xs.take k3) = N := ⟨_, rfl⟩
          rw [hNS] at HRow3 HY HNn hlk
          clear hNS hx c1 c2 c3 c4 c5 c6 c7 c8 c9 c10 c11 c12 c13 his
          go_wp2_with fail
          refine CH.out.mono ?_
          rintro e w5 ⟨rfl, h5⟩
          obtain rfl := h5.symm
          clear h5 CH
          cases is with
          | true =>
            have HS := Hd (HY.out rfl)
            go_wp2_with (at_builtin; go_loud (refine wpList_append_own _ rfl _ _ 34 rfl wt.heap.size 3 j0 _ 1 8 Tryz.underlying34 hj0 hy0 hy1 hy2 rfl (by decide) _ _ _ rfl (HRow3.out.alloc _) ⟨wr.heap.size, 0, none⟩ 1 1 (ints x.id) rfl rfl (cell_one_new _ _ _) (by simp [ints, Value.oneCell']) (by unfold maxLen; omega) (by omega) (Nat.le_trans HB3.out.size (by simp)) ?_; intro v9 w9 hown9 hgrow9 _))
            have HB9 := Hd ((HB3.out.alloc HB3.out.size (.cells #[.int .i64 x.id] 3)).grown hgrow9 (Nat.le_trans HB3.out.size (by simp)) (fun j e => (HRow3.out.lt j e).1))
            have HO9 := Hd (own_int_next hown9)
            clear hown9 hgrow9
            go_wp2_with fail
            exact ⟨⟨k3 + 1, by omega, by go_num, by rw [HS.out]; exact HO9.out, HB9.out⟩, by simp [intOf]; omega⟩
          | false =>
            have HS := Hd (HNn.out rfl)
            go_wp2_with fail
            exact ⟨⟨k3 + 1, by omega, by go_num, by rw [HS.out]; exact HRow3.out, HB3.out⟩, by simp [intOf]; omega⟩
        · have hltg : ¬ (k3 : Int) < (n : Int) := by omega
          have HT3 := Hd (show xs.take k3 = xs from List.take_of_length_le (by rw [Hl.out]; omega))
          rw [HT3.out] at HRow3
          clear hlt
          go_wp2_with fail
          go_ret
          exact ⟨_, rfl, ownsRow_mono HRow3.out (Nat.le_trans HB1.out.size HB2.out.size), HB1.out.trans ((HB2.out.trans (HB3.out.mono HB2.out.size)).mono HB1.out.size)⟩
theorem box_grown {w W w2 : World} {L : Nat} {cs : List Value} {row : Option Nat} (hb : BoxG w L cs) (hB : Below w.heap.size w W) (hg : W.grownBy w2 row) (hr : ∀ r, row = some r → r ≠ L) : BoxG w2 L cs :=
 (hb.below' hB).keeps (S := row.toList) (Keeps.of_grown' hg (fun r e => by rw [e]; simp)) (fun hm => hr L (Option.mem_toList.1 hm) rfl)
theorem keeps_grown {b W w2 : World} {S : List Nat} {row : Option Nat} (h : Keeps S b W) (hg : W.grownBy w2 row) (hr : ∀ r, row = some r → b.heap.size ≤ r) : Keeps S b w2 :=
 h.of_later (Keeps.of_grown' (S := row.toList) hg (fun r e => by rw [e]; simp)) (fun r hm => .inr (hr r (Option.mem_toList.1 hm)))
theorem made3 {w : World} {u v x y s t : Value} {T T2 T3 : TypeId} : BoxG (((w.alloc (.cells #[u, v] T)).alloc (.cells #[x, y] T2)).alloc (.cells #[s, t] T3)) (w.heap.size + 1 + 1) [s, t] := by
 have := BoxG.made ((w.alloc (.cells #[u, v] T)).alloc (.cells #[x, y] T2)) [s, t] T3
 have hz : ((w.alloc (.cells #[u, v] T)).alloc (.cells #[x, y] T2)).heap.size = w.heap.size + 1 + 1 := by simp
 rw [hz] at this
 exact this
def LiftPost (w : World) (PS TS : List Pa) (e : Ending) (w' : World) : Prop :=
 ∃ pa pn pc ta tn tc, e = .returned (.agg #[.slice pa pn pc, .slice ta tn tc]) ∧ Rd Pa.vals 14 w' pa pn PS ∧ Rd Pa.vals 14 w' ta tn TS ∧ Below w.heap.size w w'
set_option maxRecDepth 100000 in
set_option maxHeartbeats 8000000 in
theorem lifted_r (pa : Option Addr) (pn pc : Nat) (ta : Option Addr) (tn tc : Nat) (PS TS : List Pa) (ia : Option Addr) (il ic : Nat) (IDS : List Int) (w : World) (hp : Rd Pa.vals 14 w pa pn PS) (ht : Rd Pa.vals 14 w ta tn TS) (hids : Rd ints 1 w ia il IDS) (hpn : pn ≤ 1000) (htn : tn ≤ 1000) :
 Calls Tryz.prog 62 #[.agg #[.slice pa pn pc, .slice ta tn tc], .slice ia il ic] w (LiftPost w (liftPs PS IDS) (liftTs TS IDS)) := by
 obtain ⟨i0, hi, hz0, hz1, hz2⟩ := info_parts info_pa
 have hB2 := al' (al' (Below.refl w.heap.size w) (.cells #[.slice pa pn pc, .slice ta tn tc] 91)) (.cells #[.slice none 0 0, .slice none 0 0] 91)
 have hB := al' hB2 (.cells #[.slice none 0 0, .slice none 0 0] 91)
 have hM := ((ManR.box pc tc hp ht 91).below' (al' (Below.refl _ _) (.cells #[.slice none 0 0, .slice none 0 0] 91))).below' (al' (Below.refl _ _) (.cells #[.slice none 0 0, .slice none 0 0] 91))
 have hR := (made2 (w := w) (u := .slice pa pn pc) (v := .slice ta tn tc) (x := .slice none 0 0) (y := .slice none 0 0) (z := .slice none 0 0) (t := .slice none 0 0) (T := 91) (T2 := 91)).below' (al' (Below.refl _ _) (.cells #[.slice none 0 0, .slice none 0 0] 91))
 have hL := made3 (w := w) (u := .slice pa pn pc) (v := .slice ta tn tc) (x := .slice none 0 0) (y := .slice none 0 0) (s := .slice none 0 0) (t := .slice none 0 0) (T := 91) (T2 := 91) (T3 := 91)
 have HM := Hd hM
 have HBw3 := Hd hB
 have HR := Hd hR
 have HL0 := Hd hL
 have HP := Hd hp
 have HT := Hd ht
 have HI := Hd hids
 have Hpl := Hd hp.len
 have Htl := Hd ht.len
 clear hM hB hB2 hR hL hp ht hids
 obtain ⟨PSL, hPSL⟩ : ∃ p, liftPs PS IDS = p := ⟨_, rfl⟩
 obtain ⟨TSL, hTSL⟩ : ∃ p, liftTs TS IDS = p := ⟨_, rfl⟩
 rw [hPSL, hTSL]
 have HPSL := Hd (show PS.map (liftP (fun i => IDS.contains i)) = PSL from hPSL)
 have HTSL := Hd (show TS.map (liftT (fun i => IDS.contains i)) = TSL from hTSL)
 clear hPSL hTSL
 go_enter Tryz.func62, Tryz.ntmps62
 go_upto_region 2 with (fail)
 generalize ((w.alloc (.cells #[.slice pa pn pc, .slice ta tn tc] 91)).alloc (.cells #[.slice none 0 0, .slice none 0 0] 91)).alloc (.cells #[.slice none 0 0, .slice none 0 0] 91) = w3 at *
 obtain ⟨M, hMe⟩ : ∃ M, w.heap.size = M := ⟨_, rfl⟩
 have HMe := Hd hMe
 rw [hMe] at HM HR HL0 ⊢
 clear hMe
 obtain ⟨L, hLe⟩ : ∃ L, M + 1 + 1 = L := ⟨_, rfl⟩
 have HML := Hd (show M < L from by omega)
 have HRL := Hd (show M + 1 < L from by omega)
 have HLw := Hd (show w.heap.size ≤ L from by have := HMe.out; omega)
 rw [hLe] at HL0 ⊢
 clear hLe
 have HLb := Hd (show L < w3.heap.size from HL0.out.1)
 go_wp2_with fail
 go_loopw [6] (fun i wr => ∃ (k : Nat) (v : Value), k ≤ pn ∧ i = .int .i64 k ∧ wr.ownsRow w3.heap.size 26 14 v ((PS.take k).map (liftP (fun i => IDS.contains i))).length (((PS.take k).map (liftP (fun i => IDS.contains i))).flatMap Pa.vals) ∧ BoxG wr L [v, .slice none 0 0] ∧ Keeps [L] w3 wr) (fun i _ => pn - (intOf i).toNat)
 case atStart => exact ⟨0, .slice none 0 0, Nat.zero_le _, rfl, World.ownsRow_nil _ _ _ _, HL0.out, Keeps.refl _ _⟩
 case round =>
  obtain ⟨k, v, hk, rfl, hrow, hL, hkp⟩ := hrel
  have HRow := Hd hrow
  have HL := Hd hL
  have HK := Hd hkp
  have HBr := Hd (HK.out.below_then HBw3.out (fun y hy => by have h1 := List.mem_singleton.1 hy; have h2 := HLw.out; omega) (Nat.le_refl _))
  have hML : M ∉ [L] := by have := HML.out; simp; omega
  have m0 := HK.out.cell HM.out.c0 hML
  have m1 := HK.out.cell HM.out.c1 hML
  clear hrow hL hkp hML
  by_cases hlt : k < pn
  · have hlt' : (k : Int) < (pn : Int) := by omega
    obtain ⟨b, off, x, hpa, hb, hx, c0, c1, c2, c3, c4, c5, c6, c7, c8, c9, c10, c11, c12, c13⟩ := (HP.out.below' HBr.out).pa hlt
    have HN := Hd (show (PS.take (k + 1)).map (liftP (fun i => IDS.contains i)) = (PS.take k).map (liftP (fun i => IDS.contains i)) ++ [liftP (fun i => IDS.contains i) x] from by rw [take_succ_snoc hx, List.map_append]; rfl)
    have hfl : ((PS.take k).map (liftP (fun i => IDS.contains i))).length ≤ 1000 := by rw [List.length_map, List.length_take]; omega
    obtain ⟨RL, hRL⟩ : ∃ L, (PS.take k).map (liftP (fun i => IDS.contains i)) = L := ⟨_, rfl⟩
    rw [hRL] at HRow HN hfl
    obtain ⟨z, hz⟩ : ∃ z, liftP (fun i => IDS.contains i) x = z := ⟨_, rfl⟩
    rw [hz] at HN
    obtain ⟨is, his⟩ : ∃ b, IDS.contains x.id = b := ⟨_, rfl⟩
    have HZt := Hd (show is = true → z = x from fun e => by rw [← hz]; unfold liftP; show (if IDS.contains x.id = true then x else _) = _; rw [his, e]; rfl)
    have HZf := Hd (show is = false → z = { x with low := 1, high := 100000 } from fun e => by rw [← hz]; unfold liftP; show (if IDS.contains x.id = true then x else _) = _; rw [his, e]; rfl)
    have CH := Hd (fun W (hW : Below w.heap.size w W) => has_r ia il ic IDS x.id W (HI.out.below' hW))
    rw [his] at CH
    clear hx hRL hz his
    subst hpa
    go_upto_region 6 with (fail)
    have hyb := BoxG.made wr [.int .i64 x.id, .int .i64 x.known, .int .u8 x.kind, .int .i64 x.loss, .int .i64 x.pack, .int .i64 x.inn, .string ⟨x.mark.toArray⟩, .string ⟨x.goods.toArray⟩, .int .i64 x.low, .int .i64 x.high, .int .i64 x.pieces, .int .i64 x.owner, .int .i64 x.count, .int .i64 x.of] 26
    have hBy := al' (Below.refl wr.heap.size wr) (.cells #[.int .i64 x.id, .int .i64 x.known, .int .u8 x.kind, .int .i64 x.loss, .int .i64 x.pack, .int .i64 x.inn, .string ⟨x.mark.toArray⟩, .string ⟨x.goods.toArray⟩, .int .i64 x.low, .int .i64 x.high, .int .i64 x.pieces, .int .i64 x.owner, .int .i64 x.count, .int .i64 x.of] 26)
    have HB8 := Hd (HBr.out.trans (hBy.mono HBr.out.size))
    have HK8 := Hd (HK.out.then_below hBy)
    have HRow8 := Hd (own_later' HRow.out hBy)
    have HL8 := Hd (HL.out.below' hBy)
    have HRy := Hd (fun r e => (HRow.out.lt r e).2)
    have HYw := Hd (show w3.heap.size ≤ wr.heap.size from HK.out.size)
    have HYl := Hd (show L < wr.heap.size from HL.out.1)
    have HY := Hd hyb
    clear hBy hyb c0 c1 c2 c3 c4 c5 c6 c7 c8 c9 c10 c11 c12 c13 m0 m1 HBr HRow HL HK hb
    generalize wr.alloc (.cells #[.int .i64 x.id, .int .i64 x.known, .int .u8 x.kind, .int .i64 x.loss, .int .i64 x.pack, .int .i64 x.inn, .string ⟨x.mark.toArray⟩, .string ⟨x.goods.toArray⟩, .int .i64 x.low, .int .i64 x.high, .int .i64 x.pieces, .int .i64 x.owner, .int .i64 x.count, .int .i64 x.of] 26) = w8 at *
    obtain ⟨Y, hY⟩ : ∃ Y, wr.heap.size = Y := ⟨_, rfl⟩
    rw [hY] at HY HRy HYw HYl ⊢
    clear hY
    have y0 : w8.cell? ⟨Y, 0, none⟩ = some (.int .i64 x.id) := (BoxG.pa (x := x) HY.out).1
    go_upto_region 7 with (go_at_call 116; refine (CH.out _ HB8.out).mono ?_; rintro e w9 ⟨rfl, h9⟩; obtain rfl := h9.symm; clear h9)
    clear y0 CH
    cases is with
    | true =>
      have HZ := Hd (show BoxG w8 Y z.vals from by rw [HZt.out rfl]; exact HY.out)
      have HRow := HRow8
      have HLx := HL8
      have HKx := HK8
      clear HZt HZf HY HRow8 HL8 HK8
      obtain ⟨e0, e1, e2, e3, e4, e5, e6, e7, e8, e9, e10, e11, e12, e13⟩ := BoxG.pa (x := z) HZ.out
      obtain ⟨l0, l1, lf, ll⟩ := pair_facts HLx.out
      have HG := Hd (fun w2 row (hg : (w8.alloc (.cells #[.int .i64 z.id, .int .i64 z.known, .int .u8 z.kind, .int .i64 z.loss, .int .i64 z.pack, .int .i64 z.inn, .string ⟨z.mark.toArray⟩, .string ⟨z.goods.toArray⟩, .int .i64 z.low, .int .i64 z.high, .int .i64 z.pieces, .int .i64 z.owner, .int .i64 z.count, .int .i64 z.of] 26)).grownBy w2 row) (hr : ∀ r, row = some r → w3.heap.size ≤ r) => (show BoxG w2 L [v, .slice none 0 0] ∧ Keeps [L] w3 w2 from ⟨box_grown HLx.out (al' (Below.refl _ _) _) hg (fun r e e2 => by have h1 := hr r e; have h2 := HLb.out; omega), keeps_grown (HKx.out.then_below (al' (Below.refl _ _) (.cells #[.int .i64 z.id, .int .i64 z.known, .int .u8 z.kind, .int .i64 z.loss, .int .i64 z.pack, .int .i64 z.inn, .string ⟨z.mark.toArray⟩, .string ⟨z.goods.toArray⟩, .int .i64 z.low, .int .i64 z.high, .int .i64 z.pieces, .int .i64 z.owner, .int .i64 z.count, .int .i64 z.of] 26))) hg hr⟩))
      go_wp2_with (at_builtin; refine wpList_append_own _ rfl _ _ 22 rfl w3.heap.size 26 i0 _ 14 128 Tryz.underlying22 hi hz0 hz1 hz2 rfl (by decide) _ _ _ rfl (HRow.out.alloc _) ⟨w8.heap.size, 0, none⟩ 1 1 (Pa.vals z) rfl rfl (World.news_of_block (cs := #[.int .i64 z.id, .int .i64 z.known, .int .u8 z.kind, .int .i64 z.loss, .int .i64 z.pack, .int .i64 z.inn, .string ⟨z.mark.toArray⟩, .string ⟨z.goods.toArray⟩, .int .i64 z.low, .int .i64 z.high, .int .i64 z.pieces, .int .i64 z.owner, .int .i64 z.count, .int .i64 z.of]) (t := 26) (fr := (0, 0)) (heap_alloc_new w8 _)) (by simp [Pa.vals, Value.oneCell']) (by unfold maxLen; omega) (by omega) (Nat.le_trans HKx.out.size (by simp)) ?_; intro v2 w2 hown2 hgrow2 _; obtain ⟨hl2, hk2⟩ := HG.out w2 _ hgrow2 (fun r e => (HRow.out.lt r e).1); have HL2 := Hd hl2; have HK2 := Hd hk2; obtain ⟨l0, l1, lf, ll⟩ := pair_facts hl2; have ho2 := own_pa_next hown2; obtain ⟨oa2, oc2, hv2, _, _⟩ := own_open ho2 (by simp) (by unfold maxLen; omega); subst hv2; have HO2 := Hd ho2; clear hl2 hk2 hgrow2 hown2 ho2)
      have HOl := Hd (show (Value.slice oa2 (RL.length + 1) oc2).ownBlock ≠ some L from fun e => by have h1 := (HO2.out.lt L e).1; have h2 := HLb.out; omega)
      exact ⟨⟨k + 1, .slice oa2 (RL.length + 1) oc2, by omega, by go_num, by rw [HN.out, List.length_append]; exact (show Keeps [L] w2 (w2.setCell ⟨L, 0, none⟩ (.slice oa2 (RL.length + 1) oc2)) from Keeps.setCell w2 ⟨L, 0, none⟩ _).own HO2.out (fun r e hm => HOl.out (by rw [e, List.mem_singleton.1 hm])), HL2.out.set 0 _ (by simp), HK2.out.then_set ⟨L, 0, none⟩ _ (.inl (by simp))⟩, by simp [intOf]; omega⟩
    | false =>
      have yf := HY.out.2.1
      have yf8 := yf 8
      have yf9 := yf (8 + 1)
      have yl := HY.out.1
      have y8 : w8.cell? ⟨Y, 8, none⟩ = some (.int .i64 x.low) := (BoxG.pa (x := x) HY.out).2.2.2.2.2.2.2.2.1
      have y9 : w8.cell? ⟨Y, 8 + 1, none⟩ = some (.int .i64 x.high) := (BoxG.pa (x := x) HY.out).2.2.2.2.2.2.2.2.2.1
      go_upto_region 9 with (fail)
      have HW9 := Hd (ends_box HY.out 1 100000)
      have HKy := Hd (show Keeps [Y] w8 ((w8.setCell ⟨Y, 8, none⟩ (.int .i64 1)).setCell ⟨Y, 8 + 1, none⟩ (.int .i64 100000)) from (Keeps.setCell w8 ⟨Y, 8, none⟩ _).then_set ⟨Y, 8 + 1, none⟩ _ (.inl (by simp)))
      have HRow := Hd (HKy.out.own HRow8.out (fun r e hm => by have h1 := HRy.out r e; have h2 := List.mem_singleton.1 hm; omega))
      have HLx := Hd (HL8.out.keeps HKy.out (by have := HYl.out; simp; omega))
      have HKx := Hd (HK8.out.of_later HKy.out (fun y hy => .inr (by have h1 := List.mem_singleton.1 hy; have := HYw.out; omega)))
      clear HKy HRow8 HL8 HK8 yf yf8 yf9 yl y8 y9 HY
      generalize (w8.setCell ⟨Y, 8, none⟩ (.int .i64 1)).setCell ⟨Y, 8 + 1, none⟩ (.int .i64 100000) = w10 at *
      have HZ := Hd (show BoxG w10 Y z.vals from by rw [HZf.out rfl]; exact HW9.out)
      clear HZt HZf HW9
      obtain ⟨e0, e1, e2, e3, e4, e5, e6, e7, e8, e9, e10, e11, e12, e13⟩ := BoxG.pa (x := z) HZ.out
      obtain ⟨l0, l1, lf, ll⟩ := pair_facts HLx.out
      have HG := Hd (fun w2 row (hg : (w10.alloc (.cells #[.int .i64 z.id, .int .i64 z.known, .int .u8 z.kind, .int .i64 z.loss, .int .i64 z.pack, .int .i64 z.inn, .string ⟨z.mark.toArray⟩, .string ⟨z.goods.toArray⟩, .int .i64 z.low, .int .i64 z.high, .int .i64 z.pieces, .int .i64 z.owner, .int .i64 z.count, .int .i64 z.of] 26)).grownBy w2 row) (hr : ∀ r, row = some r → w3.heap.size ≤ r) => (show BoxG w2 L [v, .slice none 0 0] ∧ Keeps [L] w3 w2 from ⟨box_grown HLx.out (al' (Below.refl _ _) _) hg (fun r e e2 => by have h1 := hr r e; have h2 := HLb.out; omega), keeps_grown (HKx.out.then_below (al' (Below.refl _ _) (.cells #[.int .i64 z.id, .int .i64 z.known, .int .u8 z.kind, .int .i64 z.loss, .int .i64 z.pack, .int .i64 z.inn, .string ⟨z.mark.toArray⟩, .string ⟨z.goods.toArray⟩, .int .i64 z.low, .int .i64 z.high, .int .i64 z.pieces, .int .i64 z.owner, .int .i64 z.count, .int .i64 z.of] 26))) hg hr⟩))
      go_wp2_with (at_builtin; refine wpList_append_own _ rfl _ _ 22 rfl w3.heap.size 26 i0 _ 14 128 Tryz.underlying22 hi hz0 hz1 hz2 rfl (by decide) _ _ _ rfl (HRow.out.alloc _) ⟨w10.heap.size, 0, none⟩ 1 1 (Pa.vals z) rfl rfl (World.news_of_block (cs := #[.int .i64 z.id, .int .i64 z.known, .int .u8 z.kind, .int .i64 z.loss, .int .i64 z.pack, .int .i64 z.inn, .string ⟨z.mark.toArray⟩, .string ⟨z.goods.toArray⟩, .int .i64 z.low, .int .i64 z.high, .int .i64 z.pieces, .int .i64 z.owner, .int .i64 z.count, .int .i64 z.of]) (t := 26) (fr := (0, 0)) (heap_alloc_new w10 _)) (by simp [Pa.vals, Value.oneCell']) (by unfold maxLen; omega) (by omega) (Nat.le_trans HKx.out.size (by simp)) ?_; intro v2 w2 hown2 hgrow2 _; obtain ⟨hl2, hk2⟩ := HG.out w2 _ hgrow2 (fun r e => (HRow.out.lt r e).1); have HL2 := Hd hl2; have HK2 := Hd hk2; obtain ⟨l0, l1, lf, ll⟩ := pair_facts hl2; have ho2 := own_pa_next hown2; obtain ⟨oa2, oc2, hv2, _, _⟩ := own_open ho2 (by simp) (by unfold maxLen; omega); subst hv2; have HO2 := Hd ho2; clear hl2 hk2 hgrow2 hown2 ho2)
      have HOl := Hd (show (Value.slice oa2 (RL.length + 1) oc2).ownBlock ≠ some L from fun e => by have h1 := (HO2.out.lt L e).1; have h2 := HLb.out; omega)
      exact ⟨⟨k + 1, .slice oa2 (RL.length + 1) oc2, by omega, by go_num, by rw [HN.out, List.length_append]; exact (show Keeps [L] w2 (w2.setCell ⟨L, 0, none⟩ (.slice oa2 (RL.length + 1) oc2)) from Keeps.setCell w2 ⟨L, 0, none⟩ _).own HO2.out (fun r e hm => HOl.out (by rw [e, List.mem_singleton.1 hm])), HL2.out.set 0 _ (by simp), HK2.out.then_set ⟨L, 0, none⟩ _ (.inl (by simp))⟩, by simp [intOf]; omega⟩
  · have hltg : ¬ (k : Int) < (pn : Int) := by omega
    have HT1 := Hd (show PS.take k = PS from List.take_of_length_le (by rw [Hpl.out]; omega))
    rw [HT1.out] at HRow
    have hpl2 : (PS.map (liftP (fun i => IDS.contains i))).length ≤ 1000 := by rw [List.length_map, Hpl.out]; exact hpn
    obtain ⟨PL, hPL⟩ : ∃ n, (PS.map (liftP (fun i => IDS.contains i))).length = n := ⟨_, rfl⟩
    have HRow' := HRow
    rw [hPL] at HRow' hpl2
    obtain ⟨oa, oc, rfl, hro, hob⟩ := own_open HRow'.out hPL (by unfold maxLen; omega)
    have HRo := Hd hro
    have HOb := Hd (show ∀ p, oa = some p → p.block ∉ [L] from fun p e hm => by have h1 := (hob p e).1; have h2 := HLb.out; have h3 := List.mem_singleton.1 hm; omega)
    have HOR := Hd (show ∀ p, oa = some p → p.block ∉ [M + 1] from fun p e hm => by have h1 := (hob p e).1; have h2 := HLb.out; have h3 := List.mem_singleton.1 hm; have h4 := HRL.out; omega)
    have HMw := Hd (show ManR wr M pa pn pc ta tn tc PS TS from ⟨m0, m1, HP.out.below' HBr.out, HT.out.below' HBr.out⟩)
    have HRw := Hd (HR.out.keeps HK.out (by have := HRL.out; simp; omega))
    clear hro hob hlt HRow HRow' hPL HL0
    obtain ⟨wo, rfl⟩ : ∃ wo : World, wo = wr := ⟨_, rfl⟩
    have HBwo := HBr
    have HLb0 := HLb
    clear HLb
    have HLb := Hd (show L < wo.heap.size from HL.out.1)
    go_wp2_with fail
    go_loopw [9] (fun i wr => ∃ (k : Nat) (v : Value), k ≤ tn ∧ i = .int .i64 k ∧ wr.ownsRow wo.heap.size 26 14 v ((TS.take k).map (liftT (fun i => IDS.contains i))).length (((TS.take k).map (liftT (fun i => IDS.contains i))).flatMap Pa.vals) ∧ BoxG wr L [.slice oa PL oc, v] ∧ Keeps [L] wo wr) (fun i _ => tn - (intOf i).toNat)
    case atStart => exact ⟨0, .slice none 0 0, Nat.zero_le _, rfl, World.ownsRow_nil _ _ _ _, HL.out, Keeps.refl _ _⟩
    case round =>
     clear HL HK HBr m0 m1
     obtain ⟨k, v, hk, rfl, hrow, hL, hkp⟩ := hrel
     have HRow := Hd hrow
     have HL := Hd hL
     have HK := Hd hkp
     have HBr := Hd (HK.out.below_then HBwo.out (fun y hy => by have h1 := List.mem_singleton.1 hy; have h2 := HLw.out; omega) (Nat.le_refl _))
     have hML : M ∉ [L] := by have := HML.out; simp; omega
     have m0 := HK.out.cell HMw.out.c0 hML
     have m1 := HK.out.cell HMw.out.c1 hML
     clear hrow hL hkp hML
     by_cases hlt : k < tn
     · have hlt' : (k : Int) < (tn : Int) := by omega
       obtain ⟨b, off, x, hpa, hb, hx, c0, c1, c2, c3, c4, c5, c6, c7, c8, c9, c10, c11, c12, c13⟩ := (HT.out.below' HBr.out).pa hlt
       have HN := Hd (show (TS.take (k + 1)).map (liftT (fun i => IDS.contains i)) = (TS.take k).map (liftT (fun i => IDS.contains i)) ++ [liftT (fun i => IDS.contains i) x] from by rw [take_succ_snoc hx, List.map_append]; rfl)
       have hfl : ((TS.take k).map (liftT (fun i => IDS.contains i))).length ≤ 1000 := by rw [List.length_map, List.length_take]; omega
       obtain ⟨RL, hRL⟩ : ∃ L, (TS.take k).map (liftT (fun i => IDS.contains i)) = L := ⟨_, rfl⟩
       rw [hRL] at HRow HN hfl
       obtain ⟨z, hz⟩ : ∃ z, liftT (fun i => IDS.contains i) x = z := ⟨_, rfl⟩
       rw [hz] at HN
       obtain ⟨is, his⟩ : ∃ b, IDS.contains x.id = b := ⟨_, rfl⟩
       have HZt := Hd (show is = true → z = x from fun e => by rw [← hz]; unfold liftT; show (if IDS.contains x.id = true then x else _) = _; rw [his, e]; rfl)
       have HZf := Hd (show is = false → z = { x with low := 0, high := 10000000 } from fun e => by rw [← hz]; unfold liftT; show (if IDS.contains x.id = true then x else _) = _; rw [his, e]; rfl)
       have CH := Hd (fun W (hW : Below w.heap.size w W) => has_r ia il ic IDS x.id W (HI.out.below' hW))
       rw [his] at CH
       clear hx hRL hz his
       subst hpa
       go_upto_region 14 with (fail)
       have hyb := BoxG.made wr [.int .i64 x.id, .int .i64 x.known, .int .u8 x.kind, .int .i64 x.loss, .int .i64 x.pack, .int .i64 x.inn, .string ⟨x.mark.toArray⟩, .string ⟨x.goods.toArray⟩, .int .i64 x.low, .int .i64 x.high, .int .i64 x.pieces, .int .i64 x.owner, .int .i64 x.count, .int .i64 x.of] 26
       have hBy := al' (Below.refl wr.heap.size wr) (.cells #[.int .i64 x.id, .int .i64 x.known, .int .u8 x.kind, .int .i64 x.loss, .int .i64 x.pack, .int .i64 x.inn, .string ⟨x.mark.toArray⟩, .string ⟨x.goods.toArray⟩, .int .i64 x.low, .int .i64 x.high, .int .i64 x.pieces, .int .i64 x.owner, .int .i64 x.count, .int .i64 x.of] 26)
       have HB8 := Hd (HBr.out.trans (hBy.mono HBr.out.size))
       have HK8 := Hd (HK.out.then_below hBy)
       have HRow8 := Hd (own_later' HRow.out hBy)
       have HL8 := Hd (HL.out.below' hBy)
       have HRy := Hd (fun r e => (HRow.out.lt r e).2)
       have HYw := Hd (show wo.heap.size ≤ wr.heap.size from HK.out.size)
       have HYl := Hd (show L < wr.heap.size from HL.out.1)
       have HY := Hd hyb
       clear hBy hyb c0 c1 c2 c3 c4 c5 c6 c7 c8 c9 c10 c11 c12 c13 m0 m1 HBr HRow HL HK hb
       generalize wr.alloc (.cells #[.int .i64 x.id, .int .i64 x.known, .int .u8 x.kind, .int .i64 x.loss, .int .i64 x.pack, .int .i64 x.inn, .string ⟨x.mark.toArray⟩, .string ⟨x.goods.toArray⟩, .int .i64 x.low, .int .i64 x.high, .int .i64 x.pieces, .int .i64 x.owner, .int .i64 x.count, .int .i64 x.of] 26) = w8 at *
       obtain ⟨Y, hY⟩ : ∃ Y, wr.heap.size = Y := ⟨_, rfl⟩
       rw [hY] at HY HRy HYw HYl ⊢
       clear hY
       have y0 : w8.cell? ⟨Y, 0, none⟩ = some (.int .i64 x.id) := (BoxG.pa (x := x) HY.out).1
       go_upto_region 15 with (go_at_call 116; refine (CH.out _ HB8.out).mono ?_; rintro e w9 ⟨rfl, h9⟩; obtain rfl := h9.symm; clear h9)
       clear y0 CH
       cases is with
       | true =>
         have HZ := Hd (show BoxG w8 Y z.vals from by rw [HZt.out rfl]; exact HY.out)
         have HRow := HRow8
         have HLx := HL8
         have HKx := HK8
         clear HZt HZf HY HRow8 HL8 HK8
         obtain ⟨e0, e1, e2, e3, e4, e5, e6, e7, e8, e9, e10, e11, e12, e13⟩ := BoxG.pa (x := z) HZ.out
         obtain ⟨l0, l1, lf, ll⟩ := pair_facts HLx.out
         have HG := Hd (fun w2 row (hg : (w8.alloc (.cells #[.int .i64 z.id, .int .i64 z.known, .int .u8 z.kind, .int .i64 z.loss, .int .i64 z.pack, .int .i64 z.inn, .string ⟨z.mark.toArray⟩, .string ⟨z.goods.toArray⟩, .int .i64 z.low, .int .i64 z.high, .int .i64 z.pieces, .int .i64 z.owner, .int .i64 z.count, .int .i64 z.of] 26)).grownBy w2 row) (hr : ∀ r, row = some r → wo.heap.size ≤ r) => (show BoxG w2 L [.slice oa PL oc, v] ∧ Keeps [L] wo w2 from ⟨box_grown HLx.out (al' (Below.refl _ _) _) hg (fun r e e2 => by have h1 := hr r e; have h2 := HLb.out; omega), keeps_grown (HKx.out.then_below (al' (Below.refl _ _) (.cells #[.int .i64 z.id, .int .i64 z.known, .int .u8 z.kind, .int .i64 z.loss, .int .i64 z.pack, .int .i64 z.inn, .string ⟨z.mark.toArray⟩, .string ⟨z.goods.toArray⟩, .int .i64 z.low, .int .i64 z.high, .int .i64 z.pieces, .int .i64 z.owner, .int .i64 z.count, .int .i64 z.of] 26))) hg hr⟩))
         go_wp2_with (at_builtin; refine wpList_append_own _ rfl _ _ 22 rfl wo.heap.size 26 i0 _ 14 128 Tryz.underlying22 hi hz0 hz1 hz2 rfl (by decide) _ _ _ rfl (HRow.out.alloc _) ⟨w8.heap.size, 0, none⟩ 1 1 (Pa.vals z) rfl rfl (World.news_of_block (cs := #[.int .i64 z.id, .int .i64 z.known, .int .u8 z.kind, .int .i64 z.loss, .int .i64 z.pack, .int .i64 z.inn, .string ⟨z.mark.toArray⟩, .string ⟨z.goods.toArray⟩, .int .i64 z.low, .int .i64 z.high, .int .i64 z.pieces, .int .i64 z.owner, .int .i64 z.count, .int .i64 z.of]) (t := 26) (fr := (0, 0)) (heap_alloc_new w8 _)) (by simp [Pa.vals, Value.oneCell']) (by unfold maxLen; omega) (by omega) (Nat.le_trans HKx.out.size (by simp)) ?_; intro v2 w2 hown2 hgrow2 _; obtain ⟨hl2, hk2⟩ := HG.out w2 _ hgrow2 (fun r e => (HRow.out.lt r e).1); have HL2 := Hd hl2; have HK2 := Hd hk2; obtain ⟨l0, l1, lf, ll⟩ := pair_facts hl2; have ho2 := own_pa_next hown2; obtain ⟨oa2, oc2, hv2, _, _⟩ := own_open ho2 (by simp) (by unfold maxLen; omega); subst hv2; have HO2 := Hd ho2; clear hl2 hk2 hgrow2 hown2 ho2)
         have HOl := Hd (show (Value.slice oa2 (RL.length + 1) oc2).ownBlock ≠ some L from fun e => by have h1 := (HO2.out.lt L e).1; have h2 := HLb.out; omega)
         exact ⟨⟨k + 1, .slice oa2 (RL.length + 1) oc2, by omega, by go_num, by rw [HN.out, List.length_append]; exact (show Keeps [L] w2 (w2.setCell ⟨L, 1, none⟩ (.slice oa2 (RL.length + 1) oc2)) from Keeps.setCell w2 ⟨L, 1, none⟩ _).own HO2.out (fun r e hm => HOl.out (by rw [e, List.mem_singleton.1 hm])), HL2.out.set 1 _ (by simp), HK2.out.then_set ⟨L, 1, none⟩ _ (.inl (by simp))⟩, by simp [intOf]; omega⟩
       | false =>
         have yf := HY.out.2.1
         have yf8 := yf 8
         have yf9 := yf (8 + 1)
         have yl := HY.out.1
         have y8 : w8.cell? ⟨Y, 8, none⟩ = some (.int .i64 x.low) := (BoxG.pa (x := x) HY.out).2.2.2.2.2.2.2.2.1
         have y9 : w8.cell? ⟨Y, 8 + 1, none⟩ = some (.int .i64 x.high) := (BoxG.pa (x := x) HY.out).2.2.2.2.2.2.2.2.2.1
         go_upto_region 17 with (fail)
         have HW9 := Hd (ends_box HY.out 0 10000000)
         have HKy := Hd (show Keeps [Y] w8 ((w8.setCell ⟨Y, 8, none⟩ (.int .i64 0)).setCell ⟨Y, 8 + 1, none⟩ (.int .i64 10000000)) from (Keeps.setCell w8 ⟨Y, 8, none⟩ _).then_set ⟨Y, 8 + 1, none⟩ _ (.inl (by simp)))
         have HRow := Hd (HKy.out.own HRow8.out (fun r e hm => by have h1 := HRy.out r e; have h2 := List.mem_singleton.1 hm; omega))
         have HLx := Hd (HL8.out.keeps HKy.out (by have := HYl.out; simp; omega))
         have HKx := Hd (HK8.out.of_later HKy.out (fun y hy => .inr (by have h1 := List.mem_singleton.1 hy; have := HYw.out; omega)))
         clear HKy HRow8 HL8 HK8 yf yf8 yf9 yl y8 y9 HY
         generalize (w8.setCell ⟨Y, 8, none⟩ (.int .i64 0)).setCell ⟨Y, 8 + 1, none⟩ (.int .i64 10000000) = w10 at *
         have HZ := Hd (show BoxG w10 Y z.vals from by rw [HZf.out rfl]; exact HW9.out)
         clear HZt HZf HW9
         obtain ⟨e0, e1, e2, e3, e4, e5, e6, e7, e8, e9, e10, e11, e12, e13⟩ := BoxG.pa (x := z) HZ.out
         obtain ⟨l0, l1, lf, ll⟩ := pair_facts HLx.out
         have HG := Hd (fun w2 row (hg : (w10.alloc (.cells #[.int .i64 z.id, .int .i64 z.known, .int .u8 z.kind, .int .i64 z.loss, .int .i64 z.pack, .int .i64 z.inn, .string ⟨z.mark.toArray⟩, .string ⟨z.goods.toArray⟩, .int .i64 z.low, .int .i64 z.high, .int .i64 z.pieces, .int .i64 z.owner, .int .i64 z.count, .int .i64 z.of] 26)).grownBy w2 row) (hr : ∀ r, row = some r → wo.heap.size ≤ r) => (show BoxG w2 L [.slice oa PL oc, v] ∧ Keeps [L] wo w2 from ⟨box_grown HLx.out (al' (Below.refl _ _) _) hg (fun r e e2 => by have h1 := hr r e; have h2 := HLb.out; omega), keeps_grown (HKx.out.then_below (al' (Below.refl _ _) (.cells #[.int .i64 z.id, .int .i64 z.known, .int .u8 z.kind, .int .i64 z.loss, .int .i64 z.pack, .int .i64 z.inn, .string ⟨z.mark.toArray⟩, .string ⟨z.goods.toArray⟩, .int .i64 z.low, .int .i64 z.high, .int .i64 z.pieces, .int .i64 z.owner, .int .i64 z.count, .int .i64 z.of] 26))) hg hr⟩))
         go_wp2_with (at_builtin; refine wpList_append_own _ rfl _ _ 22 rfl wo.heap.size 26 i0 _ 14 128 Tryz.underlying22 hi hz0 hz1 hz2 rfl (by decide) _ _ _ rfl (HRow.out.alloc _) ⟨w10.heap.size, 0, none⟩ 1 1 (Pa.vals z) rfl rfl (World.news_of_block (cs := #[.int .i64 z.id, .int .i64 z.known, .int .u8 z.kind, .int .i64 z.loss, .int .i64 z.pack, .int .i64 z.inn, .string ⟨z.mark.toArray⟩, .string ⟨z.goods.toArray⟩, .int .i64 z.low, .int .i64 z.high, .int .i64 z.pieces, .int .i64 z.owner, .int .i64 z.count, .int .i64 z.of]) (t := 26) (fr := (0, 0)) (heap_alloc_new w10 _)) (by simp [Pa.vals, Value.oneCell']) (by unfold maxLen; omega) (by omega) (Nat.le_trans HKx.out.size (by simp)) ?_; intro v2 w2 hown2 hgrow2 _; obtain ⟨hl2, hk2⟩ := HG.out w2 _ hgrow2 (fun r e => (HRow.out.lt r e).1); have HL2 := Hd hl2; have HK2 := Hd hk2; obtain ⟨l0, l1, lf, ll⟩ := pair_facts hl2; have ho2 := own_pa_next hown2; obtain ⟨oa2, oc2, hv2, _, _⟩ := own_open ho2 (by simp) (by unfold maxLen; omega); subst hv2; have HO2 := Hd ho2; clear hl2 hk2 hgrow2 hown2 ho2)
         have HOl := Hd (show (Value.slice oa2 (RL.length + 1) oc2).ownBlock ≠ some L from fun e => by have h1 := (HO2.out.lt L e).1; have h2 := HLb.out; omega)
         exact ⟨⟨k + 1, .slice oa2 (RL.length + 1) oc2, by omega, by go_num, by rw [HN.out, List.length_append]; exact (show Keeps [L] w2 (w2.setCell ⟨L, 1, none⟩ (.slice oa2 (RL.length + 1) oc2)) from Keeps.setCell w2 ⟨L, 1, none⟩ _).own HO2.out (fun r e hm => HOl.out (by rw [e, List.mem_singleton.1 hm])), HL2.out.set 1 _ (by simp), HK2.out.then_set ⟨L, 1, none⟩ _ (.inl (by simp))⟩, by simp [intOf]; omega⟩
     · have hltg : ¬ (k : Int) < (tn : Int) := by omega
       have HT2 := Hd (show TS.take k = TS from List.take_of_length_le (by rw [Htl.out]; omega))
       rw [HT2.out] at HRow
       have htl2 : (TS.map (liftT (fun i => IDS.contains i))).length ≤ 1000 := by rw [List.length_map, Htl.out]; exact htn
       obtain ⟨TL, hTL⟩ : ∃ n, (TS.map (liftT (fun i => IDS.contains i))).length = n := ⟨_, rfl⟩
       rw [hTL] at HRow htl2
       obtain ⟨ob, od, rfl, hro2, hob2⟩ := own_open HRow.out hTL (by unfold maxLen; omega)
       have HRo1 := Hd (HK.out.rd HRo.out (fun _ p e hm => HOb.out p e hm))
       have HRo2 := Hd hro2
       have HOR2 := Hd (show ∀ p, ob = some p → p.block ∉ [M + 1] from fun p e hm => by have h1 := (hob2 p e).1; have h2 := HLb.out; have h3 := List.mem_singleton.1 hm; have h4 := HRL.out; omega)
       have HRr := Hd (HRw.out.keeps HK.out (by have := HRL.out; simp; omega))
       obtain ⟨l0, l1, lf, ll⟩ := pair_facts HL.out
       obtain ⟨r0, r1, rf, rl⟩ := pair_facts HRr.out
       have HM0 := Hd (show w.heap.size ≤ M + 1 from by have := HMe.out; omega)
       clear hro2 hob2 hlt HRow hTL
       go_wp2_with fail
       have hsk := (two_set (u := .slice oa PL oc) (v := .slice ob TL od) HRr.out).2.2.2
       have hf1 := hsk.rd HRo1.out (fun _ p e hm => HOR.out p e hm)
       have hf2 := hsk.rd HRo2.out (fun _ p e hm => HOR2.out p e hm)
       obtain ⟨wf, hwf, s0, s1, sl, hBf⟩ := two_end (u := .slice oa PL oc) (v := .slice ob TL od) HRr.out HBr.out HM0.out
       rw [hwf] at hf1 hf2 ⊢
       exact bodyPost_ret (by simp [results, Tryz.results62, go_sem, s0, s1, sl]) rfl (show LiftPost w PSL TSL (.returned (.agg #[.slice oa PL oc, .slice ob TL od])) wf from ⟨_, _, _, _, _, _, rfl, by rw [← HPSL.out]; exact hf1, by rw [← HTSL.out]; exact hf2, hBf⟩)
end Go.Proofs.YtleiapljnjaloaaGreatDoor
