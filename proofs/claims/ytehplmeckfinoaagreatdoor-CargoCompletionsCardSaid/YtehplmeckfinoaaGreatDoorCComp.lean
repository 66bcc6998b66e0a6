/- Completions: what they are, and the walks of holds and of the package's CheckCompletion. -/
import Derived.Test.YtehplmeckfinoaaGreatDoorCPathP
import Derived.Test.YtehplmeckfinoaaGreatDoorCFind
import Derived.Test.YtehplmeckfinoaaGreatDoorCCountIt
import Derived.Test.YtehplmeckfinoaaGreatDoorLater
import Derived.Test.YtehplmeckfinoaaGreatDoorCMissing
import Derived.Test.YtehplmeckfinoaaGreatDoorCOpenI
set_option linter.unusedSimpArgs false
set_option linter.unusedVariables false
namespace Go.Proofs.YtehplmeckfinoaaGreatDoor
mutual
def holdsT (given : Int → Int) : Tr → Int → Bool
 | .node _ f ks, w => holdsL given ks && (decide (max (givenL given ks + f.missing) f.sumL ≤ min (givenL given ks + f.missing * 100000) f.sumH) && decide (max (givenL given ks + f.missing) f.sumL ≤ w))
def holdsL (given : Int → Int) : List Tr → Bool
 | [] => true
 | k :: r => decide (k.f.ownL ≤ given k.f.pack ∧ given k.f.pack ≤ k.f.ownH) && holdsT given k (given k.f.pack) && holdsL given r
def givenL (given : Int → Int) : List Tr → Int
 | [] => 0
 | k :: r => given k.f.pack + givenL given r
end
mutual
theorem holds_rise (given : Int → Int) : ∀ (t : Tr) (w : Int), 0 ≤ t.f.missing → t.f.ownL ≤ w → w ≤ t.f.ownH → (∀ k ∈ t.pre, 0 ≤ k.f.missing) → holdsT given t w = true → ∃ t', riseT t = some t' ∧ t'.f.low ≤ w ∧ t'.f.ownH = t.f.ownH
 | .node b f ks, w, h0, h1, h2, hp, h => by
   unfold holdsT at h
   simp only [Bool.and_eq_true, decide_eq_true_eq] at h
   obtain ⟨hk, h3, h4⟩ := h
   simp only [Tr.f] at h0 h1 h2
   obtain ⟨ks', g1, g2, g3⟩ := holds_riseL given ks (by simpa [Tr.pre] using hp) hk
   have hn : ¬ (min (f.missing * 100000 + sumOwn ks') f.sumH < max (f.missing + sumLow ks') f.sumL ∨ f.ownH < max (f.missing + sumLow ks') f.sumL) := by omega
   refine ⟨.node b { f with low := max f.ownL (max (f.missing + sumLow ks') f.sumL) } ks', ?_, ?_, rfl⟩
   · unfold riseT
     rw [g1]
     simp only
     rw [if_neg hn]
   · show max f.ownL (max (f.missing + sumLow ks') f.sumL) ≤ w
     omega
theorem holds_riseL (given : Int → Int) : ∀ (ks : List Tr), (∀ k ∈ preL ks, 0 ≤ k.f.missing) → holdsL given ks = true → ∃ ks', riseL ks = some ks' ∧ sumLow ks' ≤ givenL given ks ∧ givenL given ks ≤ sumOwn ks'
 | [], _, _ => ⟨[], by unfold riseL; rfl, by simp [sumLow, givenL], by simp [sumOwn, givenL]⟩
 | k :: r, hp, h => by
   unfold holdsL at h
   simp only [Bool.and_eq_true, decide_eq_true_eq] at h
   obtain ⟨⟨⟨h1, h2⟩, h3⟩, h4⟩ := h
   obtain ⟨k', a1, a2, a3⟩ := holds_rise given k _ (hp k (by simp [preL])) h1 h2 (fun q hq => hp q (by simp [preL, hq])) h3
   obtain ⟨r', b1, b2, b3⟩ := holds_riseL given r (fun q hq => hp q (by simp [preL, hq])) h4
   refine ⟨k' :: r', by unfold riseL; rw [a1]; simp only; rw [b1], ?_, ?_⟩
   all_goals
    simp only [sumLow_cons, sumOwn_cons, a3, givenL]
    omega
end
open Go.RowKit Go.Shelf
theorem holdsL_append (given : Int → Int) : ∀ (a b : List Tr), holdsL given (a ++ b) = (holdsL given a && holdsL given b)
 | [], b => by simp [holdsL]
 | x :: r, b => by simp only [List.cons_append, holdsL, holdsL_append given r b, Bool.and_assoc]
theorem givenL_append (given : Int → Int) : ∀ (a b : List Tr), givenL given (a ++ b) = givenL given a + givenL given b
 | [], b => by simp [givenL]
 | x :: r, b => by simp only [List.cons_append, givenL, givenL_append given r b]; omega
theorem holds_bad (given : Int → Int) {ks : List Tr} {k : Nat} {t : Tr} (ht : ks[k]? = some t) (h : (decide (t.f.ownL ≤ given t.f.pack ∧ given t.f.pack ≤ t.f.ownH) && holdsT given t (given t.f.pack)) = false) : holdsL given ks = false := by
 obtain ⟨h1, h2⟩ := List.getElem?_eq_some_iff.1 ht
 have e : ks = ks.take k ++ t :: ks.drop (k + 1) := by rw [← h2, List.getElem_cons_drop, List.take_append_drop]
 rw [e, holdsL_append, holdsL, h, Bool.false_and, Bool.and_false]
def givM (m : List (Int × Int)) (p : Int) : Int := (mget m p).getD 0
theorem lookup_int {w : World} {b : Nat} {m : List (Int × Int)} (h : MapT Tryz.prog 3 kInt kInt w b m) {x : Int} (hx : I64 x) :
 (Instr.lookup 67 (.map (some b)) (.int .i64 x) false).run Tryz.prog w = .ok (.int .i64 (givM m x)) w := by
 obtain ⟨l, hl⟩ := kInt_key hx
 have := h.lookup intKeyed Tryz.underlying67 kInt_inj (zeroInt w) hl
 unfold givM
 rw [show Instr.lookup 67 (.map (some b)) (.int .i64 x) false = Instr.lookup 67 (.map (some b)) (kInt x) false from rfl, this]
 cases mget m x <;> rfl
theorem update_int {w : World} {b : Nat} {m : List (Int × Int)} (h : MapT Tryz.prog 3 kInt kInt w b m) {x : Int} (hx : I64 x) (v : Int) :
 ∃ w' : World, (Instr.mapUpdate 67 (.map (some b)) (.int .i64 x) (.int .i64 v)).run Tryz.prog w = .ok () w' ∧
  MapT Tryz.prog 3 kInt kInt w' b (mput m x v) ∧ w.grownBy w' (some b) ∧ w'.heap.size = w.heap.size := by
 obtain ⟨l, hl⟩ := kInt_key hx
 obtain ⟨w', h1, h2, h3, h4⟩ := h.update intKeyed Tryz.underlying67 kInt_inj hl v
 exact ⟨w', h1, h2, h3, h4⟩
def HoldsPost (w : World) (V : Bool) (e : Ending) (w' : World) : Prop := e = .returned (.bool V) ∧ Below w.heap.size w w'
set_option maxRecDepth 100000 in
set_option maxHeartbeats 8000000 in
theorem holds_all (L : List Nat) (bm : Nat) (m : List (Int × Int)) : ∀ (d : Nat) (t : Tr) (w : World) (weight : Int), t.siz ≤ d → TreeAt L w t → Bd t → (∀ k ∈ t.pre, I64 k.f.pack) → MapT Tryz.prog 3 kInt kInt w bm m →
 Calls Tryz.prog 28 #[.pointer (some ⟨t.b, 0, none⟩), .map (some bm), .int .i64 weight] w (HoldsPost w (holdsT (givM m) t weight)) := by
 intro d
 induction d with
 | zero => intro t w weight hd; have := siz_pos t; omega
 | succ d ih =>
   intro t w weight hd h hbd hi64 hmap
   obtain ⟨b, f, ks⟩ := t
   obtain ⟨a, cap, hn, hr, _⟩ := h.at
   have HK := Hd h.kids
   have HBd := Hd hbd
   obtain ⟨⟨m0, m1⟩, ⟨o0, o1, o2⟩, ⟨s0, s1⟩, ⟨s2, s3⟩⟩ := hbd.fb
   have hlen := hbd.len
   simp only [b_node, f_node, ks_node] at *
   have HN := Hd hn
   have HR := Hd hr
   have HM := Hd hmap
   have HP := Hd (show ∀ k ∈ ks, I64 k.f.pack ∧ ∀ q ∈ k.pre, I64 q.f.pack from by
    have h1 : ∀ (l : List Tr), (∀ q ∈ preL l, I64 q.f.pack) → ∀ k ∈ l, I64 k.f.pack ∧ ∀ q ∈ k.pre, I64 q.f.pack := by
     intro l
     induction l with
     | nil => intro _ k hk; simp at hk
     | cons x r ih2 =>
       intro h2 k hk
       rcases List.mem_cons.1 hk with rfl | hk
       · exact ⟨h2 _ (by simp [preL]), fun q hq => h2 q (by simp [preL, hq])⟩
       · exact ih2 (fun q hq => h2 q (by simp [preL, hq])) k hk
    exact h1 ks (by simpa [Tr.pre] using hi64))
   have IH := Hd (show ∀ k ∈ ks, ∀ w weight, TreeAt L w k → MapT Tryz.prog 3 kInt kInt w bm m → Calls Tryz.prog 28 #[.pointer (some ⟨k.b, 0, none⟩), .map (some bm), .int .i64 weight] w (HoldsPost w (holdsT (givM m) k weight)) from fun k hk w weight hw hm =>
    ih k w weight (by have := siz_mem hk; unfold Tr.siz at hd; omega) hw (HBd.out.kids k hk) (HP.out k hk).2 hm)
   obtain ⟨V, hV⟩ : ∃ v, holdsT (givM m) (.node b f ks) weight = v := ⟨_, rfl⟩
   rw [hV]
   have HV := Hd (show V = (holdsL (givM m) ks && (decide (max (givenL (givM m) ks + f.missing) f.sumL ≤ min (givenL (givM m) ks + f.missing * 100000) f.sumH) && decide (max (givenL (givM m) ks + f.missing) f.sumL ≤ weight))) from by rw [← hV]; simp only [holdsT])
   clear ih hd h hbd hr hi64 hmap hV
   have c16 := hn.c16
   clear hn
   go_enter Tryz.func28, Tryz.ntmps28
   go_wp2_with fail
   go_loopw [7, 18] (fun s i wr => ∃ k : Nat, k ≤ ks.length ∧ i = .int .i64 k ∧ s = .int .i64 (givenL (givM m) (ks.take k)) ∧ holdsL (givM m) (ks.take k) = true ∧ 0 ≤ givenL (givM m) (ks.take k) ∧ givenL (givM m) (ks.take k) ≤ (k : Int) * 1099511627776 ∧ Below w.heap.size w wr) (fun _ i _ => ks.length - (intOf i).toNat)
   case atStart => exact ⟨0, Nat.zero_le _, rfl, rfl, rfl, Int.le_refl _, Int.le_refl _, Below.refl _ _⟩
   case round =>
    obtain ⟨k, hk, rfl, rfl, hh, hg0, hg1, hB⟩ := hrel
    have HH := Hd hh
    have HB := Hd hB
    have HNr := Hd (HN.out.keeps (S := []) (Keeps.of_below hB) (by simp))
    have HRr := Hd (HR.out.below' hB)
    have HMr := Hd (HM.out.below' hB)
    clear hh hB c16
    obtain ⟨S, hS⟩ : ∃ x, givenL (givM m) (ks.take k) = x := ⟨_, rfl⟩
    rw [hS] at hg0 hg1 ⊢
    have HSe := Hd hS
    clear hS
    by_cases hlt : k < ks.length
    · obtain ⟨t, ht⟩ : ∃ t, ks[k]? = some t := ⟨_, List.getElem?_eq_getElem hlt⟩
      have hlt' : (k : Int) < (ks.length : Int) := by omega
      obtain ⟨ab, off, xb, rfl, hab, hx, hcell⟩ := HRr.out.ptr hlt
      have hxb : xb = t.b := by rw [List.getElem?_map, ht] at hx; exact (Option.some.inj hx).symm
      subst hxb
      have hmem := List.mem_of_getElem? ht
      have hT := (HK.out t hmem).below' HB.out
      have HT := Hd hT
      obtain ⟨a2, cap2, hn2, _, _⟩ := hT.at
      have hfb := (HBd.out.kids t hmem).fb
      unfold FB at hfb
      have d0 := hn2.c0
      have hlk := lookup_int HMr.out (HP.out t hmem).1
      have HD17 := Hd hn2.c17
      have HD18 := Hd hn2.c18
      have HBad := Hd (fun h => holds_bad (givM m) ht h)
      have HTk := Hd (show holdsL (givM m) (ks.take (k + 1)) = (true && (decide (t.f.ownL ≤ givM m t.f.pack ∧ givM m t.f.pack ≤ t.f.ownH) && holdsT (givM m) t (givM m t.f.pack))) ∧ givenL (givM m) (ks.take (k + 1)) = S + givM m t.f.pack from by
       rw [take_succ_snoc ht, holdsL_append, givenL_append, HH.out, HSe.out]
       simp [holdsL, givenL])
      have IHt := Hd (IH.out t hmem)
      have tl := hn2.lt
      clear hn2 ht hx hT hmem
      obtain ⟨pk, hpk⟩ : ∃ x, t.f.pack = x := ⟨_, rfl⟩
      rw [hpk] at d0 hlk HBad HTk
      obtain ⟨gv, hgv⟩ : ∃ x, givM m pk = x := ⟨_, rfl⟩
      rw [hgv] at hlk HBad HTk
      obtain ⟨ol, hol⟩ : ∃ x, t.f.ownL = x := ⟨_, rfl⟩
      obtain ⟨oh, hoh⟩ : ∃ x, t.f.ownH = x := ⟨_, rfl⟩
      rw [hol] at HD17 HBad HTk hfb
      rw [hoh] at HD18 HBad HTk hfb
      have ho : 0 ≤ ol ∧ oh ≤ 1099511627776 := by omega
      obtain ⟨hv, hhv⟩ : ∃ x, holdsT (givM m) t gv = x := ⟨_, rfl⟩
      rw [hhv] at HBad HTk
      have C1 := Hd (show ∀ z : Later wr, Calls Tryz.prog 35 #[.int .i64 gv, .int .i64 ol, .int .i64 oh] z.w fun e w' => e = .returned (.bool (within gv ol oh)) ∧ Below z.w.heap.size z.w w' from fun z => (within_any gv ol oh z.w).mono (by rintro e w' ⟨h1, rfl⟩; exact ⟨h1, Below.refl _ _⟩))
      have C2 := Hd (show ∀ z : Later wr, Calls Tryz.prog 28 #[.pointer (some ⟨t.b, 0, none⟩), .map (some bm), .int .i64 gv] z.w fun e w' => e = .returned (.bool hv) ∧ Below z.w.heap.size z.w w' from fun z => by
       rw [← hhv]
       exact IHt.out z.w gv (HT.out.below' z.hB) (HMr.out.below' z.hB))
      have hwi : within gv ol oh = decide (ol ≤ gv ∧ gv ≤ oh) := rfl
      obtain ⟨wb, hwb⟩ : ∃ x, within gv ol oh = x := ⟨_, rfl⟩
      rw [hwb] at C1 hwi
      rw [← hwi] at HBad HTk
      have HWi := Hd hwi
      have k17 : ∀ z : Later wr, z.w.cell? ⟨t.b, 17, none⟩ = some (.int .i64 ol) := fun z => z.cell HD17.out
      have k18 : ∀ z : Later wr, z.w.cell? ⟨t.b, 18, none⟩ = some (.int .i64 oh) := fun z => z.cell HD18.out
      clear hpk hgv hol hoh hhv hwi hwb hfb
      go_upto_region 6 with (fail)
      clear d0 hlk hcell
      cases wb with
      | false =>
        have HF := Hd (show V = false from by rw [HV.out, HBad.out (by rw [Bool.false_and]), Bool.false_and])
        refine wp_region_later (by kernel_rfl) (by kernel_rfl) ?_
        repeat (go_big_quiet_step ((go_at_call 35; exact Calls.later_of (C1.out _))))
        refine wpQuiet_nil ?_
        intro wz hw'
        obtain ⟨⟨W, hW⟩, hw2⟩ := hw'
        obtain rfl : W = wz := hw2.symm
        clear hw2 k17 k18
        go_wp2_with fail
        go_ret
        exact ⟨by rw [HF.out] <;> rfl, HB.out.trans (hW.mono HB.out.size)⟩
      | true =>
        have hgb : ol ≤ gv ∧ gv ≤ oh := of_decide_eq_true HWi.out.symm
        cases hv with
        | false =>
          have HF := Hd (show V = false from by rw [HV.out, HBad.out rfl, Bool.false_and])
          refine wp_region_later (by kernel_rfl) (by kernel_rfl) ?_
          repeat (go_big_quiet_step ((first | (go_at_call 35; exact Calls.later_of (C1.out _)) | (go_at_call 28; exact Calls.later_of (C2.out _)))))
          refine wpQuiet_nil ?_
          intro wz hw'
          obtain ⟨⟨W, hW⟩, hw2⟩ := hw'
          obtain rfl : W = wz := hw2.symm
          clear hw2 k17 k18
          go_wp2_with fail
          go_ret
          exact ⟨by rw [HF.out] <;> rfl, HB.out.trans (hW.mono HB.out.size)⟩
        | true =>
          have hsb : 0 ≤ S + gv ∧ S + gv ≤ ((k + 1 : Nat) : Int) * 1099511627776 := by
           have : ((k + 1 : Nat) : Int) * 1099511627776 = (k : Int) * 1099511627776 + 1099511627776 := by push_cast; omega
           omega
          have hkb : (k : Int) * 1099511627776 ≤ 1000 * 1099511627776 := by omega
          have gw : IntKind.i64.wrap (S + gv) = S + gv := by rw [IntKind.wrap_i64]; omega
          have HSb := Hd hsb
          refine wp_region_later (by kernel_rfl) (by kernel_rfl) ?_
          repeat (go_big_quiet_step ((first | (go_at_call 35; exact Calls.later_of (C1.out _)) | (go_at_call 28; exact Calls.later_of (C2.out _)))))
          refine wpQuiet_nil ?_
          intro wz hw'
          obtain ⟨⟨W, hW⟩, hw2⟩ := hw'
          obtain rfl : W = wz := hw2.symm
          clear hw2 k17 k18 hsb hkb
          go_wp2_with fail
          exact ⟨⟨k + 1, by omega, by go_num, by rw [HTk.out.2], HTk.out.1, by rw [HTk.out.2]; exact HSb.out.1, by rw [HTk.out.2]; exact HSb.out.2, HB.out.trans (hW.mono HB.out.size)⟩, by simp [intOf]; omega⟩
    · have hltg : ¬ (k : Int) < (ks.length : Int) := by omega
      have hTk : ks.take k = ks := List.take_of_length_le (by omega)
      have HH2 := Hd (show holdsL (givM m) ks = true from by have := HH.out; rwa [hTk] at this)
      have HS2 := Hd (show givenL (givM m) ks = S from by have := HSe.out; rwa [hTk] at this)
      have hkb : (k : Int) * 1099511627776 ≤ 1000 * 1099511627776 := by omega
      have gb : 0 ≤ S ∧ S ≤ 1099511627776000 := by omega
      have HV2 := Hd (show V = (decide (max (S + f.missing) f.sumL ≤ min (S + f.missing * 100000) f.sumH) && decide (max (S + f.missing) f.sumL ≤ weight)) from by rw [HV.out, HH2.out, HS2.out, Bool.true_and])
      have c19 := HNr.out.c19
      have c20 := HNr.out.c20
      have c21 := HNr.out.c21
      have nl := HNr.out.lt
      obtain ⟨ms, hms⟩ : ∃ x, f.missing = x := ⟨_, rfl⟩
      obtain ⟨sl, hsl⟩ : ∃ x, f.sumL = x := ⟨_, rfl⟩
      obtain ⟨sh, hsh⟩ : ∃ x, f.sumH = x := ⟨_, rfl⟩
      rw [hms] at c21 HV2 m0 m1
      rw [hsl] at c19 HV2
      rw [hsh] at c20 HV2
      have w1 : IntKind.i64.wrap (S + ms) = S + ms := by rw [IntKind.wrap_i64]; omega
      have w2 : IntKind.i64.wrap (ms * 100000) = ms * 100000 := by rw [IntKind.wrap_i64]; omega
      have w3 : IntKind.i64.wrap (S + ms * 100000) = S + ms * 100000 := by rw [IntKind.wrap_i64]; omega
      obtain ⟨hi, hhi⟩ : ∃ x, min (S + ms * 100000) sh = x := ⟨_, rfl⟩
      obtain ⟨lo, hlo⟩ : ∃ x, max (S + ms) sl = x := ⟨_, rfl⟩
      rw [hhi, hlo] at HV2
      clear hlt hTk hms hsl hsh hkb
      by_cases q1 : lo ≤ hi
      · by_cases q2 : lo ≤ weight
        · have HF := Hd (show V = true from by rw [HV2.out, decide_eq_true q1, decide_eq_true q2]; rfl)
          go_wp2_with fail
          go_quiet (fail)
          go_wp2_with fail
          go_ret
          exact ⟨by rw [HF.out] <;> rfl, below_drewN HB.out _⟩
        · have HF := Hd (show V = false from by rw [HV2.out, decide_eq_false q2, Bool.and_false])
          have HQ := Hd (decide_eq_false q2)
          go_wp2_with fail
          go_quiet (fail)
          go_wp2_with fail
          go_ret
          exact ⟨by rw [HF.out, ← HQ.out] <;> rfl, below_drewN HB.out _⟩
      · have HF := Hd (show V = false from by rw [HV2.out, decide_eq_false q1, Bool.false_and])
        go_wp2_with fail
        go_quiet (fail)
        go_wp2_with fail
        go_ret
        exact ⟨by rw [HF.out] <;> rfl, below_drewN HB.out _⟩
theorem Rd.wei {w : World} {a : Option Addr} {n : Nat} {xs : List (Int × Int)} (h : Rd weiV 2 w a n xs) {i : Nat} (hi : i < n) : ∃ b off x, a = some ⟨b, off, none⟩ ∧ b < w.heap.size ∧ xs[i]? = some x ∧ w.cell? ⟨b, off + i * 2, none⟩ = some (.int .i64 x.1) ∧ w.cell? ⟨b, off + i * 2 + 1, none⟩ = some (.int .i64 x.2) := by
 obtain ⟨b, off, x, ha, hb, hx, hc⟩ := h.read i hi
 exact ⟨b, off, x, ha, hb, hx, hc 0 (by decide), hc 1 (by decide)⟩
mutual
theorem holdsT_sh (given : Int → Int) : ∀ (t : Tr) (w : Int), holdsT given t.sh w = holdsT given t w
 | .node b f ks, w => by
   simp only [Tr.sh]
   unfold holdsT
   rw [holdsL_sh given ks, givenL_sh given ks]
theorem holdsL_sh (given : Int → Int) : ∀ (ks : List Tr), holdsL given (shL ks) = holdsL given ks
 | [] => rfl
 | k :: r => by
   have hf : k.sh.f = k.f := by cases k; rfl
   simp only [shL, holdsL, hf, holdsT_sh given k, holdsL_sh given r]
theorem givenL_sh (given : Int → Int) : ∀ (ks : List Tr), givenL given (shL ks) = givenL given ks
 | [] => rfl
 | k :: r => by
   have hf : k.sh.f = k.f := by cases k; rfl
   simp only [shL, givenL, hf, givenL_sh given r]
end
mutual
theorem bd_pre : ∀ (t : Tr), Bd t → ∀ k ∈ t.pre, Bd k
 | .node b f ks, h, k, hk => by
   simp only [Tr.pre] at hk
   exact bd_preL ks h.kids k hk
theorem bd_preL : ∀ (ks : List Tr), (∀ k ∈ ks, Bd k) → ∀ k ∈ preL ks, Bd k
 | [], _, k, hk => by simp [preL] at hk
 | x :: r, h, k, hk => by
   simp only [preL, List.mem_cons, List.mem_append] at hk
   rcases hk with rfl | hk | hk
   · exact h _ (by simp)
   · exact bd_pre x (h x (by simp)) k hk
   · exact bd_preL r (fun q hq => h q (List.mem_cons_of_mem _ hq)) k hk
end
mutual
theorem sh_pre : ∀ (t : Tr), ∀ k ∈ t.pre, ∃ q ∈ t.sh.pre, q.f.pack = k.f.pack
 | .node b f ks, k, hk => by
   simp only [Tr.pre, Tr.sh] at hk ⊢
   exact sh_preL ks k hk
theorem sh_preL : ∀ (ks : List Tr), ∀ k ∈ preL ks, ∃ q ∈ preL (shL ks), q.f.pack = k.f.pack
 | [], k, hk => by simp [preL] at hk
 | x :: r, k, hk => by
   simp only [preL, shL, List.mem_cons, List.mem_append] at hk ⊢
   rcases hk with rfl | hk | hk
   · exact ⟨_, .inl rfl, by cases k; rfl⟩
   · obtain ⟨q, h1, h2⟩ := sh_pre x k hk
     exact ⟨q, .inr (.inl h1), h2⟩
   · obtain ⟨q, h1, h2⟩ := sh_preL r k hk
     exact ⟨q, .inr (.inr h1), h2⟩
end
def compM (cs : List (Int × Int)) : List (Int × Int) := cs.foldl (fun m x => mput m x.1 x.2) []
def compB (xs : List Pa) (known loss : Int) (cs : List (Int × Int)) : Bool :=
 decide (rootE xs known loss true = 0) && (decide (cs.map (·.1) = (papersL xs known loss).map (·.pack)) && match rootT xs known loss with
  | none => false
  | some t => holdsT (givM (compM cs)) t 1099511627776)
theorem pre_packs {ps ts : List Pa} (hmo : ManiOk ps ts) {t : Tr} (ht : treeT ps ts (fun _ => true) = some t) : ∀ k ∈ t.pre, I64 k.f.pack := by
 have h2 := ht
 unfold treeT at h2
 split at h2
 · cases h2
 · rename_i t' ht'
   split at h2
   · rename_i hl
     cases h2
     obtain ⟨_, h3⟩ := grow_chain hmo.packs _ 0 _ _ t [] ht' .root
     intro k hk
     obtain ⟨y, hy, he⟩ : ∃ y ∈ ps, y.pack = k.f.pack := by
      obtain ⟨l, n, c, hh⟩ := h3 k hk
      cases l with
      | nil => exact absurd rfl n
      | cons a r =>
        simp at hh
        subst hh
        cases r with
        | nil =>
          obtain ⟨x, hx, h1, _⟩ := c.inv rfl
          exact ⟨x, hx, h1⟩
        | cons b r' =>
          obtain ⟨x, hx, h1, _⟩ := c.inv rfl
          exact ⟨x, hx, h1⟩
     have := (hmo.pp y hy).1
     unfold I64
     omega
   · cases h2
theorem compM_snoc {cs : List (Int × Int)} {k : Nat} {x : Int × Int} (h : cs[k]? = some x) : compM (cs.take (k + 1)) = mput (compM (cs.take k)) x.1 x.2 := by
 unfold compM; rw [take_succ_snoc h, List.foldl_append]; rfl
theorem packs_bad {cs : List (Int × Int)} {ps : List Pa} {k : Nat} {x : Int × Int} {y : Pa} (hx : cs[k]? = some x) (hy : ps[k]? = some y) (h : x.1 ≠ y.pack) : ¬ cs.map (·.1) = ps.map (·.pack) := by
 intro e
 have h1 : (cs.map (·.1))[k]? = some x.1 := by rw [List.getElem?_map, hx]; rfl
 rw [e, List.getElem?_map, hy] at h1
 exact h (Option.some.inj h1).symm
theorem packs_step {cs : List (Int × Int)} {ps : List Pa} {k : Nat} {x : Int × Int} {y : Pa} (hx : cs[k]? = some x) (hy : ps[k]? = some y) (h : x.1 = y.pack) (e : (cs.take k).map (·.1) = (ps.take k).map (·.pack)) : (cs.take (k + 1)).map (·.1) = (ps.take (k + 1)).map (·.pack) := by
 rw [take_succ_snoc hx, take_succ_snoc hy, List.map_append, List.map_append, e]
 simp [h]
set_option maxRecDepth 100000 in
set_option maxHeartbeats 8000000 in
theorem checkCompletion_any (a : Option Addr) (n cap : Nat) (xs : List Pa) (hsh : ∀ x ∈ xs, x.Short) (known loss : Int) (ca : Option Addr) (cn cc : Nat) (cs : List (Int × Int)) (hi : ∀ x ∈ cs, I64 x.1) (w : World) (h : Rd Pa.vals 14 w a n xs) (hcap : n ≤ cap) (hc : Rd weiV 2 w ca cn cs) :
 Calls Tryz.prog 7 #[.slice a n cap, .int .i64 known, .int .i64 loss, .slice ca cn cc] w (CkPost w (compB xs known loss cs) (rootE xs known loss true)) := by
 have CW := Hd (rooted_any a n cap xs hsh known loss 27 #[] (fun _ _ => rfl) true w h hcap there_always)
 have HC := Hd hc
 have HI := Hd hi
 obtain ⟨V, hVe⟩ : ∃ v, compB xs known loss cs = v := ⟨_, rfl⟩
 obtain ⟨E, hEe⟩ : ∃ v, rootE xs known loss true = v := ⟨_, rfl⟩
 rw [hVe, hEe]
 have HVe := Hd hVe
 have HEe := Hd hEe
 have hmm := @run_makeMap Tryz.prog
 clear h hc hi hVe hEe
 unfold RootPost at CW
 rw [HEe.out] at CW
 go_enter Tryz.func7, Tryz.ntmps7
 go_upto_region 2 with (go_at_call 26; refine CW.out.mono ?_; rintro e w3 ⟨pa, pn, pc, ta, tn, tc, tp, rfl, hrp, hrt, hB2, htree⟩)
 have hBa := al' (Below.refl w3.heap.size w3) (.cells #[.slice pa pn pc, .slice ta tn tc] 62)
 have hBw : Below w.heap.size w (w3.alloc (.cells #[.slice pa pn pc, .slice ta tn tc] 62)) := hB2.trans (hBa.mono hB2.size)
 have HBw := Hd hBw
 have HC4 := Hd (HC.out.below' hBw)
 by_cases hE0 : E = 0
 case neg =>
  generalize w3.alloc (.cells #[.slice pa pn pc, .slice ta tn tc] 62) = w4 at *
  have HV := Hd (show V = false from by rw [← HVe.out]; unfold compB; rw [decide_eq_false (by rw [HEe.out]; exact hE0), Bool.false_and])
  have h1 : (E != 0) = true := by simp [hE0]
  clear hE0 hrp hrt htree hBw hBa hB2
  go_wp2_with fail
  exact bodyPost_ret (by simp [results, Tryz.results7, go_sem]) rfl (show CkPost w V E (.returned (.tuple #[.bool false, .int .i64 E])) w4 from ⟨by rw [HV.out], HBw.out⟩)
 subst hE0
 have h0 := HEe.out
 obtain ⟨ho, hh⟩ := root_open h0
 obtain ⟨p1, p2⟩ := open_some (known := known) ho
 rw [p1] at hrp
 rw [p2] at hrt
 have hgd := check_good (open_check ho)
 have hmo := mani_ok hgd.1 known loss
 obtain ⟨n1, hn1, t, ht0, rfl, hta, htn, htb, htf, _, _⟩ := htree rfl
 have hT : treeT (papersL xs known loss) (totalsL xs known loss) (fun _ => true) = some t.sh := ht0
 have hpk0 := pre_packs hmo hT
 have hpk : ∀ k ∈ t.pre, I64 k.f.pack := by
  have hsp : ∀ k ∈ t.pre, ∃ q ∈ t.sh.pre, q.f.pack = k.f.pack := sh_pre t
  intro k hk
  obtain ⟨q, hq, e⟩ := hsp k hk
  rw [← e]
  exact hpk0 q hq
 have HV := Hd (show compB xs known loss cs = (decide (cs.map (·.1) = (papersL xs known loss).map (·.pack)) && holdsT (givM (compM cs)) t 1099511627776) from by
  unfold compB; rw [decide_eq_true h0, Bool.true_and, ht0]; simp only [holdsT_sh])
 obtain ⟨PS, hPS⟩ : ∃ P, papersL xs known loss = P := ⟨_, rfl⟩
 obtain ⟨TS, hTS⟩ : ∃ P, totalsL xs known loss = P := ⟨_, rfl⟩
 rw [hPS] at hrp hmo HV
 rw [hTS] at hrt hmo
 rw [HVe.out] at HV
 obtain ⟨e1, e2, hma⟩ := MaAt.made hrp hrt (by have := hmo.ln; omega) (by have := hmo.lt; omega)
 have hpl : pn ≤ 1000 := by rw [e1]; have := hmo.ln; omega
 have hcl := HC.out.cap
 unfold maxLen at hcl
 have HTr := Hd (show ∀ W, Below w3.heap.size w3 W → TreeAt t.bs W t from fun W hW => (hta [] (by simp)).below' hW)
 have CH := Hd (fun bm m W (hW : Below w3.heap.size w3 W) (hm : MapT Tryz.prog 3 kInt kInt W bm m) => holds_all t.bs bm m t.siz t W 1099511627776 (Nat.le_refl _) (HTr.out W hW) htb hpk hm)
 unfold HoldsPost at CH
 have HPl := Hd e1
 have HBa := Hd hBa
 clear hrp hrt e1 e2 p1 p2 hPS hTS ho hh h0 htree hBw hBa hB2 hT hpk hpk0 hmo hgd ht0 hta htn htb htf HVe HEe
 generalize w3.alloc (.cells #[.slice pa pn pc, .slice ta tn tc] 62) = w4 at *
 obtain ⟨M, hM⟩ : ∃ M, w3.heap.size = M := ⟨_, rfl⟩
 have HM := Hd hM
 rw [hM] at hma ⊢
 clear hM
 have HMa := Hd hma
 have m0 := hma.c0
 clear hma
 by_cases hln : cn = pn
 case neg =>
  have g1 : ((cn : Int) != (pn : Int)) = true := by simp; omega
  have HF := Hd (show V = false from by
   rw [HV.out, decide_eq_false (fun e => hln (by have := congrArg List.length e; simp only [List.length_map] at this; rw [← HC.out.len, HPl.out, this])), Bool.false_and])
  clear hln
  go_wp2_with fail
  exact bodyPost_ret (by simp [results, Tryz.results7, go_sem]) rfl (show CkPost w V 0 (.returned (.tuple #[.bool false, .int .i64 0])) w4 from ⟨by rw [HF.out], HBw.out⟩)
 subst hln
 have g1 : ((cn : Int) != (cn : Int)) = false := by simp
 have hmk := MapT.made (P := Tryz.prog) (K := 3) (ke := kInt) (ve := kInt) w4
 have hBm := al' (Below.refl w4.heap.size w4) (.map #[] 0)
 go_upto_region 7 with (fail)
 have m05 := cell_stays m0 hBm
 have HMa5 := Hd (HMa.out.below' hBm)
 have HC5 := Hd (HC4.out.below' hBm)
 have HB5 := Hd (HBw.out.trans (hBm.mono HBw.out.size))
 have HB35 := Hd (HBa.out.trans (hBm.mono HBa.out.size))
 have Hmk := Hd hmk
 have hml := hmk.lt
 have hMlt := World.block_lt_of_cell? _ _ m0
 have HMa4 := Hd HMa.out
 clear m0 hmk hBm HC4 HMa
 obtain ⟨bm, hbm⟩ : ∃ b, w4.heap.size = b := ⟨_, rfl⟩
 rw [hbm] at Hmk hml hMlt ⊢
 have HPb := Hd (show ∀ p, pa = some p → p.block < bm from fun p e => by rw [← hbm]; exact HMa4.out.lp p e)
 clear HMa4
 have HMb := Hd (show M ≠ bm from by simp only at hMlt; omega)
 have HMw := Hd (show w.heap.size ≤ bm ∧ w3.heap.size ≤ bm from by have h1 := HBw.out.size; have h2 := HBa.out.size; omega)
 clear hbm hMlt
 generalize w4.alloc (.map #[] 0) = w5 at *
 have HM5 := Hd m05
 clear m05
 go_upto_region 8 with (fail)
 go_loopw [36] (fun i wr => ∃ k : Nat, k ≤ cn ∧ i = .int .i64 k ∧ (cs.take k).map (·.1) = (PS.take k).map (·.pack) ∧ MapT Tryz.prog 3 kInt kInt wr bm (compM (cs.take k)) ∧ Keeps [bm] w5 wr) (fun i _ => cn - (intOf i).toNat)
 case atStart => exact ⟨0, Nat.zero_le _, rfl, rfl, Hmk.out, Keeps.refl _ _⟩
 case round =>
  obtain ⟨k, hk, rfl, hps, hmr, hkp⟩ := hrel
  have HPs := Hd hps
  have HMr := Hd hmr
  have HKp := Hd hkp
  have HC6 := Hd (hkp.rd HC5.out (fun h0 p e hm => by
   obtain ⟨b', o', _, e2, hl, _⟩ := HC.out.read 0 h0
   rw [e] at e2
   injection e2 with e2
   have h1 := congrArg Addr.block e2
   have h2 := HMw.out.1
   have h3 := List.mem_singleton.1 hm
   simp only at h1
   omega))
  have HP6 := Hd (hkp.rd HMa5.out.rp (fun _ p e hm => by have h1 := HPb.out p e; have h2 := List.mem_singleton.1 hm; omega))
  have m06 := hkp.cell HM5.out (fun hm => HMb.out (List.mem_singleton.1 hm))
  clear hps hmr hkp hmm
  by_cases hlt : k < cn
  case neg =>
   have hltg : ¬ (k : Int) < (cn : Int) := by omega
   have hT1 : cs.take k = cs := List.take_of_length_le (by rw [HC.out.len]; omega)
   have hT2 : PS.take k = PS := List.take_of_length_le (by rw [← HPl.out]; omega)
   have hm2 := HMr.out
   have hp2 := HPs.out
   rw [hT1] at hm2 hp2
   rw [hT2] at hp2
   obtain ⟨hv, hhv⟩ : ∃ v, holdsT (givM (compM cs)) t 1099511627776 = v := ⟨_, rfl⟩
   have HF := Hd (show V = hv from by rw [HV.out, decide_eq_true hp2, Bool.true_and, hhv])
   have hb1 : Below w3.heap.size w3 wr := HB35.out.trans (HKp.out.below (fun x hx => by rw [List.mem_singleton.1 hx]; exact HMw.out.2) HB35.out.size)
   have hb2 : Below w.heap.size w wr := HB5.out.trans (HKp.out.below (fun x hx => by rw [List.mem_singleton.1 hx]; exact HMw.out.1) HB5.out.size)
   have CH2 := Hd (CH.out bm (compM cs) wr hb1 hm2)
   rw [hhv] at CH2
   have HBf := Hd hb2
   clear hlt hT1 hT2 hm2 hp2 hhv hb1 hb2
   go_wp2_with (go_at_call 28; refine CH2.out.mono ?_; rintro e w7 ⟨rfl, hB7⟩)
   exact bodyPost_ret (by simp [results, Tryz.results7, go_sem]) rfl (show CkPost w V 0 (.returned (.tuple #[.bool hv, .int .i64 0])) w7 from ⟨by rw [HF.out], HBf.out.trans (hB7.mono HBf.out.size)⟩)
  have hlt' : (k : Int) < (cn : Int) := by omega
  obtain ⟨cb, cf, x, rfl, _, hx, c0, c1⟩ := HC6.out.wei hlt
  obtain ⟨pb, pf, y, rfl, _, hy, d0, d1, d2, d3, d4, d5, d6, d7, d8, d9, d10, d11, d12, d13⟩ := HP6.out.pa hlt
  have Hx := Hd hx
  have Hy := Hd hy
  clear d0 d1 d2 d3 d5 d6 d7 d8 d9 d10 d11 d12 d13 hx hy
  go_upto_region 10 with (fail)
  have hbx := BoxG.made wr [.int .i64 x.1, .int .i64 x.2] 37
  have hBx := al' (Below.refl wr.heap.size wr) (.cells #[.int .i64 x.1, .int .i64 x.2] 37)
  have m07 := cell_stays m06 hBx
  have d47 := cell_stays d4 hBx
  have HM7 := Hd (HMr.out.below' hBx)
  have HK7 := Hd (HKp.out.then_below hBx)
  clear c0 c1 m06 d4 hBx HMr HKp
  generalize wr.alloc (.cells #[.int .i64 x.1, .int .i64 x.2] 37) = w6 at *
  obtain ⟨X, hXe⟩ : ∃ M, wr.heap.size = M := ⟨_, rfl⟩
  rw [hXe] at hbx ⊢
  clear hXe
  obtain ⟨x0, x1, _, _⟩ := pair_facts hbx
  have HXb := Hd (show w6.cell? ⟨X, 0, none⟩ = some (.int .i64 x.1) ∧ w6.cell? ⟨X, 1, none⟩ = some (.int .i64 x.2) from ⟨x0, x1⟩)
  clear hbx
  by_cases hxy : x.1 = y.pack
  case neg =>
   have q : (x.1 != y.pack) = true := by simpa using hxy
   have HF := Hd (show V = false from by rw [HV.out, decide_eq_false (packs_bad Hx.out Hy.out hxy), Bool.false_and])
   have HBf := Hd (HB5.out.trans (HK7.out.below (B := w.heap.size) (fun x hx => by rw [List.mem_singleton.1 hx]; exact HMw.out.1) HB5.out.size))
   clear hxy
   go_quiet (fail)
   go_wp2_with fail
   exact bodyPost_ret (by simp [results, Tryz.results7, go_sem]) rfl (show CkPost w V 0 (.returned (.tuple #[.bool false, .int .i64 0])) _ from ⟨by rw [HF.out], below_drewN HBf.out _⟩)
  have q : (x.1 != y.pack) = false := by simpa using hxy
  have HN := Hd (packs_step Hx.out Hy.out hxy HPs.out)
  clear hxy
  go_quiet (fail)
  generalize hw7 : w6.drewN nq = w7
  have hd7 : Below w6.heap.size w6 w7 := by rw [← hw7]; exact drewN_below _ _
  have x07 := cell_stays HXb.out.1 hd7
  have x17 := cell_stays HXb.out.2 hd7
  obtain ⟨w8, hrun, hm8, hg8, hs8⟩ := update_int (HM7.out.below' hd7) (HI.out x (List.mem_of_getElem? Hx.out)) x.2
  have HM8 := Hd hm8
  have HK8 := Hd ((HK7.out.then_below hd7).trans (Keeps.of_grown hg8))
  clear hw7 hd7 hm8 hg8 hs8 x0 x1 m07 d47
  go_wp2_with fail
  exact ⟨⟨k + 1, by omega, by go_num, HN.out, by rw [compM_snoc Hx.out]; exact HM8.out, HK8.out⟩, by simp [intOf]; omega⟩
end Go.Proofs.YtehplmeckfinoaaGreatDoor
