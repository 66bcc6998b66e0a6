/- The walk of rise. -/
import Derived.Test.YtehplmeckfinoaaGreatDoorCNode
import Derived.Test.YtehplmeckfinoaaGreatDoorCMark
import Derived.Deep.RegionHeld3
import Derived.Deep.Cut
import Derived.Shelf.Abstract
import Derived.Deep.CutRange
import Derived.IntWalk
import Derived.Test.YtehplmeckfinoaaGreatDoorCFormed
import Derived.Recover
import Derived.Laws.EntriesVeiled
set_option linter.unusedSimpArgs false
set_option linter.unusedVariables false
namespace Go.Proofs.YtehplmeckfinoaaGreatDoor
open Go.RowKit
def untrueV : Value := .iface 115 (.agg #[])
theorem TreeAt.sub {L : List Nat} {w : World} {t : Tr} (h : TreeAt L w t) : ∀ x ∈ t.bs, x ∈ L := by
 induction h with
 | @node b f ks a cap hb hn hr ha hk ih =>
   intro x hx
   unfold Tr.bs at hx
   rcases List.mem_cons.1 hx with rfl | hx
   · exact hb
   · have : ∀ (l : List Tr), (∀ k ∈ l, ∀ x ∈ k.bs, x ∈ L) → ∀ x ∈ bsL l, x ∈ L := by
      intro l
      induction l with
      | nil => intro _ x hx; simp [bsL] at hx
      | cons k r ih2 =>
        intro h x hx
        unfold bsL at hx
        rcases List.mem_append.1 hx with hx | hx
        · exact h k (by simp) x hx
        · exact ih2 (fun q hq => h q (List.mem_cons_of_mem _ hq)) x hx
     exact this ks ih x hx
theorem bsL_take_nodup {ks : List Tr} (h : (bsL ks).Nodup) {k : Nat} {t : Tr} (ht : ks[k]? = some t) : (∀ x ∈ t.bs, x ∉ bsL (ks.take k)) ∧ t.bs.Nodup := by
 obtain ⟨hk, rfl⟩ := List.getElem?_eq_some_iff.1 ht
 have e : ks = ks.take k ++ ks[k] :: ks.drop (k + 1) := by rw [List.getElem_cons_drop, List.take_append_drop]
 rw [e, bsL_append] at h
 rw [show bsL (ks[k] :: ks.drop (k + 1)) = ks[k].bs ++ bsL (ks.drop (k + 1)) from rfl, List.nodup_append] at h
 obtain ⟨_, h2, h3⟩ := h
 rw [List.nodup_append] at h2
 exact ⟨fun x hx hx2 => h3 x hx2 x (List.mem_append_left _ hx) rfl, h2.1⟩
theorem bsL_take_sub {ks : List Tr} {k : Nat} : ∀ x ∈ bsL (ks.take k), x ∈ bsL ks := by
 intro x hx
 have e : bsL ks = bsL (ks.take k) ++ bsL (ks.drop k) := by rw [← bsL_append, List.take_append_drop]
 rw [e]; exact List.mem_append_left _ hx
theorem bsL_snoc {ks : List Tr} {k : Nat} {t : Tr} (ht : ks[k]? = some t) : bsL (ks.take (k + 1)) = bsL (ks.take k) ++ t.bs := by
 rw [take_succ_snoc ht, bsL_append]; simp [bsL]
def RisePost (L : List Nat) (w : World) (t : Tr) (e : Ending) (w' : World) : Prop :=
 Keeps t.bs w w' ∧ ((∃ t', riseT t = some t' ∧ e = .returned (.tuple #[]) ∧ TreeAt L w' t') ∨ (riseT t = none ∧ e = .panicked [{ v := untrueV, recovered := false }]))
theorem rise_bad {b : Nat} {f : Nf} {ks ks1 : List Tr} {lo hi : Int} (h : riseL ks = some ks1) (hl : f.missing + sumLow ks1 = lo) (hh : f.missing * 100000 + sumOwn ks1 = hi)
 (hb : min hi f.sumH < max lo f.sumL ∨ f.ownH < max lo f.sumL) : riseT (.node b f ks) = none := by
 unfold riseT; rw [h]; simp only; rw [hl, hh, if_pos hb]
theorem rise_ok {b : Nat} {f : Nf} {ks ks1 : List Tr} {lo hi x : Int} (h : riseL ks = some ks1) (hl : f.missing + sumLow ks1 = lo) (hh : f.missing * 100000 + sumOwn ks1 = hi)
 (hb : ¬ (min hi f.sumH < max lo f.sumL ∨ f.ownH < max lo f.sumL)) (hx : max f.ownL (max lo f.sumL) = x) : riseT (.node b f ks) = some (.node b { f with low := x } ks1) := by
 unfold riseT; rw [h]; simp only; rw [hl, hh, if_neg hb, hx]
set_option maxRecDepth 100000 in
set_option maxHeartbeats 4000000 in
theorem rise_all (L : List Nat) : ∀ (d : Nat) (t : Tr) (w : World), t.siz ≤ d → TreeAt L w t → Bd t → t.bs.Nodup →
 Calls Tryz.prog 72 #[.pointer (some ⟨t.b, 0, none⟩)] w (RisePost L w t) := by
 intro d
 induction d with
 | zero => intro t w hd; have := siz_pos t; omega
 | succ d ih =>
   intro t w hd h hbd hnd
   obtain ⟨b, f, ks⟩ := t
   obtain ⟨a, cap, hn, hr, ha⟩ := h.at
   have HK := Hd h.kids
   have HL := Hd h.sub
   have HBd := Hd hbd
   obtain ⟨⟨m0, m1⟩, ⟨o0, o1, o2⟩, ⟨s0, s1⟩, ⟨s2, s3⟩⟩ := hbd.fb
   have hlen := hbd.len
   simp only [b_node, f_node, ks_node] at *
   have hnd2 : (bsL ks).Nodup ∧ b ∉ bsL ks := by unfold Tr.bs at hnd; exact ⟨(List.nodup_cons.1 hnd).2, (List.nodup_cons.1 hnd).1⟩
   have HND := Hd hnd2
   have HN := Hd hn
   have HR := Hd hr
   have HA := Hd ha
   have IH := Hd (show ∀ k ∈ ks, ∀ w, TreeAt L w k → Calls Tryz.prog 72 #[.pointer (some ⟨k.b, 0, none⟩)] w (RisePost L w k) from fun k hk w hw => by
    obtain ⟨i, hi⟩ := List.getElem?_of_mem hk
    exact ih k w (by have := siz_mem hk; unfold Tr.siz at hd; omega) hw (HBd.out.kids k hk) (bsL_take_nodup hnd2.1 hi).2)
   clear ih hd h hbd hnd hnd2 hr ha
   obtain ⟨nl, nf, c0, c16, c17, c18, c19, c20, c21, c22, c23, c24⟩ := hn
   go_enter Tryz.func72, Tryz.ntmps72
   go_upto_region 0 with (fail)
   go_quiet (fail)
   go_wp2_with fail
   go_loopw [2, 3, 20] (fun lo hi i wr => ∃ (k : Nat) (ks1 : List Tr), k ≤ ks.length ∧ i = .int .i64 k ∧ riseL (ks.take k) = some ks1 ∧ lo = .int .i64 (f.missing + sumLow ks1) ∧ hi = .int .i64 (f.missing * 100000 + sumOwn ks1) ∧ Keeps (bsL (ks.take k)) w wr ∧ (∀ q ∈ ks1, TreeAt L wr q)) (fun _ _ i _ => ks.length - (intOf i).toNat)
   case atStart => exact ⟨0, [], Nat.zero_le _, rfl, rfl, by rw [sumLow_nil, Int.add_zero], by rw [sumOwn_nil, Int.add_zero], Keeps.of_below (drewN_below _ _), by simp⟩
   case round =>
    obtain ⟨k, ks1, hk, rfl, hrise, rfl, rfl, hkp, hts⟩ := hrel
    clear c0 c16 c17 c18 c19 c20 c21 c22 c23 c24 nf
    have HRi := Hd hrise
    have HKp := Hd hkp
    have HTs := Hd hts
    obtain ⟨u1, u2, u3, u4, u5⟩ := riseL_up (ks.take k) ks1 (fun q hq => HBd.out.kids q (List.mem_of_mem_take hq)) hrise
    have hl1 : ks1.length = k := by rw [u4, List.length_take]; omega
    obtain ⟨sl0, sl1⟩ := sumLow_bd ks1 (fun q hq => by have h1 := (u2 q hq).low; have h2 := (u1 q hq).fb; unfold FB at h2; omega)
    obtain ⟨so0, so1⟩ := sumOwn_bd ks1 (fun q hq => by have h2 := (u1 q hq).fb; unfold FB at h2; omega)
    have HU := Hd (And.intro u1 u2)
    have HU3 := Hd u3
    have HU5 := Hd (And.intro u4 u5)
    have HN1 := Hd (HN.out.keeps hkp (fun e => HND.out.2 (bsL_take_sub _ e)))
    have HR1 := Hd (hkp.rd HR.out (fun h0 p e hm => HA.out h0 p e (HL.out _ (by unfold Tr.bs; exact List.mem_cons_of_mem _ (bsL_take_sub _ hm)))))
    clear hrise hkp hts u1 u2 u3 u4 u5
    obtain ⟨lo0, hlo0⟩ : ∃ x, f.missing + sumLow ks1 = x := ⟨_, rfl⟩
    obtain ⟨hi0, hhi0⟩ : ∃ x, f.missing * 100000 + sumOwn ks1 = x := ⟨_, rfl⟩
    have bl : 0 ≤ lo0 ∧ lo0 ≤ 2000000000000000 := by omega
    have bh : 0 ≤ hi0 ∧ hi0 ≤ 2000000000000000 := by omega
    rw [hlo0, hhi0]
    have HLo := Hd hlo0
    have HHi := Hd hhi0
    clear hlo0 hhi0 sl0 sl1 so0 so1
    by_cases hlt : k < ks.length
    · obtain ⟨t, ht⟩ : ∃ t, ks[k]? = some t := ⟨_, List.getElem?_eq_getElem hlt⟩
      have hlt' : (k : Int) < (ks.length : Int) := by omega
      obtain ⟨ab, off, xb, rfl, hab, hx, hcell⟩ := HR1.out.ptr hlt
      have hxb : xb = t.b := by rw [List.getElem?_map, ht] at hx; exact (Option.some.inj hx).symm
      subst hxb
      have HT := Hd ((HK.out t (List.mem_of_getElem? ht)).keeps HKp.out (fun x hx => HL.out x (by unfold Tr.bs; exact List.mem_cons_of_mem _ (bsL_take_sub _ hx))) (bsL_take_nodup HND.out.1 ht).1)
      have Ht := Hd ht
      clear ht hx
      go_wp2_with fail
      refine (IH.out t (List.mem_of_getElem? Ht.out) _ HT.out).mono ?_
      rintro e w2 ⟨hk2, ⟨t', ht', rfl, hat⟩ | ⟨ht', rfl⟩⟩
      · obtain ⟨v1, v2, v3, v4, v5, v6⟩ := riseT_up t t' (HBd.out.kids t (List.mem_of_getElem? Ht.out)) ht'
        obtain ⟨a2, cap2, hn2, hr2, ha2⟩ := hat.at
        obtain ⟨g1, g2, g3, g4⟩ : 0 ≤ t'.f.low ∧ t'.f.low ≤ 1099511627776 ∧ 0 ≤ t'.f.ownH ∧ t'.f.ownH ≤ 1099511627776 := by
         have h1 := v2.low; have h2 := v1.fb; unfold FB at h2; omega
        rw [v3] at hn2
        have d22 := hn2.c22
        have d18 := hn2.c18
        have HAt := Hd hat
        have HT2 := Hd ht'
        have HK2 := Hd hk2
        have HTB := Hd v4
        obtain ⟨lo1, hlo1⟩ : ∃ x, t'.f.low = x := ⟨_, rfl⟩
        obtain ⟨hi1, hhi1⟩ : ∃ x, t'.f.ownH = x := ⟨_, rfl⟩
        have tl := hn2.lt
        rw [hlo1] at d22 g1 g2
        rw [hhi1] at d18 g3 g4
        have HL1 := Hd hlo1
        have HH1 := Hd hhi1
        clear hlo1 hhi1 hn2 hr2 ha2 hat ht' hk2 v1 v2 v3 v4 v5 v6 hcell
        go_upto_region 5 with (fail)
        go_quiet (fail)
        go_wp2_with fail
        have HLx := Hd (show ∀ x ∈ t.bs, x ∈ L from fun x hx => HL.out x (by unfold Tr.bs; exact List.mem_cons_of_mem _ (bsL_mem (List.mem_of_getElem? Ht.out) x hx)))
        refine ⟨⟨k + 1, ks1 ++ [t'], by omega, by go_num, ?_, by rw [sumLow_snoc, HL1.out, ← HLo.out]; congr 1; omega, by rw [sumOwn_snoc, HH1.out, ← HHi.out]; congr 1; omega, ?_, ?_⟩, by simp [intOf]; omega⟩
        · rw [take_succ_snoc Ht.out]; exact riseL_snoc _ _ _ _ HRi.out HT2.out
        · rw [bsL_snoc Ht.out]
          exact ((HKp.out.mono (fun x hx => List.mem_append_left _ hx)).trans (HK2.out.mono (fun x hx => List.mem_append_right _ hx))).then_below (drewN_below _ _)
        · intro q hq
          rcases List.mem_append.1 hq with hq | hq
          · refine ((HTs.out q hq).keeps HK2.out HLx.out (fun x hx hx2 => ?_)).below' (drewN_below _ _)
            exact (bsL_take_nodup HND.out.1 Ht.out).1 x hx2 (by rw [← HU3.out]; exact bsL_mem hq x hx)
          · rw [List.mem_singleton.1 hq]; exact HAt.out.below' (drewN_below _ _)
      · go_wp2_with fail
        refine ⟨rfl, ?_, .inr ⟨?_, rfl⟩⟩
        · refine (HKp.out.mono (fun x hx => ?_)).trans (hk2.mono (fun x hx => ?_))
          · unfold Tr.bs; exact List.mem_cons_of_mem _ (bsL_take_sub _ hx)
          · unfold Tr.bs; exact List.mem_cons_of_mem _ (bsL_mem (List.mem_of_getElem? Ht.out) x hx)
        · have e : ks = ks.take k ++ t :: ks.drop (k + 1) := by
           obtain ⟨h1, h2⟩ := List.getElem?_eq_some_iff.1 Ht.out
           rw [← h2, List.getElem_cons_drop, List.take_append_drop]
          unfold riseT
          rw [e, riseL_bad _ _ _ _ HRi.out ht']
    · have hltg : ¬ (k : Int) < (ks.length : Int) := by omega
      have hke : k = ks.length := by omega
      have HTk := Hd (show ks.take k = ks from List.take_of_length_le (by omega))
      have HE := Hd (show riseL ks = some ks1 from by have := HRi.out; rwa [HTk.out] at this)
      obtain ⟨nl, nf, c0, c16, c17, c18, c19, c20, c21, c22, c23, c24⟩ := HN1.out
      clear hlt hke
      have HKp2 := Hd (show Keeps (Tr.node b f ks).bs w wr from HKp.out.mono (fun x hx => by unfold Tr.bs; exact List.mem_cons_of_mem _ (bsL_take_sub _ hx)))
      have HTr := Hd (show ∀ W (x : Int), Below wr.heap.size wr W → TreeAt L (W.setCell ⟨b, 22, none⟩ (.int .i64 x)) (.node b { f with low := x } ks1) from fun W x hW => by
       have hbL : b ∈ L := HL.out b (by simp [Tr.bs])
       have e1 : ks1.length = ks.length := by have := HU5.out.1; rwa [HTk.out] at this
       have e2 : ks1.map Tr.b = ks.map Tr.b := by have := HU5.out.2; rwa [HTk.out] at this
       have e3 : bsL ks1 = bsL ks := by have := HU3.out; rwa [HTk.out] at this
       have hS := Keeps.setCell W ⟨b, 22, none⟩ (.int .i64 x)
       refine .node hbL (a := a) (cap := cap) ?_ ?_ (by rw [e1]; exact HA.out) (fun q hq => ?_)
       · rw [e1]; exact (HN1.out.keeps (S := []) (Keeps.of_below hW) (by simp)).set_low x
       · rw [e1, e2]
         exact hS.rd (HR1.out.below' hW) (fun h0 p e hm => HA.out h0 p e (by rw [List.mem_singleton.1 hm]; exact hbL))
       · exact ((HTs.out q hq).below' hW).keeps hS (fun y hy => by rw [List.mem_singleton.1 hy]; exact hbL) (fun y hy hy2 => by
          rw [List.mem_singleton.1 hy2] at hy
          exact HND.out.2 (by rw [← e3]; exact bsL_mem hq _ hy)))
      have HKs := Hd (show ∀ W (x : Int), Below wr.heap.size wr W → Keeps (Tr.node b f ks).bs w (W.setCell ⟨b, 22, none⟩ (.int .i64 x)) from fun W x hW => (HKp2.out.then_below hW).then_set _ _ (.inl (by simp [Tr.bs])))
      clear HKp HK HTs HN HR IH HN1 HR1
      go_upto_region 7 with (fail)
      go_quiet (fail)
      go_wp2_with fail
      all_goals first
       | (refine ⟨rfl, HKp2.out.then_below (drewN_below _ _), .inr ⟨rise_bad HE.out HLo.out HHi.out (by omega), rfl⟩⟩)
       | (refine bodyPost_ret (results_none rfl _ _ _) rfl ?_; refine ⟨HKs.out _ _ (drewN_below _ _), .inl ⟨_, rise_ok HE.out HLo.out HHi.out (by omega) (by omega), rfl, HTr.out _ _ (drewN_below _ _)⟩⟩)
def SB (t : Tr) : Prop := Bd t ∧ Up t ∧ t.f.low ≤ t.f.endH ∧ t.f.endH ≤ 1099511627776
theorem sumLow_split {ks : List Tr} {k : Nat} {t : Tr} (ht : ks[k]? = some t) (h0 : ∀ q ∈ ks, 0 ≤ q.f.low) : t.f.low ≤ sumLow ks := mem_low_le h0 (List.mem_of_getElem? ht)
theorem Bd.set {t : Tr} (h : Bd t) (lo hi : Int) : Bd (t.setEnds lo hi) := by
 cases h with
 | node hf hl hk => exact .node hf hl hk
theorem Up.set {t : Tr} (h : Up t) (lo hi : Int) : Up (t.setEnds lo hi) := by
 cases h with
 | node h1 h2 h3 h4 h5 h6 h7 hk => exact .node h1 h2 h3 h4 h5 h6 h7 hk
theorem setEnds_siz (lo hi : Int) (t : Tr) : (t.setEnds lo hi).siz = t.siz := by cases t; simp only [Tr.setEnds, Tr.siz]
theorem setEnds_f (lo hi : Int) (t : Tr) : (t.setEnds lo hi).f = { t.f with endL := lo, endH := hi } := by cases t; rfl
def Tr.setL (lo : Int) : Tr → Tr | .node b f ks => .node b { f with endL := lo } ks
def Tr.setH (hi : Int) : Tr → Tr | .node b f ks => .node b { f with endH := hi } ks
theorem setLH (lo hi : Int) (t : Tr) : (t.setL lo).setH hi = t.setEnds lo hi := by cases t; rfl
theorem setL_b (lo : Int) (t : Tr) : (t.setL lo).b = t.b := by cases t; rfl
theorem setL_bs (lo : Int) (t : Tr) : (t.setL lo).bs = t.bs := by cases t; simp only [Tr.setL, Tr.bs]
theorem setL_f (lo : Int) (t : Tr) : (t.setL lo).f = { t.f with endL := lo } := by cases t; rfl
theorem TreeAt.setL {L : List Nat} {w : World} {t : Tr} (h : TreeAt L w t) (hnd : t.bs.Nodup) (x : Int) : TreeAt L (w.setCell ⟨t.b, 23, none⟩ (.int .i64 x)) (t.setL x) := by
 cases h with
 | @node b f ks a cap hb hn hr ha hk =>
   simp only [b_node] at *
   have h2 := Keeps.setCell w ⟨b, 23, none⟩ (.int .i64 x)
   refine .node hb (hn.set_endL x) (h2.rd hr (fun h0 p e hm => ha h0 p e (by rw [List.mem_singleton.1 hm]; exact hb))) ha (fun q hq => (hk q hq).keeps h2 (fun z hz => by rw [List.mem_singleton.1 hz]; exact hb) (fun z hz hz2 => ?_))
   rw [List.mem_singleton.1 hz2] at hz
   unfold Tr.bs at hnd
   exact (List.nodup_cons.1 hnd).1 (bsL_mem hq _ hz)
theorem TreeAt.setH {L : List Nat} {w : World} {t : Tr} (h : TreeAt L w t) (hnd : t.bs.Nodup) (x : Int) : TreeAt L (w.setCell ⟨t.b, 24, none⟩ (.int .i64 x)) (t.setH x) := by
 cases h with
 | @node b f ks a cap hb hn hr ha hk =>
   simp only [b_node] at *
   have h2 := Keeps.setCell w ⟨b, 24, none⟩ (.int .i64 x)
   refine .node hb (hn.set_endH x) (h2.rd hr (fun h0 p e hm => ha h0 p e (by rw [List.mem_singleton.1 hm]; exact hb))) ha (fun q hq => (hk q hq).keeps h2 (fun z hz => by rw [List.mem_singleton.1 hz]; exact hb) (fun z hz hz2 => ?_))
   rw [List.mem_singleton.1 hz2] at hz
   unfold Tr.bs at hnd
   exact (List.nodup_cons.1 hnd).1 (bsL_mem hq _ hz)
theorem sinkKeep {W : World} {c b o o1 o2 o3 : Nat} {x y z v : Value} (h1 : W.cell? ⟨c, o1, none⟩ = some x) (h2 : W.cell? ⟨c, o2, none⟩ = some y) (h3 : W.cell? ⟨b, o3, none⟩ = some z) (n1 : o ≠ o1) (n2 : o ≠ o2) (hb : b ≠ c) :
 (W.setCell ⟨c, o, none⟩ v).drew.cell? ⟨c, o1, none⟩ = some x ∧ (W.setCell ⟨c, o, none⟩ v).drew.cell? ⟨c, o2, none⟩ = some y ∧ (W.setCell ⟨c, o, none⟩ v).drew.cell? ⟨b, o3, none⟩ = some z := by
 refine ⟨cell_off' (v := v) h1 n1, cell_off' (v := v) h2 n2, ?_⟩
 have : (W.setCell ⟨c, o, none⟩ v).cell? ⟨b, o3, none⟩ = some z := by
  rw [World.cell?_setCell_other _ _ _ _ (fun e => hb (congrArg Addr.block e).symm)]; exact h3
 exact this
theorem sinkKeep2 {W : World} {c o o1 o2 : Nat} {x y v : Value} (h1 : W.cell? ⟨c, o1, none⟩ = some x) (h2 : W.cell? ⟨c, o2, none⟩ = some y) (n1 : o ≠ o1) (n2 : o ≠ o2) :
 (W.setCell ⟨c, o, none⟩ v).drew.cell? ⟨c, o1, none⟩ = some x ∧ (W.setCell ⟨c, o, none⟩ v).drew.cell? ⟨c, o2, none⟩ = some y :=
 ⟨cell_off' (v := v) h1 n1, cell_off' (v := v) h2 n2⟩
theorem Rd.nothing {α : Type} {E : α → List Value} {k : Nat} {w w' : World} {a : Option Addr} {xs : List α} (h : Rd E k w a 0 xs) : Rd E k w' a 0 xs := ⟨h.len, h.cap, fun i hi => absurd hi (by omega)⟩
set_option maxRecDepth 100000 in
set_option maxHeartbeats 4000000 in
theorem sink_all (L : List Nat) : ∀ (d : Nat) (t : Tr) (w : World), t.siz ≤ d → TreeAt L w t → SB t → t.bs.Nodup →
 Calls Tryz.prog 73 #[.pointer (some ⟨t.b, 0, none⟩)] w fun e w' => e = .returned (.tuple #[]) ∧ Keeps t.bs w w' ∧ TreeAt L w' (sinkT t.f.endL t.f.endH t) := by
 intro d
 induction d with
 | zero => intro t w hd; have := siz_pos t; omega
 | succ d ih =>
   intro t w hd h hsb hnd
   obtain ⟨b, f, ks⟩ := t
   obtain ⟨a, cap, hn, hr, ha⟩ := h.at
   have HK := Hd h.kids
   have HL := Hd h.sub
   obtain ⟨hbd, hup, he0, he1⟩ := hsb
   obtain ⟨⟨m0, m1⟩, ⟨o0, o1, o2⟩, ⟨s0, s1⟩, ⟨s2, s3⟩⟩ := hbd.fb
   have hlen := hbd.len
   have HBd := Hd hbd.kids
   have HUp := Hd hup.kids
   have hU : f.missing + sumLow ks ≤ f.low ∧ f.missing + sumLow ks ≤ f.sumH := by cases hup; exact ⟨by assumption, by assumption⟩
   have IH0 := Hd ih
   clear ih
   simp only [b_node, f_node, ks_node] at *
   have hnd2 : (bsL ks).Nodup ∧ b ∉ bsL ks := by unfold Tr.bs at hnd; exact ⟨(List.nodup_cons.1 hnd).2, (List.nodup_cons.1 hnd).1⟩
   have HND := Hd hnd2
   have HN := Hd hn
   have HR := Hd hr
   have HA := Hd ha
   have IH := Hd (show ∀ k ∈ ks, ∀ w x y, TreeAt L w (k.setEnds x y) → k.f.low ≤ y → y ≤ 1099511627776 → Calls Tryz.prog 73 #[.pointer (some ⟨k.b, 0, none⟩)] w fun e w' => e = .returned (.tuple #[]) ∧ Keeps k.bs w w' ∧ TreeAt L w' (sinkT x y k) from fun k hk w x y hw g1 g2 => by
    obtain ⟨i, hi⟩ := List.getElem?_of_mem hk
    have := IH0.out (k.setEnds x y) w (by have := siz_mem hk; unfold Tr.siz at hd; rw [setEnds_siz]; omega) hw ⟨(HBd.out k hk).set _ _, (HUp.out k hk).set _ _, by rw [setEnds_f]; exact g1, by rw [setEnds_f]; exact g2⟩ (by rw [setEnds_bs]; exact (bsL_take_nodup hnd2.1 hi).2)
    rw [setEnds_bs, setEnds_b, sinkT_set] at this
    exact this)
   have HB0 := Hd (show ∀ q ∈ ks, 0 ≤ q.f.low ∧ q.f.low ≤ q.f.ownH ∧ q.f.ownH ≤ 1099511627776 from fun q hq => by
    have h1 := (HUp.out q hq).low; have h2 := (HBd.out q hq).fb; unfold FB at h2; omega)
   obtain ⟨tl0, tl1⟩ := sumLow_bd ks (fun q hq => by have := HB0.out q hq; omega)
   obtain ⟨to0, to1⟩ := sumOwn_bd ks (fun q hq => by have := HB0.out q hq; omega)
   have HU := Hd hU
   clear IH0 hd h hbd hup hnd hnd2 hr ha hU
   obtain ⟨nl, nf, c0, c16, c17, c18, c19, c20, c21, c22, c23, c24⟩ := hn
   obtain ⟨top, htop⟩ : ∃ x, min f.sumH f.endH = x := ⟨_, rfl⟩
   have HTop := Hd htop
   have ht0 : 0 ≤ top ∧ top ≤ 1099511627776 := by have := HU.out; omega
   clear htop
   go_enter Tryz.func73, Tryz.ntmps73
   go_upto_region 0 with (fail)
   go_cut [2] from 9 (fun s2 wx => s2 = .int .i64 top ∧ Below w.heap.size w wx)
   case first =>
    go_quiet (fail)
    go_wp2_with fail
    all_goals go_meet
    all_goals (have := HTop.out; exact ⟨by congr 1; omega, drewN_below _ _⟩)
   case rest =>
   obtain ⟨rfl, hwc⟩ := hcut
   rename World => w1
   have HW1 := Hd hwc
   have HN1 := Hd (HN.out.keeps (S := []) (Keeps.of_below hwc) (by simp))
   clear hwc c0 c16 c17 c18 c19 c20 c21 c22 c23 c24 nf nl
   obtain ⟨nl, nf, c0, c16, c17, c18, c19, c20, c21, c22, c23, c24⟩ := HN1.out
   go_upto_region 1 with (fail)
   go_quiet (fail)
   go_wp2_with fail
   go_loopw [3, 4, 34] (fun lo hi i wr => ∃ (k : Nat), k ≤ ks.length ∧ i = .int .i64 k ∧ lo = .int .i64 (f.missing + sumLow (ks.take k)) ∧ hi = .int .i64 (f.missing * 100000 + sumOwn (ks.take k)) ∧ Below w.heap.size w wr) (fun _ _ i _ => ks.length - (intOf i).toNat)
   case atStart => exact ⟨0, Nat.zero_le _, rfl, by rw [List.take_zero, sumLow_nil, Int.add_zero], by rw [List.take_zero, sumOwn_nil, Int.add_zero], below_drewN HW1.out _⟩
   case round =>
    obtain ⟨k, hk, rfl, rfl, rfl, hB⟩ := hrel
    have HB := Hd hB
    obtain ⟨lo0, hlo0⟩ : ∃ x, f.missing + sumLow (ks.take k) = x := ⟨_, rfl⟩
    obtain ⟨hi0, hhi0⟩ : ∃ x, f.missing * 100000 + sumOwn (ks.take k) = x := ⟨_, rfl⟩
    have hbnd : (0 ≤ lo0 ∧ lo0 ≤ 2000000000000000) ∧ (0 ≤ hi0 ∧ hi0 ≤ 2000000000000000) := by
     obtain ⟨a0, a1⟩ := sumLow_bd (ks.take k) (fun q hq => by have := HB0.out q (List.mem_of_mem_take hq); omega)
     obtain ⟨a2, a3⟩ := sumOwn_bd (ks.take k) (fun q hq => by have := HB0.out q (List.mem_of_mem_take hq); omega)
     rw [List.length_take] at a1 a3
     omega
    rw [hlo0, hhi0]
    have HLo := Hd hlo0
    have HHi := Hd hhi0
    clear hlo0 hhi0 c0 c16 c17 c18 c19 c20 c21 c22 c23 c24 nf nl
    by_cases hlt : k < ks.length
    · obtain ⟨t, ht⟩ : ∃ t, ks[k]? = some t := ⟨_, List.getElem?_eq_getElem hlt⟩
      have hlt' : (k : Int) < (ks.length : Int) := by omega
      obtain ⟨ab, off, xb, rfl, hab, hx, hcell⟩ := (HR.out.below' HB.out).ptr hlt
      have hxb : xb = t.b := by rw [List.getElem?_map, ht] at hx; exact (Option.some.inj hx).symm
      subst hxb
      obtain ⟨a2, cap2, hn2, hr2, ha2⟩ := ((HK.out t (List.mem_of_getElem? ht)).below' HB.out).at
      have d22 := hn2.c22
      have d18 := hn2.c18
      have g := HB0.out t (List.mem_of_getElem? ht)
      have Ht := Hd ht
      obtain ⟨lo1, hlo1⟩ : ∃ x, t.f.low = x := ⟨_, rfl⟩
      obtain ⟨hi1, hhi1⟩ : ∃ x, t.f.ownH = x := ⟨_, rfl⟩
      have tl := hn2.lt
      rw [hlo1, hhi1] at g
      rw [hlo1] at d22
      rw [hhi1] at d18
      have HL1 := Hd hlo1
      have HH1 := Hd hhi1
      clear hlo1 hhi1 hn2 hr2 ha2 ht hx hB tl0 tl1 to0 to1
      go_upto_region 5 with (fail)
      go_quiet (fail)
      go_wp2_with fail
      refine ⟨⟨k + 1, by omega, by go_num, by rw [take_succ_snoc Ht.out, sumLow_snoc, HL1.out, ← HLo.out]; congr 1; omega, by rw [take_succ_snoc Ht.out, sumOwn_snoc, HH1.out, ← HHi.out]; congr 1; omega, below_drewN HB.out _⟩, by simp [intOf]; omega⟩
    · have hltg : ¬ (k : Int) < (ks.length : Int) := by omega
      rw [List.take_of_length_le (by omega)] at HLo HHi
      have HW2 := Hd (Keeps.of_below (S := (Tr.node b f ks).bs) HB.out)
      have HN2 := Hd (HN.out.keeps (S := []) (Keeps.of_below HB.out) (by simp))
      have HR2 := Hd (HR.out.below' HB.out)
      have HK2 := Hd (show ∀ q ∈ ks, TreeAt L wr q from fun q hq => (HK.out q hq).below' HB.out)
      have HbL := Hd (show b ∈ L ∧ ∀ x ∈ bsL ks, x ∈ L from ⟨HL.out b (by simp [Tr.bs]), fun x hx => HL.out x (by unfold Tr.bs; exact List.mem_cons_of_mem _ hx)⟩)
      obtain ⟨nl, nf, c0, c16, c17, c18, c19, c20, c21, c22, c23, c24⟩ := HN2.out
      have hU := HU.out
      rw [HLo.out] at hU
      have htop2 : lo0 ≤ top := by have := HTop.out; omega
      clear hB HK HN HR HB HN1 HW1 hU tl0 tl1 to0 to1 HU
      go_upto_region 7 with (fail)
      clear hltg hlt
      go_wp2_with fail
      rename World => w2
      go_loopw [57] (fun i wr => ∃ (k : Nat), k ≤ ks.length ∧ i = .int .i64 k ∧ Keeps (bsL (ks.take k)) w2 wr ∧ (∀ q ∈ sinkL top f.sumL lo0 hi0 (ks.take k), TreeAt L wr q)) (fun i _ => ks.length - (intOf i).toNat)
      case atStart => exact ⟨0, Nat.zero_le _, rfl, Keeps.refl _ _, by simp [sinkL]⟩
      case round =>
       obtain ⟨k, hk, rfl, hkp, hts⟩ := hrel
       clear c0 c16 c17 c18 c19 c20 c21 c22 c23 c24 nf nl
       have HKp := Hd hkp
       have HTs := Hd hts
       have HTa := Hd (show ∀ x ∈ bsL (ks.take k), x ∈ L from fun x hx => HbL.out.2 x (bsL_take_sub _ hx))
       have hn1 := HN2.out.keeps hkp (fun e => HND.out.2 (bsL_take_sub _ e))
       have hr1 := hkp.rd HR2.out (fun h0 p e hm => HA.out h0 p e (HTa.out _ hm))
       have c19 := hn1.c19
       have nl := hn1.lt
       clear hkp hts hn1
       by_cases hlt : k < ks.length
       · obtain ⟨t, ht⟩ : ∃ t, ks[k]? = some t := ⟨_, List.getElem?_eq_getElem hlt⟩
         have hlt' : (k : Int) < (ks.length : Int) := by omega
         obtain ⟨ab, off, xb, rfl, hab, hx, hcell⟩ := hr1.ptr hlt
         have hxb : xb = t.b := by rw [List.getElem?_map, ht] at hx; exact (Option.some.inj hx).symm
         subst hxb
         have hmem := List.mem_of_getElem? ht
         have HT := Hd ((HK2.out t hmem).keeps HKp.out HTa.out (bsL_take_nodup HND.out.1 ht).1)
         have HTn := Hd (bsL_take_nodup HND.out.1 ht)
         obtain ⟨a2, cap2, hn2, hr2, ha2⟩ := HT.out.at
         have d22 := hn2.c22
         have d18 := hn2.c18
         have d23 := hn2.c23
         have f23 := hn2.fr 23
         have tl := hn2.lt
         have g := HB0.out t hmem
         have hne : b ≠ t.b := fun e => HND.out.2 (by rw [e]; exact bsL_mem hmem _ (b_mem t))
         have gl : t.f.low ≤ lo0 - f.missing := by
          have := sumLow_split ht (fun q hq => (HB0.out q hq).1)
          have := HLo.out
          omega
         obtain ⟨lo1, hlo1⟩ : ∃ x, t.f.low = x := ⟨_, rfl⟩
         obtain ⟨hi1, hhi1⟩ : ∃ x, t.f.ownH = x := ⟨_, rfl⟩
         obtain ⟨el, hel⟩ : ∃ x, max lo1 (f.sumL - (hi0 - hi1)) = x := ⟨_, rfl⟩
         obtain ⟨eh, heh⟩ : ∃ x, min hi1 (top - (lo0 - lo1)) = x := ⟨_, rfl⟩
         have HE := Hd (And.intro hel heh)
         have hE2 : lo1 ≤ eh ∧ eh ≤ 1099511627776 := by omega
         have HE2 := Hd hE2
         rw [hlo1, hhi1] at g
         rw [hlo1] at d22 gl
         rw [hhi1] at d18
         have HL1 := Hd hlo1
         have HH1 := Hd hhi1
         have Ht := Hd ht
         have Hmem := Hd hmem
         clear hlo1 hhi1 hn2 hr2 ha2 ht hx hel heh hE2 hmem hr1
         go_upto_region 10 with (fail)
         clear hcell
         have i1 : IntKind.i64.wrap (hi0 - hi1) = hi0 - hi1 := IntWalk.i64_in _ (by omega)
         have i2 : IntKind.i64.wrap (f.sumL - (hi0 - hi1)) = f.sumL - (hi0 - hi1) := IntWalk.i64_in _ (by omega)
         have i3 : IntKind.i64.wrap (lo0 - lo1) = lo0 - lo1 := IntWalk.i64_in _ (by omega)
         have i4 : IntKind.i64.wrap (top - (lo0 - lo1)) = top - (lo0 - lo1) := IntWalk.i64_in _ (by omega)
         have hval : ∀ v, v = el → Below (wr.setCell ⟨t.b, 23, none⟩ (.int .i64 el)).heap.size (wr.setCell ⟨t.b, 23, none⟩ (.int .i64 el)) (wr.setCell ⟨t.b, 23, none⟩ (.int .i64 v)).drew := by
          rintro _ rfl; exact drewN_below _ 1
         go_cut [8] from 61 to 102 (fun s8 wx => s8 = .pointer (some ⟨t.b, 0, none⟩) ∧ ∃ W, Below wr.heap.size wr W ∧ Below (W.setCell ⟨t.b, 23, none⟩ (.int .i64 el)).heap.size (W.setCell ⟨t.b, 23, none⟩ (.int .i64 el)) wx)
         case first =>
          go_region_held3 (fun w' => w'.cell? ⟨t.b, 22, none⟩ = some (.int .i64 lo1) ∧ w'.cell? ⟨t.b, 18, none⟩ = some (.int .i64 hi1) ∧ w'.cell? ⟨b, 19, none⟩ = some (.int .i64 f.sumL)) (first | exact sinkKeep d22 d18 c19 (by decide) (by decide) hne | exact ⟨d22, d18, c19⟩) (fail)
          all_goals go_wp2_with fail
          all_goals go_meet
          all_goals (refine ⟨rfl, wr, Below.refl _ _, ?_⟩; refine hval _ ?_; have := HE.out; omega)
         case rest =>
         obtain ⟨rfl, W, hW, hW2⟩ := hcut
         generalize wc = w3 at *
         have HTl := Hd (((HT.out.below' hW).setL HTn.out.2 el).below' hW2)
         have HK3 := Hd ((Keeps.of_below (S := t.bs) hW).then_set ⟨t.b, 23, none⟩ (.int .i64 el) (.inl (b_mem t)) |>.then_below hW2)
         clear hW hW2 c19 d22 d18 d23 f23 tl
         obtain ⟨a2, cap2, hn2, hr2, ha2⟩ := HTl.out.at
         rw [setL_b, setL_f] at hn2
         have d22 := hn2.c22
         have d18 := hn2.c18
         have d24 := hn2.c24
         have f24 := hn2.fr 24
         have tl := hn2.lt
         simp only [HL1.out, HH1.out] at d22 d18 d24
         clear hn2 hr2 ha2 hval
         have hval2 : ∀ v, v = eh → Below (w3.setCell ⟨t.b, 24, none⟩ (.int .i64 eh)).heap.size (w3.setCell ⟨t.b, 24, none⟩ (.int .i64 eh)) (w3.setCell ⟨t.b, 24, none⟩ (.int .i64 v)).drew := by
          rintro _ rfl; exact drewN_below _ 1
         go_upto_region 11 with (fail)
         go_cut [8] from 61 to 102 (fun s8 wx => s8 = .pointer (some ⟨t.b, 0, none⟩) ∧ ∃ W, Below w3.heap.size w3 W ∧ Below (W.setCell ⟨t.b, 24, none⟩ (.int .i64 eh)).heap.size (W.setCell ⟨t.b, 24, none⟩ (.int .i64 eh)) wx)
         case first =>
          go_region_held3 (fun w' => w'.cell? ⟨t.b, 22, none⟩ = some (.int .i64 lo1) ∧ w'.cell? ⟨t.b, 18, none⟩ = some (.int .i64 hi1)) (first | exact sinkKeep2 d22 d18 (by decide) (by decide) | exact ⟨d22, d18⟩) (fail)
          all_goals go_wp2_with fail
          all_goals go_meet
          all_goals (refine ⟨rfl, w3, Below.refl _ _, ?_⟩; refine hval2 _ ?_; have := HE.out; omega)
         case rest =>
         obtain ⟨rfl, W, hW, hW2⟩ := hcut
         generalize wc = w4 at *
         have hT : TreeAt L w4 ((t.setL el).setH eh) := by
          have h1 := (HTl.out.below' hW).setH (by rw [setL_bs]; exact HTn.out.2) eh
          rw [setL_b] at h1
          exact h1.below' hW2
         rw [setLH] at hT
         have HT4 := Hd hT
         have HK4 := Hd (HK3.out.trans ((Keeps.of_below (S := t.bs) hW).then_set ⟨t.b, 24, none⟩ (.int .i64 eh) (.inl (b_mem t)) |>.then_below hW2))
         clear hW hW2 hT hval2 d22 d18 d24 f24 tl i1 i2 i3 i4
         go_wp2_with fail
         refine (IH.out t Hmem.out _ el eh HT4.out (by rw [HL1.out]; exact HE2.out.1) HE2.out.2).mono ?_
         rintro e w5 ⟨rfl, hk5, ht5⟩
         have HK5 := Hd (HK4.out.trans hk5)
         have HT5 := Hd ht5
         clear hk5 ht5
         go_wp2_with fail
         refine ⟨⟨k + 1, by omega, by go_num, ?_, ?_⟩, by simp [intOf]; omega⟩
         · rw [bsL_snoc Ht.out]
           exact (HKp.out.mono (fun x hx => List.mem_append_left _ hx)).trans (HK5.out.mono (fun x hx => List.mem_append_right _ hx))
         · intro q hq
           rw [take_succ_snoc Ht.out, sinkL_snoc, HL1.out, HH1.out, HE.out.1, HE.out.2] at hq
           rcases List.mem_append.1 hq with hq | hq
           · refine (HTs.out q hq).keeps HK5.out (fun x hx => HbL.out.2 x (bsL_mem Hmem.out x hx)) (fun x hx hx2 => HTn.out.1 x hx2 ?_)
             have := bsL_mem hq x hx
             rwa [sinkL_bs] at this
           · rw [List.mem_singleton.1 hq]; exact HT5.out
       · have hltg : ¬ (k : Int) < (ks.length : Int) := by omega
         have HTk := Hd (show ks.take k = ks from List.take_of_length_le (by omega))
         rw [HTk.out] at HKp HTs
         clear hlt hr1 c19
         go_wp2_with fail
         go_end0
         refine ⟨rfl, ?_, ?_⟩
         · exact HW2.out.trans (HKp.out.mono (fun x hx => by unfold Tr.bs; exact List.mem_cons_of_mem _ hx))
         · have e1 : (sinkL top f.sumL lo0 hi0 ks).length = ks.length := sinkL_length ..
           have e0 : sinkT f.endL f.endH (.node b f ks) = .node b f (sinkL top f.sumL lo0 hi0 ks) := by
            simp only [sinkT, HTop.out, HLo.out, HHi.out]
           rw [e0]
           refine .node HbL.out.1 (a := a) (cap := cap) ?_ ?_ (by rw [e1]; exact HA.out) HTs.out
           · rw [e1]; exact HN2.out.keeps HKp.out HND.out.2
           · rw [e1, sinkL_b]
             exact HKp.out.rd HR2.out (fun h0 p e hm => HA.out h0 p e (HbL.out.2 _ hm))
theorem TreeAt.narrow {L M : List Nat} {w : World} {t : Tr} (h : TreeAt M w t) (hLM : ∀ x ∈ L, x ∈ M) : (∀ x ∈ t.bs, x ∈ L) → TreeAt L w t := by
 induction h with
 | @node b f ks a cap hb hn hr ha hk ih =>
   intro hs
   exact .node (hs b (by simp [Tr.bs])) hn hr (fun h0 p e hm => ha h0 p e (hLM _ hm)) (fun k hk' => ih k hk' (fun x hx => hs x (by unfold Tr.bs; exact List.mem_cons_of_mem _ (bsL_mem hk' x hx))))
theorem TreeAt.bs_lt {L : List Nat} {w : World} {t : Tr} (h : TreeAt L w t) : ∀ x ∈ t.bs, x < w.heap.size := by
 induction h with
 | @node b f ks a cap hb hn hr ha hk ih =>
   intro x hx
   unfold Tr.bs at hx
   rcases List.mem_cons.1 hx with rfl | hx
   · exact hn.lt
   · have : ∀ (l : List Tr), (∀ k ∈ l, ∀ x ∈ k.bs, x < w.heap.size) → ∀ x ∈ bsL l, x < w.heap.size := by
      intro l
      induction l with
      | nil => intro _ x hx; simp [bsL] at hx
      | cons k r ih2 =>
        intro h x hx
        unfold bsL at hx
        rcases List.mem_append.1 hx with hx | hx
        · exact h k (by simp) x hx
        · exact ih2 (fun q hq => h q (List.mem_cons_of_mem _ hq)) x hx
     exact this ks ih x hx
set_option maxRecDepth 100000 in
set_option maxHeartbeats 1000000 in
theorem catch_untrue (b : Nat) (x : Bool) (older : List PanicEntry) (w : World) (hc : w.cell? ⟨b, 0, none⟩ = some (.bool x)) (hz : w.frozen? ⟨b, 0, none⟩ = false) :
 CallsD Tryz.prog 71 #[.pointer (some ⟨b, 0, none⟩)] (.panicking ({ v := untrueV, recovered := false } :: older)) w fun r u' w' =>
  r = .returned (.tuple #[]) ∧ u' = .panicking ({ v := untrueV, recovered := true } :: older) ∧ w' = (w.setCell ⟨b, 0, none⟩ (.bool false)).alloc (.cells #[] 115) := by
 have hlt : b < w.heap.size := World.block_lt_of_cell? w _ hc
 refine callsD_of_wpS Tryz.func71 rfl fun c₀ cs hu => ?_
 simp only [Tryz.ntmps71, List.size_toArray, List.length_cons, List.length_nil, Nat.reduceAdd, Nat.reduceSub, Array.replicate_succ, Array.replicate_zero, List.push_toArray, List.append_toArray, List.nil_append, List.cons_append]
 apply wpS_seq
 apply wpS_region
 simp [wpOpsS, go_sem, recoverD, hu, Exit.thenS]
 refine wpS_of_wp ?_
 unfold untrueV
 have hta : ∀ W, (Instr.typeAssert (.iface 115 (.agg #[])) 20 115 true).run Tryz.prog W = .ok (.tuple #[.agg #[], .bool true]) W := fun _ => by kernel_rfl
 go_wp2_with fail
 refine ⟨rfl, _, rfl, _, results_none rfl _ _ _, rfl, rfl, rfl⟩
set_option maxRecDepth 100000 in
set_option maxHeartbeats 1000000 in
theorem catch_true (b : Nat) (w : World) :
 CallsD Tryz.prog 71 #[.pointer (some ⟨b, 0, none⟩)] .returning w fun e u' w' => e = .returned (.tuple #[]) ∧ u' = .returning ∧ w' = w := by
 refine callsD_of_wpS Tryz.func71 rfl fun c₀ cs hu => ?_
 simp only [Tryz.ntmps71, List.size_toArray, List.length_cons, List.length_nil, Nat.reduceAdd, Nat.reduceSub, Array.replicate_succ, Array.replicate_zero, List.push_toArray, List.append_toArray, List.nil_append, List.cons_append]
 apply wpS_seq
 apply wpS_region
 simp [wpOpsS, go_sem, recoverD, hu, Exit.thenS]
 refine wpS_of_wp ?_
 go_wp2_with fail
 refine ⟨rfl, _, by cases c₀; simp only at hu; subst hu; rfl, _, results_none rfl _ _ _, rfl, rfl, rfl⟩
def SolvedPost (L : List Nat) (w : World) (t : Tr) (e : Ending) (w' : World) : Prop :=
 e = .returned (.bool (solveT t).isSome) ∧ Keeps t.bs w w' ∧ ∀ t', solveT t = some t' → TreeAt L w' t'
theorem solve_no {t : Tr} (h : riseT t = none) : solveT t = none := by unfold solveT; rw [h]
theorem solve_yes {t t' : Tr} (h : riseT t = some t') : solveT t = some (sinkT t'.f.ownL t'.f.ownH t') := by unfold solveT; rw [h]
set_option maxRecDepth 100000 in
set_option maxHeartbeats 8000000 in
theorem solved_all (L : List Nat) (t : Tr) (w : World) (h : TreeAt L w t) (hbd : Bd t) (hnd : t.bs.Nodup) :
 Calls Tryz.prog 36 #[.pointer (some ⟨t.b, 0, none⟩)] w (SolvedPost L w t) := by
 have hmf : ∀ (fn : Fn) (first cap : Array Value) (w : World), (Instr.makeFunc fn first cap).run Tryz.prog w = .ok (.func fn first cap) w := fun _ _ _ _ => rfl
 have hB0 := al' (Below.refl w.heap.size w) (.cells #[.bool false] 4)
 have hE : (w.alloc (.cells #[.bool false] 4)).cell? ⟨w.heap.size, 0, none⟩ = some (.bool false) := by rw [cell_of_row _ _ _ _ _ (0, 0) (heap_alloc_new w _)]; rfl
 have hZ : (w.alloc (.cells #[.bool false] 4)).frozen? ⟨w.heap.size, 0, none⟩ = false := frz0 (heap_alloc_new w _) 0
 have HS := Hd h.sub
 have HLt := Hd h.bs_lt
 have hT0 : TreeAt (w.heap.size :: L) (w.alloc (.cells #[.bool false] 4)) t := (h.wide (fun x hx => List.mem_cons_of_mem _ hx) (fun x hx hlt hm => by
  rcases List.mem_cons.1 hm with rfl | hm
  · omega
  · exact hx hm)).below' hB0
 have hEn : w.heap.size ∉ t.bs := fun hm => by have := h.bs_lt _ hm; omega
 obtain ⟨B, hBe⟩ : ∃ B, w.heap.size = B := ⟨_, rfl⟩
 have HBe := Hd hBe
 have HT0 := Hd hT0
 have HEn := Hd hEn
 have HB0 := Hd hB0
 have HBd := Hd hbd
 have HND := Hd hnd
 have tl := hT0.lt
 clear h hbd hnd hT0 hEn hB0
 rw [hBe] at hE hZ HT0 HEn HB0 HLt
 go_enter_defers Tryz.func36, Tryz.ntmps36
 go_upto_region 2 with (fail)
 generalize w.alloc (.cells #[.bool false] 4) = w1 at *
 go_wp2_with fail
 refine (rise_all (B :: L) t.siz t _ (Nat.le_refl _) HT0.out HBd.out HND.out).mono ?_
 rintro e w2 ⟨hk2, ⟨t', ht', rfl, hat⟩ | ⟨ht', rfl⟩⟩
 · obtain ⟨v1, v2, v3, v4, v5, v6⟩ := riseT_up t t' HBd.out ht'
   have hat2 := hat
   obtain ⟨a, cap, hn, hr, ha⟩ := hat2.at
   rw [v3] at hn
   have c17 := hn.c17
   have c18 := hn.c18
   have c23 := hn.c23
   have c24 := hn.c24
   have f23 := hn.fr 23
   have f24 := hn.fr 24
   have tl2 := hn.lt
   have HT := Hd hat
   have HV := Hd (And.intro v1 v2)
   have HVb := Hd (And.intro v3 v4)
   have HR := Hd ht'
   have HK2 := Hd hk2
   clear hat hat2 hn hr ha v1 v2 v3 v4 v5 v6 ht' hk2
   go_wp2_with fail
   have hT : TreeAt (B :: L) ((w2.setCell ⟨t.b, 23, none⟩ (.int .i64 t'.f.ownL)).setCell ⟨t.b, 24, none⟩ (.int .i64 t'.f.ownH)) (t'.setEnds t'.f.ownL t'.f.ownH) := by
    have hnd' : t'.bs.Nodup := by rw [HVb.out.2]; exact HND.out
    have h1 := (HT.out.setL hnd' t'.f.ownL).setH (by rw [setL_bs]; exact hnd') t'.f.ownH
    rw [setL_b, HVb.out.1, setLH] at h1
    exact h1
   have HK3 := Hd (show Keeps t.bs w1 ((w2.setCell ⟨t.b, 23, none⟩ (.int .i64 t'.f.ownL)).setCell ⟨t.b, 24, none⟩ (.int .i64 t'.f.ownH)) from (HK2.out.then_set ⟨t.b, 23, none⟩ (.int .i64 t'.f.ownL) (.inl (b_mem t))).then_set ⟨t.b, 24, none⟩ (.int .i64 t'.f.ownH) (.inl (b_mem t)))
   have HC := Hd (show ∀ W, TreeAt (B :: L) W (t'.setEnds t'.f.ownL t'.f.ownH) → Calls Tryz.prog 73 #[.pointer (some ⟨t.b, 0, none⟩)] W fun e w' => e = .returned (.tuple #[]) ∧ Keeps t.bs W w' ∧ TreeAt (B :: L) w' (sinkT t'.f.ownL t'.f.ownH t') from fun W hW => by
    have hv := HV.out.1.fb
    have hl := HV.out.2.low
    unfold FB at hv
    have := sink_all (B :: L) (t'.setEnds t'.f.ownL t'.f.ownH).siz _ W (Nat.le_refl _) hW ⟨HV.out.1.set _ _, HV.out.2.set _ _, by rw [setEnds_f]; simp only; omega, by rw [setEnds_f]; simp only; omega⟩ (by rw [setEnds_bs, HVb.out.2]; exact HND.out)
    rw [setEnds_bs, setEnds_b, sinkT_set, HVb.out.1, HVb.out.2] at this
    exact this)
   have HT3 := Hd hT
   clear c17 c18 c23 c24 f23 f24 tl2 hT
   refine (HC.out _ HT3.out).mono ?_
   rintro e w4 ⟨rfl, hk4, ht4⟩
   have HK4 := Hd (HK3.out.trans hk4)
   have HT4 := Hd ht4
   have h0 := HK4.out.cell hE HEn.out
   have hf0 : w4.frozen? ⟨B, 0, none⟩ = false := (HK4.out.frozen (a := ⟨B, 0, none⟩) (World.block_lt_of_cell? _ _ hE) HEn.out).trans hZ
   have hBl := World.block_lt_of_cell? _ _ h0
   clear hk4 ht4
   go_wp2_with fail
   refine leaves_cons (f := 71) (args := #[.pointer (some ⟨B, 0, none⟩)]) (by simp) (by simp [go_sem]) ?_
   refine (catch_true B _).mono ?_
   rintro r u' w'' ⟨rfl, rfl, rfl⟩
   simp [Leaves, settle, results, Tryz.results36, go_sem, h0]
   have hw : w.heap.size = B := HBe.out
   have hkw : Keeps t.bs w (w4.setCell ⟨B, 0, none⟩ (.bool true)) := ((Keeps.of_below (S := t.bs) (by rw [hw]; exact HB0.out)).trans HK4.out).then_set _ _ (.inr (by rw [hw]; exact Nat.le_refl _))
   refine ⟨by rw [solve_yes HR.out]; rfl, hkw, fun q hq => ?_⟩
   rw [solve_yes HR.out] at hq
   have hq' := Option.some.inj hq
   subst hq'
   have hbs : (sinkT t'.f.ownL t'.f.ownH t').bs = t.bs := by rw [sinkT_bs, HVb.out.2]
   refine (HT4.out.keeps (Keeps.setCell w4 ⟨B, 0, none⟩ (.bool true)) (fun x hx => by rw [List.mem_singleton.1 hx]; exact List.mem_cons_self) (fun x hx hx2 => ?_)).narrow (fun x hx => List.mem_cons_of_mem _ hx) (fun x hx => HS.out x (by rwa [hbs] at hx))
   rw [List.mem_singleton.1 hx2, hbs] at hx
   exact HEn.out hx
 · go_wp2_with fail
   refine leaves_cons (f := 71) (args := #[.pointer (some ⟨B, 0, none⟩)]) (by simp) (by simp [go_sem]) ?_
   have h0 := hk2.cell hE HEn.out
   have hf0 : w2.frozen? ⟨B, 0, none⟩ = false := (hk2.frozen (a := ⟨B, 0, none⟩) (World.block_lt_of_cell? _ _ hE) HEn.out).trans hZ
   refine (catch_untrue B false [] _ h0 hf0).mono ?_
   rintro r u' w'' ⟨rfl, rfl, rfl⟩
   have h1 := cell_on' (v := .bool false) h0
   have hBl := World.block_lt_of_cell? _ _ h0
   simp [Leaves, settle, results, Tryz.results36, go_sem, untrueV, h0, hBl]
   have hw : w.heap.size = B := HBe.out
   have hkw : Keeps t.bs w (w2.setCell ⟨B, 0, none⟩ (.bool false)) := ((Keeps.of_below (S := t.bs) (by rw [hw]; exact HB0.out)).trans hk2).then_set _ _ (.inr (by rw [hw]; exact Nat.le_refl _))
   exact ⟨by rw [solve_no ht']; rfl, hkw.then_below (al' (Below.refl _ _) _), fun q hq => by rw [solve_no ht'] at hq; cases hq⟩
open Go.RowKit Go.Shelf
theorem preL_append (a b : List Tr) : preL (a ++ b) = preL a ++ preL b := by
 induction a with
 | nil => rfl
 | cons k r ih => simp only [List.cons_append, preL, ih, List.append_assoc]
theorem preL_snoc {ks : List Tr} {k : Nat} {t : Tr} (ht : ks[k]? = some t) : preL (ks.take (k + 1)) = preL (ks.take k) ++ t :: t.pre := by
 rw [take_succ_snoc ht, preL_append]; simp [preL]
def isPack (pack : Int) (k : Tr) : Bool := decide (k.f.pack = pack)
structure FindAt (w : World) (B1 B2 : Nat) (pack : Int) : Prop where
 c1 : w.cell? ⟨B1, 0, none⟩ = some (.int .i64 pack)
 c2 : w.cell? ⟨B2, 0, none⟩ = some (.pointer none)
 f2 : w.frozen? ⟨B2, 0, none⟩ = false
def FoundPost (w : World) (B1 B2 : Nat) (pack : Int) (l : List Tr) (e : Ending) (w' : World) : Prop :=
 Keeps [B2] w w' ∧ ((l.find? (isPack pack) = none ∧ e = .returned (.bool true) ∧ FindAt w' B1 B2 pack) ∨ (∃ k, l.find? (isPack pack) = some k ∧ e = .returned (.bool false) ∧ w'.cell? ⟨B2, 0, none⟩ = some (.pointer (some ⟨k.b, 0, none⟩))))
theorem FindAt.below' {w w' : World} {B1 B2 : Nat} {pack : Int} (h : FindAt w B1 B2 pack) (hB : Below w.heap.size w w') : FindAt w' B1 B2 pack :=
 ⟨cell_stays h.c1 hB, cell_stays h.c2 hB, (hB.frozen (p := ⟨B2, 0, none⟩) (World.block_lt_of_cell? _ _ h.c2)).trans h.f2⟩
set_option maxRecDepth 100000 in
set_option maxHeartbeats 2000000 in
theorem find1_any (t : Tr) (a : Option Addr) (n cap : Nat) (B1 B2 : Nat) (pack : Int) (w : World) (hn : NodeAt w t.b t.f a n cap) (h : FindAt w B1 B2 pack) :
 Calls Tryz.prog 70 #[.pointer (some ⟨t.b, 0, none⟩), .pointer (some ⟨B1, 0, none⟩), .pointer (some ⟨B2, 0, none⟩)] w (FoundPost w B1 B2 pack [t]) := by
 obtain ⟨c1, c2, f2⟩ := h
 have d0 := hn.c0
 have tl := hn.lt
 have l1 := World.block_lt_of_cell? _ _ c1
 have l2 := World.block_lt_of_cell? _ _ c2
 have HF := Hd (show FindAt w B1 B2 pack from ⟨c1, c2, f2⟩)
 clear hn
 by_cases hp : t.f.pack = pack
 · have hq : (t.f.pack == pack) = true := by simpa using hp
   have HE := Hd (show [t].find? (isPack pack) = some t from by simp [isPack, hp])
   clear hp
   go_enter Tryz.func70, Tryz.ntmps70
   go_upto_region 1 with (fail)
   go_quiet (fail)
   go_wp2_with fail
   go_ret
   refine ⟨(Keeps.of_below (S := [B2]) (drewN_below w nq)).then_set ⟨B2, 0, none⟩ _ (.inl (by simp)), .inr ⟨t, HE.out, rfl, cell_on' (show (w.drewN nq).cell? ⟨B2, 0, none⟩ = some _ from c2)⟩⟩
 · have hq : (t.f.pack == pack) = false := by simpa using hp
   have HE := Hd (show [t].find? (isPack pack) = none from by simp [isPack, hp])
   clear hp
   go_enter Tryz.func70, Tryz.ntmps70
   go_upto_region 1 with (fail)
   go_quiet (fail)
   go_wp2_with fail
   go_ret
   refine ⟨Keeps.of_below (S := [B2]) (drewN_below w nq), .inl ⟨HE.out, rfl, HF.out.below' (drewN_below _ _)⟩⟩
theorem FoundPost.yes {w w' : World} {B1 B2 : Nat} {pack : Int} {l : List Tr} {e : Ending} {k : Tr} (h : FoundPost w B1 B2 pack l e w') (hk : l.find? (isPack pack) = some k) :
 e = .returned (.bool false) ∧ Keeps [B2] w w' ∧ w'.cell? ⟨B2, 0, none⟩ = some (.pointer (some ⟨k.b, 0, none⟩)) := by
 obtain ⟨h1, ⟨h2, _⟩ | ⟨q, h2, h3, h4⟩⟩ := h
 · rw [hk] at h2; cases h2
 · rw [hk] at h2; cases h2; exact ⟨h3, h1, h4⟩
theorem FoundPost.no {w w' : World} {B1 B2 : Nat} {pack : Int} {l : List Tr} {e : Ending} (h : FoundPost w B1 B2 pack l e w') (hk : l.find? (isPack pack) = none) :
 e = .returned (.bool true) ∧ Keeps [B2] w w' ∧ FindAt w' B1 B2 pack := by
 obtain ⟨h1, ⟨h2, h3, h4⟩ | ⟨q, h2, h3, h4⟩⟩ := h
 · exact ⟨h3, h1, h4⟩
 · rw [hk] at h2; cases h2
set_option maxRecDepth 100000 in
set_option maxHeartbeats 4000000 in
theorem every_all (L : List Nat) (B1 B2 : Nat) (pack : Int) (hB2 : B2 ∈ L) : ∀ (d : Nat) (t : Tr) (w : World), t.siz ≤ d → TreeAt L w t → B2 ∉ t.bs → t.ks.length ≤ 1000 ∧ Bd t → FindAt w B1 B2 pack →
 Calls Tryz.prog 69 #[.pointer (some ⟨t.b, 0, none⟩), .func (.func 70) #[] #[.pointer (some ⟨B1, 0, none⟩), .pointer (some ⟨B2, 0, none⟩)]] w (FoundPost w B1 B2 pack t.pre) := by
 intro d
 induction d with
 | zero => intro t w hd; have := siz_pos t; omega
 | succ d ih =>
   intro t w hd h hnb hbd hF
   obtain ⟨b, f, ks⟩ := t
   obtain ⟨a, cap, hn, hr, ha⟩ := h.at
   have HK := Hd h.kids
   have hlen := hbd.1
   have HBd := Hd hbd.2.kids
   simp only [b_node, f_node, ks_node] at *
   have HNB := Hd (show B2 ≠ b ∧ B2 ∉ bsL ks from by unfold Tr.bs at hnb; exact ⟨fun e => hnb (by rw [e]; simp), fun e => hnb (List.mem_cons_of_mem _ e)⟩)
   have HPre := Hd (show (Tr.node b f ks).pre = preL ks from rfl)
   have IH := Hd (show ∀ k ∈ ks, ∀ w, TreeAt L w k → FindAt w B1 B2 pack → Calls Tryz.prog 69 #[.pointer (some ⟨k.b, 0, none⟩), .func (.func 70) #[] #[.pointer (some ⟨B1, 0, none⟩), .pointer (some ⟨B2, 0, none⟩)]] w (FoundPost w B1 B2 pack k.pre) from fun k hk w hw hf =>
    ih k w (by have := siz_mem hk; unfold Tr.siz at hd; omega) hw (fun e => HNB.out.2 (bsL_mem hk _ e)) ⟨(HBd.out k hk).len, HBd.out k hk⟩ hf)
   rw [HPre.out]
   have HN := Hd hn
   have HR := Hd hr
   have HA := Hd ha
   have HF := Hd hF
   clear ih hd h hbd hnb hr ha hF
   have c16 := hn.c16
   have nl := hn.lt
   clear hn
   go_enter Tryz.func69, Tryz.ntmps69
   go_wp2_with fail
   go_loopw [12] (fun i wr => ∃ (k : Nat), k ≤ ks.length ∧ i = .int .i64 k ∧ (preL (ks.take k)).find? (isPack pack) = none ∧ Keeps [B2] w wr ∧ FindAt wr B1 B2 pack) (fun i _ => ks.length - (intOf i).toNat)
   case atStart => exact ⟨0, Nat.zero_le _, rfl, by simp [preL], Keeps.refl _ _, HF.out⟩
   case round =>
    obtain ⟨k, hk, rfl, hno, hkp, hf⟩ := hrel
    have HNo := Hd hno
    have HKp := Hd hkp
    have HF1 := Hd hf
    have hr1 := hkp.rd HR.out (fun h0 p e hm => HA.out h0 p e (by rw [List.mem_singleton.1 hm]; exact hB2))
    clear hno hkp hf c16
    by_cases hlt : k < ks.length
    · obtain ⟨t, ht⟩ : ∃ t, ks[k]? = some t := ⟨_, List.getElem?_eq_getElem hlt⟩
      have hlt' : (k : Int) < (ks.length : Int) := by omega
      obtain ⟨ab, off, xb, rfl, hab, hx, hcell⟩ := hr1.ptr hlt
      have hxb : xb = t.b := by rw [List.getElem?_map, ht] at hx; exact (Option.some.inj hx).symm
      subst hxb
      have hmem := List.mem_of_getElem? ht
      have HT := Hd ((HK.out t hmem).keeps HKp.out (fun x hx => by rw [List.mem_singleton.1 hx]; exact hB2) (fun x hx hx2 => HNB.out.2 (by rw [← List.mem_singleton.1 hx2]; exact bsL_mem hmem x hx)))
      obtain ⟨a2, cap2, hn2, hr2, ha2⟩ := HT.out.at
      have HSn := Hd (preL_snoc ht)
      have Hmem := Hd hmem
      have HAll := Hd (show preL ks = preL (ks.take k) ++ (t :: t.pre) ++ preL (ks.drop (k + 1)) from by rw [← HSn.out, ← preL_append, List.take_append_drop])
      have C1 := Hd (find1_any t a2 _ cap2 B1 B2 pack wr hn2 HF1.out)
      have HNB2 := Hd (show ∀ x ∈ t.bs, x ∉ [B2] from fun x hx hx2 => HNB.out.2 (by rw [← List.mem_singleton.1 hx2]; exact bsL_mem Hmem.out x hx))
      clear hn2 hr2 ha2 ht hx hmem hr1
      cases hp : isPack pack t with
      | true =>
        have HF2 := Hd (show (preL ks).find? (isPack pack) = some t from by
         rw [HAll.out, List.find?_append, List.find?_append, HNo.out]; simp [hp])
        have C2 := Hd (C1.out.mono (fun e w' h => h.yes (k := t) (by simp [hp])))
        go_wp2_with (go_at_call 70; refine C2.out.mono ?_; rintro e w2 ⟨rfl, hk2, hc2⟩)
        go_ret
        exact ⟨HKp.out.trans hk2, .inr ⟨t, HF2.out, rfl, hc2⟩⟩
      | false =>
        have C2 := Hd (C1.out.mono (fun e w' h => h.no (by simp [hp])))
        have HFt := Hd (show ∀ r, (t :: r).find? (isPack pack) = r.find? (isPack pack) from fun r => by simp [hp])
        cases hq : t.pre.find? (isPack pack) with
        | some q =>
          have HF2 := Hd (show (preL ks).find? (isPack pack) = some q from by
           rw [HAll.out, List.find?_append, List.find?_append, HNo.out, HFt.out, hq]; rfl)
          have C3 := Hd (show ∀ W, TreeAt L W t → FindAt W B1 B2 pack → _ from fun W h1 h2 => (IH.out t Hmem.out W h1 h2).mono (fun e w' h => h.yes hq))
          clear hq hp
          go_wp2_with (first | (go_at_call 70; refine C2.out.mono ?_; rintro e w2 ⟨rfl, hk2, hf2⟩) | (go_at_call 69; refine (C3.out _ (HT.out.keeps hk2 (fun x hx => by rw [List.mem_singleton.1 hx]; exact hB2) HNB2.out) hf2).mono ?_; rintro e w3 ⟨rfl, hk3, hc3⟩))
          go_ret
          exact ⟨(HKp.out.trans hk2).trans hk3, .inr ⟨q, HF2.out, rfl, hc3⟩⟩
        | none =>
          have HF2 := Hd (show (preL (ks.take (k + 1))).find? (isPack pack) = none from by
           rw [HSn.out, List.find?_append, HNo.out, HFt.out, hq]; rfl)
          have C3 := Hd (show ∀ W, TreeAt L W t → FindAt W B1 B2 pack → _ from fun W h1 h2 => (IH.out t Hmem.out W h1 h2).mono (fun e w' h => h.no hq))
          clear hq hp
          go_wp2_with (first | (go_at_call 70; refine C2.out.mono ?_; rintro e w2 ⟨rfl, hk2, hf2⟩) | (go_at_call 69; refine (C3.out _ (HT.out.keeps hk2 (fun x hx => by rw [List.mem_singleton.1 hx]; exact hB2) HNB2.out) hf2).mono ?_; rintro e w3 ⟨rfl, hk3, hf3⟩))
          exact ⟨⟨k + 1, by omega, by go_num, HF2.out, (HKp.out.trans hk2).trans hk3, hf3⟩, by simp [intOf]; omega⟩
    · have hltg : ¬ (k : Int) < (ks.length : Int) := by omega
      have HTk := Hd (show ks.take k = ks from List.take_of_length_le (by omega))
      rw [HTk.out] at HNo
      clear hlt hr1
      go_wp2_with fail
      go_ret
      exact ⟨HKp.out, .inl ⟨HNo.out, rfl, HF1.out⟩⟩
set_option maxRecDepth 100000 in
set_option maxHeartbeats 4000000 in
theorem find_all (L : List Nat) (t : Tr) (pack : Int) (w : World) (h : TreeAt L w t) (hbd : Bd t) :
 Calls Tryz.prog 34 #[.pointer (some ⟨t.b, 0, none⟩), .int .i64 pack] w fun e w' =>
  e = .returned (.pointer ((findT t pack).map (fun k => ⟨k.b, 0, none⟩))) ∧ Below w.heap.size w w' := by
 have hmf : ∀ (fn : Fn) (first cap : Array Value) (w : World), (Instr.makeFunc fn first cap).run Tryz.prog w = .ok (.func fn first cap) w := fun _ _ _ _ => rfl
 have hB0 := al' (al' (Below.refl w.heap.size w) (.cells #[.int .i64 pack] 3)) (.cells #[.pointer none] 63)
 have hF : FindAt ((w.alloc (.cells #[.int .i64 pack] 3)).alloc (.cells #[.pointer none] 63)) w.heap.size (w.heap.size + 1) pack := by
  have h2 := heap_alloc_new (w.alloc (.cells #[.int .i64 pack] 3)) (.cells #[.pointer none] 63)
  rw [show (w.alloc (.cells #[.int .i64 pack] 3)).heap.size = w.heap.size + 1 by simp] at h2
  refine ⟨cell_stays (by rw [cell_of_row _ _ _ _ _ (0, 0) (heap_alloc_new w _)]; rfl) (al' (Below.refl _ _) _), by rw [cell_of_row _ _ _ _ _ (0, 0) h2]; rfl, frz0 h2 0⟩
 have hT0 : TreeAt ((w.heap.size + 1) :: L) ((w.alloc (.cells #[.int .i64 pack] 3)).alloc (.cells #[.pointer none] 63)) t := (h.wide (fun x hx => List.mem_cons_of_mem _ hx) (fun x hx hlt hm => by
  rcases List.mem_cons.1 hm with rfl | hm
  · omega
  · exact hx hm)).below' hB0
 have hEn : (w.heap.size + 1) ∉ t.bs := fun hm => by have := h.bs_lt _ hm; omega
 have hs : ((w.alloc (.cells #[.int .i64 pack] 3)).alloc (.cells #[.pointer none] 63)).heap.size = w.heap.size + 1 + 1 := by simp
 have HC := Hd (every_all ((w.heap.size + 1) :: L) w.heap.size (w.heap.size + 1) pack (by simp) t.siz t _ (Nat.le_refl _) hT0 hEn ⟨hbd.len, hbd⟩ hF)
 have HB0 := Hd hB0
 clear h hbd hB0 hF hT0 hEn
 cases hq : t.pre.find? (isPack pack) with
 | some q =>
   have HE := Hd (show findT t pack = some q from hq)
   have C2 := Hd (HC.out.mono (fun e w' h => h.yes hq))
   clear hq
   go_enter Tryz.func34, Tryz.ntmps34
   go_wp2_with (go_at_call 69; refine C2.out.mono ?_; rintro e w2 ⟨rfl, hk2, hc2⟩)
   go_ret
   refine ⟨by rw [HE.out]; rfl, HB0.out.trans (hk2.below (fun x hx => by rw [List.mem_singleton.1 hx]; omega) (by omega))⟩
 | none =>
   have HE := Hd (show findT t pack = none from hq)
   have C2 := Hd (HC.out.mono (fun e w' h => h.no hq))
   clear hq
   go_enter Tryz.func34, Tryz.ntmps34
   go_wp2_with (go_at_call 69; refine C2.out.mono ?_; rintro e w2 ⟨rfl, hk2, ⟨g1, g2, g3⟩⟩)
   go_ret
   refine ⟨by rw [HE.out]; rfl, HB0.out.trans (hk2.below (fun x hx => by rw [List.mem_singleton.1 hx]; omega) (by omega))⟩
end Go.Proofs.YtehplmeckfinoaaGreatDoor
