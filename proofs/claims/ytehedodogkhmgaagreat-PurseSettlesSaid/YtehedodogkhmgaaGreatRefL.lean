/- The walk of the reference's Settle. -/
import Derived.Test.YtehedodogkhmgaaGreatBackW
import Derived.Test.YtehedodogkhmgaaGreatPayW
import Derived.Deep.CutRange
set_option linter.unusedSimpArgs false
set_option linter.unusedVariables false
namespace Go.Proofs.YtehedodogkhmgaaGreat
open Go.RowKit Go.Shelf

set_option maxRecDepth 100000 in
set_option maxHeartbeats 100000000 in
theorem rsettle_any (a : Option Addr) (n cap : Nat) (xs : List Po) (a' : Option Addr) (n' cap' : Nat) (d : List Du) (a'' : Option Addr) (n'' cap'' : Nat) (c : List Ca) (hour : Int) (w : World)
    (h : Rd Po.vals 8 w a n xs) (hn : n ≤ 100) (hcap : n ≤ cap) (hz : a = none → cap = 0) (h' : Rd Du.vals 3 w a' n' d) (h'' : Rd Ca.vals 3 w a'' n'' c) :
    Calls Tryz.prog 13 #[.slice a n cap, .slice a' n' cap', .slice a'' n'' cap'', .int .i64 hour] w (RSettlePost w xs d c hour) := by
  have Hl := Lib.hid h.len
  have Hl' := Lib.hid h'.len
  have Hz := Lib.hid hz
  have H0 := Lib.hid h
  have H0' := Lib.hid h'
  have H0'' := Lib.hid h''
  obtain ⟨i0, hi0, hz0, hz1, hz2⟩ := info_parts info_po
  clear h h' h'' hz
  go_enter Tryz.func13, Tryz.ntmps13
  go_wp2_with fail
  refine (rcheck_any a n cap xs _ H0.out (by omega) hcap).mono ?_
  rintro e w1 ⟨rfl, hB⟩
  have HB1 := Lib.hid hB
  clear hB
  by_cases hc : (checkL xs).2 = 0
  case neg =>
    have hc1 : ((checkL xs).2 == 0) = false := by simp [hc]
    have hc2 : ((checkL xs).2 != 0) = true := by simp [hc]
    have HE := Lib.hid (show preE xs d c hour = (checkL xs).2 by unfold preE; rw [if_pos hc])
    have HC := Lib.hid hc
    clear hc
    go_wp2_with fail
    go_ret2
    exact RSettlePost.fail HB1.out HE.out HC.out
  have hc1 : ((checkL xs).2 == 0) = true := by simp [hc]
  have HCk := Lib.hid hc
  clear hc
  go_wp2_with fail
  refine (rhour_any hour _).mono ?_
  rintro e w2 ⟨rfl, rfl⟩
  by_cases hh : 0 ≤ hour ∧ hour ≤ 1000000
  case neg =>
    have hd : decide (0 ≤ hour ∧ hour ≤ 1000000) = false := by simp only [decide_eq_false_iff_not]; exact hh
    rw [hd]
    have HE := Lib.hid (show preE xs d c hour = 1 by unfold preE; rw [if_neg (by simp [HCk.out]), if_pos hh])
    clear hd hh
    go_wp2_with fail
    go_ret2
    exact RSettlePost.fail HB1.out HE.out (by omega)
  have hd : decide (0 ≤ hour ∧ hour ≤ 1000000) = true := by simp only [decide_eq_true_eq]; exact hh
  rw [hd]
  have Hh := Lib.hid hh
  have hce : (checkL xs).2 = 0 := HCk.out
  clear hd hh hc1
  rw [hce]
  clear hce
  go_wp2_with fail
  refine (rcheckDues_any a' n' cap' d _ (H0'.out.below' HB1.out)).mono ?_
  rintro e w2 ⟨rfl, hB⟩
  have HB2 := Lib.hid (below_then HB1.out hB (Nat.le_refl _))
  clear hB HB1
  by_cases hcd : chkDu d = 0
  case neg =>
    have hc1 : (chkDu d == 0) = false := by simp [hcd]
    have hc2 : (chkDu d != 0) = true := by simp [hcd]
    have HE := Lib.hid (show preE xs d c hour = chkDu d by unfold preE; rw [if_neg (by simp [HCk.out]), if_neg (by simp [Hh.out]), if_pos hcd])
    have HC := Lib.hid hcd
    clear hcd
    go_wp2_with fail
    go_ret2
    exact RSettlePost.fail HB2.out HE.out HC.out
  have HCd := Lib.hid hcd
  rw [hcd]
  clear hcd
  go_wp2_with fail
  refine (rcheckCauses_any a'' n'' cap'' c _ (H0''.out.below' HB2.out)).mono ?_
  rintro e w3 ⟨rfl, hB⟩
  have HB3 := Lib.hid (below_then HB2.out hB (Nat.le_refl _))
  clear hB HB2
  by_cases hcc : chkCa c = 0
  case neg =>
    have hc1 : (chkCa c == 0) = false := by simp [hcc]
    have hc2 : (chkCa c != 0) = true := by simp [hcc]
    have HE := Lib.hid (show preE xs d c hour = chkCa c by unfold preE; rw [if_neg (by simp [HCk.out]), if_neg (by simp [Hh.out]), if_neg (by simp [HCd.out]), if_pos hcc])
    have HC := Lib.hid hcc
    clear hcc
    go_wp2_with fail
    go_ret2
    exact RSettlePost.fail HB3.out HE.out HC.out
  have HCc := Lib.hid hcc
  rw [hcc]
  clear hcc
  have H3 := Lib.hid (H0.out.below' HB3.out)
  -- the last hour
  have hlast : (lastHour xs ≤ hour ∧ (n = 0 ∨ (0 < n ∧ ∃ b off x, a = some ⟨b, off, none⟩ ∧ b < w3.heap.size ∧ w3.cell? ⟨b, off + (n - 1) * 8 + 1, none⟩ = some (.int .i64 x) ∧ ¬ hour < x))) ∨
      (hour < lastHour xs ∧ 0 < n ∧ ∃ b off x, a = some ⟨b, off, none⟩ ∧ b < w3.heap.size ∧ w3.cell? ⟨b, off + (n - 1) * 8 + 1, none⟩ = some (.int .i64 x) ∧ hour < x) := by
    by_cases hn0 : n = 0
    · left
      have hx : xs = [] := List.eq_nil_of_length_eq_zero (by rw [Hl.out]; exact hn0)
      have := Hh.out
      exact ⟨by rw [hx]; show (0 : Int) ≤ hour; omega, .inl hn0⟩
    · obtain ⟨b, off, q, ha, hb, hq, x0, x1, x2, x3, x4, x5, x6, x7⟩ := H3.out.po (show n - 1 < n by omega)
      have hle : lastHour xs = q.hour := lastHour_at (n := n - 1) (by rw [Hl.out]; omega) hq
      by_cases hlt : hour < q.hour
      · right; exact ⟨by rw [hle]; exact hlt, by omega, b, off, q.hour, ha, hb, x1, hlt⟩
      · left; exact ⟨by rw [hle]; omega, .inr ⟨by omega, b, off, q.hour, ha, hb, x1, hlt⟩⟩
  rcases hlast with ⟨hle, hlast⟩ | ⟨hlt, hn0, b, off, x, rfl, hb, x1, hx⟩
  case inr =>
    have HE := Lib.hid (show preE xs d c hour = 7 by unfold preE; rw [if_neg (by simp [HCk.out]), if_neg (by simp [Hh.out]), if_neg (by simp [HCd.out]), if_neg (by simp [HCc.out]), if_pos hlt])
    have hn1 : (0 : Int) < (n : Int) := by omega
    have hsub : (n : Int) - 1 = ((n - 1 : Nat) : Int) := by omega
    have hkk : ((n - 1 : Nat) : Int) < (n : Int) := by omega
    have hkk' : n - 1 < n := by omega
    clear hlt
    go_wp2_with fail
    go_ret2
    exact RSettlePost.fail HB3.out HE.out (by omega)
  have HP := Lib.hid (show preE xs d c hour = 0 by unfold preE; rw [if_neg (by simp [HCk.out]), if_neg (by simp [Hh.out]), if_neg (by simp [HCd.out]), if_neg (by simp [HCc.out]), if_neg (by omega)])
  have HLe := Lib.hid hle
  clear hle
  go_upto_region 8 with (fail)
  go_cut [62] from 25 (fun s62 wx => s62 = .bool false ∧ wx = w3)
  case first =>
    rcases hlast with hn0 | ⟨hn0, lb, loff, lx, hae, hlb, x1, hx⟩
    · have hn1 : ¬ (0 : Int) < (n : Int) := by omega
      clear hn0
      go_wp2_with fail
      go_meet
      case rel => exact ⟨rfl, rfl⟩
    · have hn1 : (0 : Int) < (n : Int) := by omega
      have hsub : (n : Int) - 1 = ((n - 1 : Nat) : Int) := by omega
      have hkk : ((n - 1 : Nat) : Int) < (n : Int) := by omega
      have hkk' : n - 1 < n := by omega
      subst hae
      go_wp2_with fail
      go_meet
      case rel => exact ⟨by rw [decide_eq_false (by omega)], rfl⟩
  case rest =>
  obtain ⟨rfl, rfl⟩ := hcut
  clear hlast
  obtain ⟨w3, rfl⟩ : ∃ w3 : World, w3 = wc := ⟨_, rfl⟩
  go_upto_region 14 with (fail)
  go_loopw [12, 13] (fun v i wr => ∃ k : Nat, k ≤ n ∧ i = .int .i64 k ∧ v = .int .i64 (idMax (xs.take k) + 1) ∧ wr = w3) (fun _ i _ => n - (intOf i).toNat)
  case atStart => exact ⟨0, Nat.zero_le _, rfl, rfl, rfl⟩
  case round =>
    obtain ⟨k, hk, rfl, rfl, rfl⟩ := hrel
    by_cases hlt : k < n
    · have hlt' : (k : Int) < (n : Int) := by omega
      obtain ⟨b, off, q, rfl, hb, hq, x0, x1, x2, x3, x4, x5, x6, x7⟩ := H3.out.po hlt
      have hok := checkL_okl HCk.out
      have hqo := hok q (List.mem_of_getElem? hq)
      have hid : 1 ≤ q.id ∧ q.id ≤ 1000000 := by unfold okPo at hqo; omega
      have hbd := idMax_bd (fun p hp => hok p (List.mem_of_mem_take hp) : Okl (xs.take k))
      have HS := Lib.hid (show idMax (xs.take (k + 1)) = max (idMax (xs.take k)) q.id by rw [take_succ_snoc hq, idMax_snoc])
      obtain ⟨m, hm⟩ : ∃ m, idMax (xs.take k) = m := ⟨_, rfl⟩
      rw [hm] at HS hbd ⊢
      clear hok hqo hq hm x1 x2 x3 x4 x5 x6 x7
      go_wp2_with fail
      exact ⟨⟨k + 1, by omega, by go_num, by rw [HS.out]; first | done | (congr 1; omega), by first | rfl | trivial⟩, by simp [intOf]; omega⟩
    · have hlt' : ¬ (k : Int) < (n : Int) := by omega
      have hm : idMax (xs.take k) = idMax xs := by rw [List.take_of_length_le (by rw [Hl.out]; omega)]
      rw [hm]
      clear hm
      obtain ⟨w3, rfl⟩ : ∃ w3 : World, w3 = wr := ⟨_, rfl⟩
      go_upto_region 17 with (fail)
      clear hlt hlt' hk
      go_upto_region 18 with (at_builtin; go_loud (refine wpList_append_rd po_vals_length po_one (by decide) _ rfl _ _ 22 rfl w3.heap.size 63 i0 _ 64 Tryz.underlying22 hi0 hz0 hz1 hz2 rfl (.slice (some ⟨w3.heap.size, 0, none⟩) 0 0) 0 [] rfl (mk_row w3 (Nat.le_refl _) rfl) a n cap xs rfl (H3.out.below' ((Below.refl _ w3).alloc (Nat.le_refl _) _)) Hz.out (by omega) (by omega) (by simp) ?_; intro v4 w4 hown4 hgrow4))
      have hB4 := ((Below.refl w3.heap.size w3).alloc (Nat.le_refl _) (.cells #[] 63)).grown hgrow4 (by simp) (fun k e => by simp [Value.ownBlock] at e; omega)
      have HB4 := Lib.hid hB4
      have HO4 := Lib.hid (show w4.ownsRow w3.heap.size 63 8 v4 n (xs.flatMap Po.vals) by simpa using hown4)
      clear hown4 hgrow4 hB4
      have hokl := checkL_okl HCk.out
      have HA := Lib.hid hokl.am
      have HDo := Lib.hid (goodB_all (chkDu_ok HCd.out).2)
      clear hokl
      go_wp2_with fail
      refine (rover_any a n cap xs a' n' cap' d _ (H3.out.below' HB4.out) (by omega) HA.out ((H0'.out.below' HB3.out).below' HB4.out) HDo.out).mono ?_
      rintro e w5 ⟨v5, rfl, hrow, hB5⟩
      rw [overR_eq HCd.out] at hrow
      have hol : (overM xs d).length ≤ 400 := by
        obtain ⟨s0, hb0⟩ := book_bk HCk.out
        exact Nat.le_trans (List.length_filterMap_le _ _) (accL_len hb0)
      obtain ⟨bn, hbn⟩ : ∃ bn, (overM xs d).length = bn := ⟨_, rfl⟩
      rw [hbn] at hrow hol
      obtain ⟨ba, bc, rfl, hbc, hbr, hbl⟩ := Rd.of_own hrow du_vals_length (by omega) hbn (by unfold maxLen; omega)
      have HBr := Lib.hid hbr
      have HBl := Lib.hid (show ∀ q, ba = some q → q.block < w5.heap.size ∧ v4.ownBlock ≠ some q.block from fun q e => ⟨(hbl q e).2, fun e' => by have := (HO4.out.lt _ e').2; have := (hbl q e).1; omega⟩)
      have HO5 := Lib.hid (own_later HO4.out hB5)
      have HB5 := Lib.hid (below_then HB4.out hB5 (Nat.le_refl _))
      have Hbn := Lib.hid hbn
      have Hid := Lib.hid (idMax_bd (checkL_okl HCk.out))
      clear hrow hB5 hbr hbl hbn HB4 HO4
      go_upto_region 20 with (fail)
      refine back_wp _ _ _ (by kernel_rfl) a n cap xs d a'' n'' cap'' c hour w3 w5 v4 ba bn bc _ _ _ _ _ _ _ _ _ _ _ _ _ _ _ _ _ _ _ _ _ _ _ _ _ _ _ _ _ _ _ _ _ _ _ _ _ _ _ _ _ _ _ _ _ _ _ _ _ _ _ _ _ _ _ _ _ _ _ _ _ _ _ _ _ _ _ _ _ _ _ _ _ _ _ _ _ _ _ _ _ _ _ _ _ _ _ _ _ _ _ _ _ _ _ _ _ _ _ _ _ _ _ _ _ _ _ _ _ _ _ _ _ _ _ _ _ _ _ _ _ _ _ _ _ _ _ _ _ _ _ _ _ _ _ _ _ _ _ _ _ _ _ _ _ _ _ _ _ _ _ _ _ _ _ _ _ _ _ _ _ _ _ _ _ _ _ _ _ _ _ _ _ _ _ _ _ _ _ _ _ _ _ _ _ _ _ _ _ _ _ _ _ _ _ _ _ _ _ _ _ _ _ _ _ _ _ _ _ _ _ _ _ _ _ _ _ _ _ _ _ _ _ _ _ _ _ _ _ _ _ _ _ _ _ _ _ _ _ _ _ _ _ _ _ _ H3 (by omega) (Lib.hid (H0''.out.below' HB3.out)) hol Hbn Hl Hid HO5 HBr HBl HB5 (Lib.hid ?_)
      intro u4 u5 u6 u7 u8 u9 u10 u11 u13 u15 u16 u17 u18 u19 u20 u21 u22 u23 u24 u25 u26 u27 u28 u29 u30 u31 u32 u33 u34 u35 u36 u37 u38 u39 u40 u41 u42 u43 u44 u45 u46 u47 u48 u49 u50 u51 u52 u53 u54 u55 u56 u57 u58 u59 u60 u61 u62 u63 u64 u65 u66 u67 u68 u69 u70 u71 u72 u73 u74 u75 u76 u77 u78 u79 u80 u81 u82 u83 u84 u85 u86 u87 u88 u89 u90 u91 u92 u93 u94 u95 u96 u97 u98 u99 u100 u101 u102 u103 u104 u105 u106 u107 u108 u109 u110 u111 u112 u113 u114 u115 u116 u117 u118 u119 u120 u121 u122 u123 u124 u125 u126 u127 u128 u129 u130 u131 u132 u133 u134 u135 u136 u137 u138 u139 u140 u141 u142 u143 u144 u145 u146 u147 u148 u149 u150 u151 u152 u153 u154 u155 u156 u157 u158 u159 u160 u161 u162 u163 u164 u165 u166 u167 u168 u169 u170 u171 u172 u173 u174 u175 u176 u177 u178 u179 u180 u181 u182 u183 u184 u185 u186 u187 u188 u189 u190 u191 u192 u193 u194 u195 u196 u197 u198 u199 u200 u201 u202 u203 u204 u205 u206 u207 u208 u209 u210 u211 u212 u213 u214 u215 u216 u217 u218 u219 u220 u221 u222 u223 u224 u225 u226 u227 u228 u229 u230 u231 u232 u233 u234 u235 u236 u237 u238 u239 u240 u241 u242 u243 u244 u245 u246 u247 u248 u249 u250 u251 u252 nv w6 ⟨hrow, hB⟩
      have HR6 := Lib.hid hrow
      have HB6 := Lib.hid hB
      clear hrow hB HO5 HBr HBl HB5
      go_upto_region 28 with (fail)
      refine pay_wp _ _ _ (by kernel_rfl) a n cap xs a' n' cap' d a'' n'' cap'' c hour w w3 w6 nv _ _ _ _ _ _ _ _ _ _ _ _ _ _ _ _ _ _ _ _ _ _ _ _ _ _ _ _ _ _ _ _ _ _ _ _ _ _ _ _ _ _ _ _ _ _ _ _ _ _ _ _ _ _ _ _ _ _ _ _ _ _ _ _ _ _ _ _ _ _ _ _ _ _ _ _ _ _ _ _ _ _ _ _ _ _ _ _ _ _ _ _ _ _ _ _ _ _ _ _ _ _ _ _ _ _ _ _ _ _ _ _ _ _ _ _ _ _ _ _ _ _ _ _ _ _ _ _ _ _ _ _ _ _ _ _ _ _ _ _ _ _ _ _ _ _ _ _ _ _ _ _ _ _ _ _ _ _ _ _ _ _ _ _ _ _ _ _ _ _ _ _ _ _ _ _ _ _ _ _ _ _ _ _ _ _ _ _ _ _ _ _ _ _ _ _ _ _ _ _ _ _ _ _ _ _ _ _ _ _ _ _ _ _ _ _ _ _ _ _ _ _ _ _ _ _ _ _ _ _ _ _ _ _ _ _ _ _ _ _ _ _ _ _ _ _ (by omega) H0' HB3 (Lib.hid (H0''.out.below' HB3.out)) HCk HCd HCc (by rw [Hbn.out]; exact hol) Hl Hl' Hid HR6 HB6 (Lib.hid ?_)
      clear HR6 HB6
      intro x4 x5 x6 x7 x8 x9 x10 x11 x13 x15 x16 x17 x18 x19 x20 x21 x22 x23 x24 x25 x26 x27 x28 x29 x30 x31 x32 x33 x34 x35 x36 x37 x38 x39 x40 x41 x42 x43 x44 x45 x46 x47 x48 x49 x50 x51 x52 x53 x54 x55 x56 x57 x58 x59 x60 x61 x62 x63 x64 x65 x66 x67 x68 x69 x70 x71 x72 x73 x74 x75 x76 x77 x78 x79 x80 x81 x82 x83 x84 x85 x86 x87 x88 x89 x90 x91 x92 x93 x94 x95 x96 x97 x98 x99 x100 x101 x102 x103 x104 x105 x106 x107 x108 x109 x110 x111 x112 x113 x114 x115 x116 x117 x118 x119 x120 x121 x122 x123 x124 x125 x126 x127 x128 x129 x130 x131 x132 x133 x134 x135 x136 x137 x138 x139 x140 x141 x142 x143 x144 x145 x146 x147 x148 x149 x150 x151 x152 x153 x154 x155 x156 x157 x158 x159 x160 x161 x162 x163 x164 x165 x166 x167 x168 x169 x170 x171 x172 x173 x174 x175 x176 x177 x178 x179 x180 x181 x182 x183 x184 x185 x186 x187 x188 x189 x190 x191 x192 x193 x194 x195 x196 x197 x198 x199 x200 x201 x202 x203 x204 x205 x206 x207 x208 x209 x210 x211 x212 x213 x214 x215 x216 x217 x218 x219 x220 x221 x222 x223 x224 x225 x226 x227 x228 x229 x230 x231 x232 x233 x234 x235 x236 x237 x238 x239 x240 x241 x242 x243 x244 x245 x246 x247 x248 x249 x250 x251 x252 nv wr ⟨hrow, hB7, hsb⟩
      have HB7 := Lib.hid hB7
      clear hB7
      obtain ⟨st, hst⟩ : ∃ st, settleSt xs d c hour = st := ⟨_, rfl⟩
      rw [hst] at hrow hsb ⊢
      have HSt := Lib.hid hst
      obtain ⟨sl, hsl⟩ : ∃ sl, st.out.length = sl := ⟨_, rfl⟩
      rw [hsl] at hsb
      have hr7 := hrow
      rw [List.length_append, Hl.out, hsl] at hr7
      obtain ⟨tl, htl⟩ : ∃ tl, n + sl = tl := ⟨_, rfl⟩
      rw [htl] at hr7
      obtain ⟨na, nc, rfl, hnc, hnr, hnb⟩ := Rd.of_own hr7 po_vals_length (by decide) (by rw [List.length_append, Hl.out, hsl, htl]) (by unfold maxLen; omega)
      have HNr := Lib.hid hnr
      have HNn := Lib.hid (show na = none → nc = 0 ∧ tl = 0 from fun e => by
        subst e
        rcases hr7.2 with ⟨e1, e'⟩ | ⟨g, cp, cu, e1, _⟩
        · injection e1 with _ _ h3; exact ⟨h3, e'⟩
        · injection e1 with h1; cases h1)
      have HNs := Lib.hid (show ∀ q, na = some q → ∃ g, q = ⟨g, 0, none⟩ from fun q e => by
        subst e
        rcases hr7.2 with ⟨e1, e'⟩ | ⟨g, cp, cu, e1, _⟩
        · injection e1 with h1; cases h1
        · injection e1 with h1; cases h1; exact ⟨_, rfl⟩)
      have Hsl := Lib.hid hsl
      have Htl := Lib.hid htl
      have HBf := Lib.hid (below_then HB3.out HB7.out (Nat.le_refl _))
      clear hst hsl hr7 hnr hnb hrow
      have hEq : settleE xs d c hour = if 400 < n + sl ∨ (0 < sl ∧ 1000000 < st.id) then 2 else 0 := by
        unfold settleE
        rw [if_neg (by simp [HP.out]), HSt.out, Hl.out, Hsl.out]
      have HEq := Lib.hid hEq
      clear hEq
      by_cases q1 : 400 < tl
      · have q1' : (400 : Int) < (tl : Int) := by omega
        have HE := Lib.hid (show settleE xs d c hour = 2 by rw [HEq.out, if_pos (by omega)])
        go_wp2_with fail
        go_ret2
        exact ⟨HBf.out, none, 0, 0, by rw [HE.out]; rfl, by rw [HE.out, if_neg (by omega)]; exact Rd.empty _ _⟩
      have q1' : ¬ (400 : Int) < (tl : Int) := by omega
      by_cases q2 : n < tl
      · have q2' : (n : Int) < (tl : Int) := by omega
        by_cases q3 : 1000000 < st.id
        · skip
          have HE := Lib.hid (show settleE xs d c hour = 2 by rw [HEq.out, if_pos (by omega)])
          go_wp2_with fail
          go_ret2
          exact ⟨HBf.out, none, 0, 0, by rw [HE.out]; rfl, by rw [HE.out, if_neg (by omega)]; exact Rd.empty _ _⟩
        have HE := Lib.hid (show settleE xs d c hour = 0 by rw [HEq.out, if_neg (by omega)])
        have hk0' : (0 : Int) ≤ (n : Int) := by omega
        have hkt : (n : Int) ≤ (tl : Int) := by omega
        have hkc : (n : Int) ≤ (nc : Int) := by omega
        have hkc2 : n ≤ nc := by omega
        cases hna : na with
        | none =>
          subst hna
          obtain ⟨u1, u2⟩ := HNn.out rfl
          subst u1
          have HZ1 := Lib.hid (show st.out = [] from List.eq_nil_of_length_eq_zero (by rw [Hsl.out]; have := Htl.out; omega))
          have hn0' : n = 0 := by have := Htl.out; omega
          have htl0 : tl = 0 := by omega
          subst hn0'
          subst htl0
          go_wp2_with fail
          go_ret2
          exact ⟨HBf.out, none, 0, 0, by rw [HE.out]; rfl, by rw [HE.out, if_pos rfl, HSt.out, HZ1.out]; exact Rd.empty _ _⟩
        | some qa =>
          subst hna
          obtain ⟨g, rfl⟩ := HNs.out qa rfl
          have hdr := Rd.drop HNr.out (m := n) (by omega)
          have hout : (xs ++ st.out).drop n = st.out := by rw [List.drop_append_of_le_length (by rw [Hl.out]; omega), List.drop_of_length_le (by rw [Hl.out]; omega)]; rfl
          rw [hout] at hdr
          have HDR := Lib.hid hdr
          clear hdr hout
          by_cases hnc2 : n < nc
          · have hnc3 : (n : Int) < (nc : Int) := by omega
            go_wp2_with fail
            go_ret2
            refine ⟨HBf.out, some ⟨g, 0 + n * 8, none⟩, tl - n, nc - n, by rw [HE.out]; first | rfl | simp, by rw [HE.out, if_pos rfl, HSt.out]; exact HDR.out⟩
          · have hnc3 : (nc : Int) = (n : Int) := by omega
            have hnc4 : nc = n := by omega
            have htn : tl = n := by omega
            have HZ1 := Lib.hid (show st.out = [] from List.eq_nil_of_length_eq_zero (by rw [Hsl.out]; have := Htl.out; omega))
            subst hnc4
            subst htn
            go_wp2_with fail
            go_ret2
            refine ⟨HBf.out, _, 0, _, by rw [HE.out]; first | rfl | simp, by rw [HE.out, if_pos rfl, HSt.out, HZ1.out]; exact Rd.empty _ _⟩
      · have q2' : ¬ (n : Int) < (tl : Int) := by omega
        have HE := Lib.hid (show settleE xs d c hour = 0 by rw [HEq.out, if_neg (by omega)])
        have hk0' : (0 : Int) ≤ (n : Int) := by omega
        have hkt : (n : Int) ≤ (tl : Int) := by omega
        have hkc : (n : Int) ≤ (nc : Int) := by omega
        have hkc2 : n ≤ nc := by omega
        cases hna : na with
        | none =>
          subst hna
          obtain ⟨u1, u2⟩ := HNn.out rfl
          subst u1
          have HZ1 := Lib.hid (show st.out = [] from List.eq_nil_of_length_eq_zero (by rw [Hsl.out]; have := Htl.out; omega))
          have hn0' : n = 0 := by have := Htl.out; omega
          have htl0 : tl = 0 := by omega
          subst hn0'
          subst htl0
          go_wp2_with fail
          go_ret2
          exact ⟨HBf.out, none, 0, 0, by rw [HE.out]; rfl, by rw [HE.out, if_pos rfl, HSt.out, HZ1.out]; exact Rd.empty _ _⟩
        | some qa =>
          subst hna
          obtain ⟨g, rfl⟩ := HNs.out qa rfl
          have hdr := Rd.drop HNr.out (m := n) (by omega)
          have hout : (xs ++ st.out).drop n = st.out := by rw [List.drop_append_of_le_length (by rw [Hl.out]; omega), List.drop_of_length_le (by rw [Hl.out]; omega)]; rfl
          rw [hout] at hdr
          have HDR := Lib.hid hdr
          clear hdr hout
          by_cases hnc2 : n < nc
          · have hnc3 : (n : Int) < (nc : Int) := by omega
            go_wp2_with fail
            go_ret2
            refine ⟨HBf.out, some ⟨g, 0 + n * 8, none⟩, tl - n, nc - n, by rw [HE.out]; first | rfl | simp, by rw [HE.out, if_pos rfl, HSt.out]; exact HDR.out⟩
          · have hnc3 : (nc : Int) = (n : Int) := by omega
            have hnc4 : nc = n := by omega
            have htn : tl = n := by omega
            have HZ1 := Lib.hid (show st.out = [] from List.eq_nil_of_length_eq_zero (by rw [Hsl.out]; have := Htl.out; omega))
            subst hnc4
            subst htn
            go_wp2_with fail
            go_ret2
            refine ⟨HBf.out, _, 0, _, by rw [HE.out]; first | rfl | simp, by rw [HE.out, if_pos rfl, HSt.out, HZ1.out]; exact Rd.empty _ _⟩
end Go.Proofs.YtehedodogkhmgaaGreat
