/- The loop of the reference's Settle that takes back. -/
import Derived.Test.YtehedodogkhmgaaGreatPayW
set_option linter.unusedSimpArgs false
set_option linter.unusedVariables false
namespace Go.Proofs.YtehedodogkhmgaaGreat
open Go.RowKit Go.Shelf

set_option maxRecDepth 100000 in
set_option maxHeartbeats 100000000 in
theorem back_wp (K : Act → World → Prop) (Q : Exit → Act → World → Prop) (L : Code) (hL : L = backLoop) (a : Option Addr) (n cap : Nat) (xs : List Po) (d : List Du) (a'' : Option Addr) (n'' cap'' : Nat) (c : List Ca) (hour : Int) (w3 w5 : World) (v4 : Value) (ba : Option Addr) (bn bc : Nat)
    (s1 s4 s5 s6 s7 s8 s9 s10 s11 s13 s17 s18 s19 s20 s21 s22 s23 s24 s25 s26 s27 s28 s29 s30 s31 s32 s33 s34 s35 s36 s37 s38 s39 s40 s41 s42 s43 s44 s45 s46 s47 s48 s49 s50 s51 s52 s53 s54 s55 s56 s57 s58 s59 s60 s61 s62 s63 s64 s65 s66 s67 s68 s69 s70 s71 s72 s73 s74 s75 s76 s77 s78 s79 s80 s81 s82 s83 s84 s85 s86 s87 s88 s89 s90 s91 s92 s93 s94 s95 s96 s97 s98 s99 s100 s101 s102 s103 s104 s105 s106 s107 s108 s109 s110 s111 s112 s113 s114 s115 s116 s117 s118 s119 s120 s121 s122 s123 s124 s125 s126 s127 s128 s129 s130 s131 s132 s133 s134 s135 s136 s137 s138 s139 s140 s141 s142 s143 s144 s145 s146 s147 s148 s149 s150 s151 s152 s153 s154 s155 s156 s157 s158 s159 s160 s161 s162 s163 s164 s165 s166 s167 s168 s169 s170 s171 s172 s173 s174 s175 s176 s177 s178 s179 s180 s181 s182 s183 s184 s185 s186 s187 s188 s189 s190 s191 s192 s193 s194 s195 s196 s197 s198 s199 s200 s201 s202 s203 s204 s205 s206 s207 s208 s209 s210 s211 s212 s213 s214 s215 s216 s217 s218 s219 s220 s221 s222 s223 s224 s225 s226 s227 s228 s229 s230 s231 s232 s233 s234 s235 s236 s237 s238 s239 s240 s241 s242 s243 s244 s245 s246 s247 s248 s249 s250 s251 s252 : Value)
    (H3 : Hid (Rd Po.vals 8 w3 a n xs)) (hn : n ≤ 100) (H3'' : Hid (Rd Ca.vals 3 w3 a'' n'' c)) (hol : bn ≤ 400) (Hbn : Hid ((overM xs d).length = bn)) (Hl : Hid (xs.length = n))
    (Hid0 : Hid (0 ≤ idMax xs ∧ idMax xs ≤ 1000000)) (HO5 : Hid (w5.ownsRow w3.heap.size 63 8 v4 n (xs.flatMap Po.vals)))
    (HBr : Hid (Rd Du.vals 3 w5 ba bn (overM xs d))) (HBl : Hid (∀ q, ba = some q → q.block < w5.heap.size ∧ v4.ownBlock ≠ some q.block)) (HB5 : Hid (Below w3.heap.size w3 w5))
    (HK : Hid (∀ (u4 u5 u6 u7 u8 u9 u10 u11 u13 u15 u16 u17 u18 u19 u20 u21 u22 u23 u24 u25 u26 u27 u28 u29 u30 u31 u32 u33 u34 u35 u36 u37 u38 u39 u40 u41 u42 u43 u44 u45 u46 u47 u48 u49 u50 u51 u52 u53 u54 u55 u56 u57 u58 u59 u60 u61 u62 u63 u64 u65 u66 u67 u68 u69 u70 u71 u72 u73 u74 u75 u76 u77 u78 u79 u80 u81 u82 u83 u84 u85 u86 u87 u88 u89 u90 u91 u92 u93 u94 u95 u96 u97 u98 u99 u100 u101 u102 u103 u104 u105 u106 u107 u108 u109 u110 u111 u112 u113 u114 u115 u116 u117 u118 u119 u120 u121 u122 u123 u124 u125 u126 u127 u128 u129 u130 u131 u132 u133 u134 u135 u136 u137 u138 u139 u140 u141 u142 u143 u144 u145 u146 u147 u148 u149 u150 u151 u152 u153 u154 u155 u156 u157 u158 u159 u160 u161 u162 u163 u164 u165 u166 u167 u168 u169 u170 u171 u172 u173 u174 u175 u176 u177 u178 u179 u180 u181 u182 u183 u184 u185 u186 u187 u188 u189 u190 u191 u192 u193 u194 u195 u196 u197 u198 u199 u200 u201 u202 u203 u204 u205 u206 u207 u208 u209 u210 u211 u212 u213 u214 u215 u216 u217 u218 u219 u220 u221 u222 u223 u224 u225 u226 u227 u228 u229 u230 u231 u232 u233 u234 u235 u236 u237 u238 u239 u240 u241 u242 u243 u244 u245 u246 u247 u248 u249 u250 u251 u252 nv : Value) (W : World), (W.ownsRow w3.heap.size 63 8 nv (rBacks xs d c hour).2.length ((rBacks xs d c hour).2.flatMap Po.vals) ∧ Below w3.heap.size w3 W) → K ⟨((.slice a n cap) :: (s1) :: (.slice a'' n'' cap'') :: (.int .i64 hour) :: u4 :: u5 :: u6 :: u7 :: u8 :: u9 :: u10 :: u11 :: (.int .i64 (rBacks xs d c hour).1) :: u13 :: (nv) :: u15 :: u16 :: u17 :: u18 :: u19 :: u20 :: u21 :: u22 :: u23 :: u24 :: u25 :: u26 :: u27 :: u28 :: u29 :: u30 :: u31 :: u32 :: u33 :: u34 :: u35 :: u36 :: u37 :: u38 :: u39 :: u40 :: u41 :: u42 :: u43 :: u44 :: u45 :: u46 :: u47 :: u48 :: u49 :: u50 :: u51 :: u52 :: u53 :: u54 :: u55 :: u56 :: u57 :: u58 :: u59 :: u60 :: u61 :: u62 :: u63 :: u64 :: u65 :: u66 :: u67 :: u68 :: u69 :: u70 :: u71 :: u72 :: u73 :: u74 :: u75 :: u76 :: u77 :: u78 :: u79 :: u80 :: u81 :: u82 :: u83 :: u84 :: u85 :: u86 :: u87 :: u88 :: u89 :: u90 :: u91 :: u92 :: u93 :: u94 :: u95 :: u96 :: u97 :: u98 :: u99 :: u100 :: u101 :: u102 :: u103 :: u104 :: u105 :: u106 :: u107 :: u108 :: u109 :: u110 :: u111 :: u112 :: u113 :: u114 :: u115 :: u116 :: u117 :: u118 :: u119 :: u120 :: u121 :: u122 :: u123 :: u124 :: u125 :: u126 :: u127 :: u128 :: u129 :: u130 :: u131 :: u132 :: u133 :: u134 :: u135 :: u136 :: u137 :: u138 :: u139 :: u140 :: u141 :: u142 :: u143 :: u144 :: u145 :: u146 :: u147 :: u148 :: u149 :: u150 :: u151 :: u152 :: u153 :: u154 :: u155 :: u156 :: u157 :: u158 :: u159 :: u160 :: u161 :: u162 :: u163 :: u164 :: u165 :: u166 :: u167 :: u168 :: u169 :: u170 :: u171 :: u172 :: u173 :: u174 :: u175 :: u176 :: u177 :: u178 :: u179 :: u180 :: u181 :: u182 :: u183 :: u184 :: u185 :: u186 :: u187 :: u188 :: u189 :: u190 :: u191 :: u192 :: u193 :: u194 :: u195 :: u196 :: u197 :: u198 :: u199 :: u200 :: u201 :: u202 :: u203 :: u204 :: u205 :: u206 :: u207 :: u208 :: u209 :: u210 :: u211 :: u212 :: u213 :: u214 :: u215 :: u216 :: u217 :: u218 :: u219 :: u220 :: u221 :: u222 :: u223 :: u224 :: u225 :: u226 :: u227 :: u228 :: u229 :: u230 :: u231 :: u232 :: u233 :: u234 :: u235 :: u236 :: u237 :: u238 :: u239 :: u240 :: u241 :: u242 :: u243 :: u244 :: u245 :: u246 :: u247 :: u248 :: u249 :: u250 :: u251 :: u252 :: []).toArray, []⟩ W)) :
    Code.wp Tryz.prog L (Exit.inBlock 2 (Exit.then K Q)) ⟨((.slice a n cap) :: s1 :: (.slice a'' n'' cap'') :: (.int .i64 hour) :: s4 :: s5 :: s6 :: s7 :: s8 :: s9 :: s10 :: s11 :: (.int .i64 (idMax xs + 1)) :: s13 :: (v4) :: (.slice ba bn bc) :: (.int .i64 0) :: s17 :: s18 :: s19 :: s20 :: s21 :: s22 :: s23 :: s24 :: s25 :: s26 :: s27 :: s28 :: s29 :: s30 :: s31 :: s32 :: s33 :: s34 :: s35 :: s36 :: s37 :: s38 :: s39 :: s40 :: s41 :: s42 :: s43 :: s44 :: s45 :: s46 :: s47 :: s48 :: s49 :: s50 :: s51 :: s52 :: s53 :: s54 :: s55 :: s56 :: s57 :: s58 :: s59 :: s60 :: s61 :: s62 :: s63 :: s64 :: s65 :: s66 :: s67 :: s68 :: s69 :: s70 :: s71 :: s72 :: s73 :: s74 :: s75 :: s76 :: s77 :: s78 :: s79 :: s80 :: s81 :: s82 :: s83 :: s84 :: s85 :: s86 :: s87 :: s88 :: s89 :: s90 :: s91 :: s92 :: s93 :: s94 :: s95 :: s96 :: s97 :: s98 :: s99 :: s100 :: s101 :: s102 :: s103 :: s104 :: s105 :: s106 :: s107 :: s108 :: s109 :: s110 :: s111 :: s112 :: s113 :: s114 :: s115 :: s116 :: s117 :: s118 :: s119 :: s120 :: s121 :: s122 :: s123 :: s124 :: s125 :: s126 :: s127 :: s128 :: s129 :: s130 :: s131 :: s132 :: s133 :: s134 :: s135 :: s136 :: s137 :: s138 :: s139 :: s140 :: s141 :: s142 :: s143 :: s144 :: s145 :: s146 :: s147 :: s148 :: s149 :: s150 :: s151 :: s152 :: s153 :: s154 :: s155 :: s156 :: s157 :: s158 :: s159 :: s160 :: s161 :: s162 :: s163 :: s164 :: s165 :: s166 :: s167 :: s168 :: s169 :: s170 :: s171 :: s172 :: s173 :: s174 :: s175 :: s176 :: s177 :: s178 :: s179 :: s180 :: s181 :: s182 :: s183 :: s184 :: s185 :: s186 :: s187 :: s188 :: s189 :: s190 :: s191 :: s192 :: s193 :: s194 :: s195 :: s196 :: s197 :: s198 :: s199 :: s200 :: s201 :: s202 :: s203 :: s204 :: s205 :: s206 :: s207 :: s208 :: s209 :: s210 :: s211 :: s212 :: s213 :: s214 :: s215 :: s216 :: s217 :: s218 :: s219 :: s220 :: s221 :: s222 :: s223 :: s224 :: s225 :: s226 :: s227 :: s228 :: s229 :: s230 :: s231 :: s232 :: s233 :: s234 :: s235 :: s236 :: s237 :: s238 :: s239 :: s240 :: s241 :: s242 :: s243 :: s244 :: s245 :: s246 :: s247 :: s248 :: s249 :: s250 :: s251 :: s252 :: []).toArray, []⟩ w5 := by
  subst hL
  obtain ⟨i0, hi0, hz0, hz1, hz2⟩ := info_parts info_po
  simp only [backLoop, settleLoops, Tryz.f13, Option.map_some, Option.getD_some, loopsOf, List.nil_append, List.cons_append, List.append_nil, List.getD_cons_succ, List.getD_cons_zero]
  go_loopw [12, 14, 16] (fun idv nv i wr => ∃ k : Nat, k ≤ bn ∧ i = .int .i64 k ∧ idv = .int .i64 (((overM xs d).take k).foldl (rBack xs c hour) (idMax xs + 1, xs)).1 ∧ wr.ownsRow w3.heap.size 63 8 nv (((overM xs d).take k).foldl (rBack xs c hour) (idMax xs + 1, xs)).2.length ((((overM xs d).take k).foldl (rBack xs c hour) (idMax xs + 1, xs)).2.flatMap Po.vals) ∧ Rd Du.vals 3 wr ba bn (overM xs d) ∧ (∀ q, ba = some q → q.block < wr.heap.size ∧ nv.ownBlock ≠ some q.block) ∧ Below w3.heap.size w3 wr) (fun _ _ i _ => bn - (intOf i).toNat)
  case atStart => exact ⟨0, Nat.zero_le _, rfl, rfl, by simpa [Hl.out] using HO5.out, HBr.out, HBl.out, HB5.out⟩
  case round =>
    obtain ⟨k, hk, rfl, rfl, hrow, hbr, hbl, hB⟩ := hrel
    have HB6 := Lib.hid hB
    have HR6 := Lib.hid hrow
    have HD6 := Lib.hid hbr
    have HL6 := Lib.hid hbl
    have h0'' := H3''.out.below' hB
    have h0 := H3.out.below' hB
    have H6'' := Lib.hid h0''
    have H6 := Lib.hid h0
    have hbd := fold_bd (rBack_bd xs c hour) ((overM xs d).take k) (idMax xs + 1, xs)
    clear hB hrow hbr hbl h0 h0''
    by_cases hlt : k < bn
    · have hlt' : (k : Int) < (bn : Int) := by omega
      obtain ⟨b, off, x, rfl, hb, hx, x0, x1, x2⟩ := HD6.out.du hlt
      have HS := Lib.hid (show ((overM xs d).take (k + 1)).foldl (rBack xs c hour) (idMax xs + 1, xs) = rBack xs c hour (((overM xs d).take k).foldl (rBack xs c hour) (idMax xs + 1, xs)) x from foldl_take_snoc hx)
      have hlk : ((overM xs d).take k).length ≤ 400 := by rw [List.length_take]; omega
      obtain ⟨⟨sid, now⟩, hst⟩ : ∃ s, ((overM xs d).take k).foldl (rBack xs c hour) (idMax xs + 1, xs) = s := ⟨_, rfl⟩
      rw [hst] at HS hbd ⊢
      have HR6 := Lib.hid (show wr.ownsRow w3.heap.size 63 8 _ now.length (now.flatMap Po.vals) from (by have := HR6.out; rw [hst] at this; exact this))
      dsimp only at hbd ⊢
      have hid1 : 1 ≤ sid ∧ sid ≤ 2000000 := by have := Hid0.out; omega
      have hnl : now.length ≤ 600 := by have := Hl.out; omega
      have Hnl := Lib.hid hnl
      clear hx hst hbd hlk hnl
      go_wp2_with fail
      refine (rcause_any a'' n'' cap'' c x.parcel _ H6''.out).mono ?_
      rintro e w6 ⟨rfl, hB⟩
      obtain ⟨y, hy⟩ : ∃ y, (causeR c x.parcel).getD zCa = y := ⟨_, rfl⟩
      obtain ⟨is, his⟩ : ∃ is, (causeR c x.parcel).isSome = is := ⟨_, rfl⟩
      rw [hy, his]
      unfold caV
      have HCau := Lib.hid (And.intro hy his)
      have c0 := cell_keep x0 hB
      have c1 := cell_keep x1 hB
      have c2 := cell_keep x2 hB
      have hb6 : b < w6.heap.size := Nat.lt_of_lt_of_le hb hB.size
      have HR7 := Lib.hid (own_later HR6.out hB)
      have HB7 := Lib.hid (below_then HB6.out hB (Nat.le_refl _))
      have H7 := Lib.hid (H6.out.below' hB)
      have HD7 := Lib.hid (HD6.out.below' hB)
      have HL7 := Lib.hid (show ∀ q, (some ⟨b, off, none⟩ : Option Addr) = some q → q.block < w6.heap.size ∧ _ ≠ some q.block from fun q e => ⟨Nat.lt_of_lt_of_le (HL6.out q e).1 hB.size, (HL6.out q e).2⟩)
      clear hB x0 x1 x2 hy his HR6 HB6 H6 H6'' HD6 HL6 hb
      try dsimp only
      go_upto_region 23 with (fail)
      have hb7 : Below w6.heap.size w6 (w6.alloc (.cells #[.int .i64 y.parcel, .int .i64 y.reason, .int .i64 y.known] 71)) := (Below.refl _ w6).alloc (Nat.le_refl _) _
      have e1 : (w6.alloc (.cells #[.int .i64 y.parcel, .int .i64 y.reason, .int .i64 y.known] 71)).cell? ⟨w6.heap.size, 1, none⟩ = some (.int .i64 y.reason) := by simp
      have e2 : (w6.alloc (.cells #[.int .i64 y.parcel, .int .i64 y.reason, .int .i64 y.known] 71)).cell? ⟨w6.heap.size, 2, none⟩ = some (.int .i64 y.known) := by simp
      have hsz7 : (w6.alloc (.cells #[.int .i64 y.parcel, .int .i64 y.reason, .int .i64 y.known] 71)).heap.size = w6.heap.size + 1 := by simp
      generalize w6.alloc (.cells #[.int .i64 y.parcel, .int .i64 y.reason, .int .i64 y.known] 71) = w7 at *
      have d0 := cell_keep c0 hb7
      have d1 := cell_keep c1 hb7
      have d2 := cell_keep c2 hb7
      have HR8 := Lib.hid (own_later HR7.out hb7)
      have HB8 := Lib.hid (below_then HB7.out hb7 (Nat.le_refl _))
      have H8 := Lib.hid (H7.out.below' hb7)
      have HD8 := Lib.hid (HD7.out.below' hb7)
      have HOB := Lib.hid (HR7.out.lt)
      have Hsz7 := Lib.hid hsz7
      have hb7' : b < w7.heap.size := by omega
      clear c0 c1 c2 hb7 hsz7
      obtain ⟨q, hq⟩ : ∃ q, (lastL xs x.party x.parcel).getD zPo = q := ⟨_, rfl⟩
      obtain ⟨is2, his2⟩ : ∃ is2, (lastL xs x.party x.parcel).isSome = is2 := ⟨_, rfl⟩
      have HCL := Lib.hid (show ∀ W, Below w7.heap.size w7 W → _ from fun W hB => last_any a n cap xs x.party x.parcel W (H8.out.below' hB) (by omega) q is2 hq his2)
      have HQ := Lib.hid hq
      clear hq his2
      go_region_held3 (fun w' => w'.cell? ⟨b, off + k * 3, none⟩ = some (.int .i64 x.party) ∧ w'.cell? ⟨b, off + k * 3 + 1, none⟩ = some (.int .i64 x.parcel))
        ((refine keep2 ⟨d0, d1⟩ ?_; first | with_reducible apply bl0 | with_reducible apply bl1 | with_reducible apply HB3'.out | with_reducible apply bl3 HB3'.out | with_reducible apply below8 HB3'.out))
        (first
          | (go_at_call 70; with_reducible refine (HCL.out _ (Below.dr (Below.refl _ _))).mono ?_; rintro e w8 ⟨rfl, hB3⟩; have HB3' := Lib.hid (below_then (Below.dr (Below.refl w7.heap.size w7)) hB3 (Nat.le_refl _)); clear hB3)
          | (go_at_call 70; with_reducible refine (HCL.out _ (Below.dr (Below.alloc (Below.refl _ _) (Nat.le_refl _) _))).mono ?_; rintro e w8 ⟨rfl, hB3⟩; have HB3' := Lib.hid (below_then (Below.dr (Below.alloc (Below.refl w7.heap.size w7) (Nat.le_refl _) _)) hB3 (Nat.le_refl _)); obtain ⟨z0, z1, z2, z3, z4, z5, z6, z7, y0, y1, y2, y3, y4, y5, y6, y7, zl⟩ := zeros8 hB3; have HZ3 := Lib.hid (zbox hB3); clear hB3))
      all_goals first
        | (have hX : BoxPo ((((((((w8.setCell ⟨w7.heap.size, 0, none⟩ (.int .i64 q.id)).setCell ⟨w7.heap.size, 1, none⟩ (.int .i64 q.hour)).setCell ⟨w7.heap.size, 2, none⟩ (.int .u8 q.kind)).setCell ⟨w7.heap.size, 3, none⟩ (.int .i64 q.party)).setCell ⟨w7.heap.size, 4, none⟩ (.int .i64 q.parcel)).setCell ⟨w7.heap.size, 5, none⟩ (.int .i64 q.amount)).setCell ⟨w7.heap.size, 6, none⟩ (.int .i64 q.reason)).setCell ⟨w7.heap.size, 7, none⟩ (.int .i64 q.known)) w7.heap.size q := put8_cells HZ3.out q; have hW := below8 HB3'.out q; generalize ((((((((w8.setCell ⟨w7.heap.size, 0, none⟩ (.int .i64 q.id)).setCell ⟨w7.heap.size, 1, none⟩ (.int .i64 q.hour)).setCell ⟨w7.heap.size, 2, none⟩ (.int .u8 q.kind)).setCell ⟨w7.heap.size, 3, none⟩ (.int .i64 q.party)).setCell ⟨w7.heap.size, 4, none⟩ (.int .i64 q.parcel)).setCell ⟨w7.heap.size, 5, none⟩ (.int .i64 q.amount)).setCell ⟨w7.heap.size, 6, none⟩ (.int .i64 q.reason)).setCell ⟨w7.heap.size, 7, none⟩ (.int .i64 q.known)) = W at *)
        | (have hX := BoxPo.made w8 q 63; have hW := bl3 HB3'.out (.cells #[.int .i64 q.id, .int .i64 q.hour, .int .u8 q.kind, .int .i64 q.party, .int .i64 q.parcel, .int .i64 q.amount, .int .i64 q.reason, .int .i64 q.known] 63); generalize w8.alloc (.cells #[.int .i64 q.id, .int .i64 q.hour, .int .u8 q.kind, .int .i64 q.party, .int .i64 q.parcel, .int .i64 q.amount, .int .i64 q.reason, .int .i64 q.known] 63) = W at *)
      all_goals
        have f0 := cell_keep d0 hW
        have f1 := cell_keep d1 hW
        have f2 := cell_keep d2 hW
        have g1 := cell_keep e1 hW
        have g2 := cell_keep e2 hW
        have v7 := hX.cells.2.2.2.2.2.2.2
        have vl := hX.1
        have hbW : b < W.heap.size := Nat.lt_of_lt_of_le hb7' hW.size
        have hcW : w6.heap.size < W.heap.size := World.block_lt_of_cell? _ _ g1
        have HR9 := Lib.hid (own_later HR8.out hW)
        have HB9 := Lib.hid (below_then HB8.out hW (Nat.le_refl _))
        have HD9 := Lib.hid (HD8.out.below' hW)
        have HL9 := Lib.hid (show ∀ q, (some ⟨b, off, none⟩ : Option Addr) = some q → q.block < W.heap.size ∧ _ ≠ some q.block from fun q e => ⟨Nat.lt_of_lt_of_le (HL7.out q e).1 (by have := hW.size; have := Hsz7.out; omega), (HL7.out q e).2⟩)
        clear d0 d1 d2 e1 e2 hW hX
        cases is with
        | false =>
          have HE := Lib.hid (show rBack xs c hour (sid, now) x = (sid, now) from rBack_none (by have := HCau.out.2; cases hh : causeR c x.parcel with | none => rfl | some z => rw [hh] at this; cases this))
          go_wp2_with fail
          refine ⟨⟨k + 1, by omega, by go_num, by rw [HS.out, HE.out], by rw [HS.out, HE.out]; exact HR9.out, HD9.out, HL9.out, HB9.out⟩, by simp [intOf]; omega⟩
        | true =>
          have hcy : causeR c x.parcel = some y := by
            have h1 := HCau.out.1
            have h2 := HCau.out.2
            cases hh : causeR c x.parcel with
            | none => rw [hh] at h2; cases h2
            | some z => rw [hh] at h1; exact congrArg some h1
          have Hcy := Lib.hid hcy
          clear hcy
          by_cases t1 : y.known ≤ hour
          case neg =>
            have HE := Lib.hid (show rBack xs c hour (sid, now) x = (sid, now) from rBack_not Hcy.out (fun e => t1 e.1))
            go_wp2_with fail
            refine ⟨⟨k + 1, by omega, by go_num, by rw [HS.out, HE.out], by rw [HS.out, HE.out]; exact HR9.out, HD9.out, HL9.out, HB9.out⟩, by simp [intOf]; omega⟩
          by_cases t2 : q.known < y.known
          case neg =>
            have HE := Lib.hid (show rBack xs c hour (sid, now) x = (sid, now) from rBack_not Hcy.out (fun e => t2 (by rw [← HQ.out]; exact e.2)))
            go_wp2_with fail
            refine ⟨⟨k + 1, by omega, by go_num, by rw [HS.out, HE.out], by rw [HS.out, HE.out]; exact HR9.out, HD9.out, HL9.out, HB9.out⟩, by simp [intOf]; omega⟩
          have HE := Lib.hid (show rBack xs c hour (sid, now) x = (sid + 1, now ++ [postP hour 3 x y sid]) from rBack_yes Hcy.out ⟨t1, by rw [HQ.out]; exact t2⟩)
          go_upto_region 25 with (fail)
          go_region_held3 (fun w' => w'.cell? ⟨b, off + k * 3, none⟩ = some (.int .i64 x.party) ∧ w'.cell? ⟨b, off + k * 3 + 1, none⟩ = some (.int .i64 x.parcel) ∧ w'.cell? ⟨b, off + k * 3 + 2, none⟩ = some (.int .i64 x.amount) ∧ w'.cell? ⟨w6.heap.size, 1, none⟩ = some (.int .i64 y.reason) ∧ w'.cell? ⟨w6.heap.size, 2, none⟩ = some (.int .i64 y.known))
            ((first | (with_reducible apply HK9.out) | (refine keep5 ⟨f0, f1, f2, g1, g2⟩ ?_; first | with_reducible apply bl0 | with_reducible apply bl1)))
            (first
              | (refine step_append_lies _ (by rfl) _ _ _ (by rfl) _ 63 i0 _ 8 64 Tryz.underlying22 hi0 hz0 hz1 hz2 rfl (by omega) _ now.length (now.flatMap Po.vals) (by rfl) (own_later HR9.out (bl1 W _)) ⟨W.heap.size, 0, none⟩ 1 1 (Po.vals (postP hour 3 x y sid)) (by rfl) (by rfl)
                  (World.news_of_block (cs := #[.int .i64 sid, .int .i64 hour, .int .u8 3, .int .i64 x.party, .int .i64 x.parcel, .int .i64 x.amount, .int .i64 y.reason, .int .i64 y.known]) (t := 63) (fr := (0, 0)) (heap_alloc_new W _)) (by simp [Po.vals, postP, Value.oneCell']) (by omega) (by have := Hnl.out; unfold maxLen; omega) (by have := Hnl.out; omega) (Nat.le_trans HB9.out.size (by simp)) _ rfl ?_; intro g cap9 w9 hown9 hgrow hat hlt9
                 have HK9 := Lib.hid (keep5g ⟨f0, f1, f2, g1, g2⟩ hgrow (HL9.out _ rfl).2 (fun e => by have := (HOB.out _ e).2; omega) hbW hcW); have HO9 := Lib.hid hown9; have HG9 := Lib.hid hgrow; have HA9 := Lib.hid hat; clear hown9 hgrow hat))
          go_wp2_with fail
          refine ⟨⟨k + 1, by omega, by go_num, by rw [HS.out, HE.out], ?_, rd_grown HD9.out HG9.out (fun q e => HL9.out q e), fun q e => ⟨Nat.lt_of_lt_of_le (HL9.out q e).1 (grown_size HG9.out), own_apart HA9.out (HL9.out q e)⟩, (below_then HB9.out (bl1 W _) (Nat.le_refl _)).grown HG9.out (Nat.le_trans HB9.out.size (by show W.heap.size ≤ (W.alloc _).heap.size; simp)) (fun k e => (HR9.out.lt k e).1)⟩, by simp [intOf]; omega⟩
          rw [HS.out, HE.out]
          dsimp only
          rw [List.length_append, List.flatMap_append]
          simpa using HO9.out
    · have hlt' : ¬ (k : Int) < (bn : Int) := by omega
      · have hlt' : ¬ (k : Int) < (bn : Int) := by omega
        have hke : (overM xs d).take k = overM xs d := List.take_of_length_le (by rw [Hbn.out]; omega)
        rw [hke] at HR6 ⊢
        have HR6 := Lib.hid (show wr.ownsRow w3.heap.size 63 8 _ (rBacks xs d c hour).2.length ((rBacks xs d c hour).2.flatMap Po.vals) from HR6.out)
        clear hke hbd HD6 HL6
        rw [show (overM xs d).foldl (rBack xs c hour) (idMax xs + 1, xs) = rBacks xs d c hour from rfl]
        go_wp2_with fail
        with_reducible apply HK.out
        exact ⟨HR6.out, HB6.out⟩
end Go.Proofs.YtehedodogkhmgaaGreat
