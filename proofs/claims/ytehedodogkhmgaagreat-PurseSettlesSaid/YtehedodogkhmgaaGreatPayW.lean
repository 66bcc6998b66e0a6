/- The loops of the reference's Settle, as codes of their own. -/
import Derived.Test.YtehedodogkhmgaaGreatRSettle
import Derived.Test.YtehedodogkhmgaaGreatRefP
import Derived.Test.YtehedodogkhmgaaGreatRefE
import Derived.Deep.RegionHeld3
set_option linter.unusedSimpArgs false
set_option linter.unusedVariables false
namespace Go.Proofs.YtehedodogkhmgaaGreat
open Go.RowKit Go.Shelf
/-- the loops of a code, the outer ones first -/
def loopsOf : Code → List Code
  | .seq a b => loopsOf a ++ loopsOf b
  | .cond _ a b => loopsOf a ++ loopsOf b
  | .block _ b => loopsOf b
  | .loop b => .loop b :: loopsOf b
  | .scope b => loopsOf b
  | _ => []
noncomputable def settleLoops : List Code := (Tryz.f13.body.map loopsOf).getD []
/-- the loop of the backs -/
noncomputable def backLoop : Code := settleLoops.getD 1 .skip
/-- the loop of the payments -/
noncomputable def payLoop : Code := settleLoops.getD 2 .skip
theorem keep5 {W W' : World} {a a' b' c c' : Addr} {u v x y z : Value} (h : W.cell? a = some u ∧ W.cell? a' = some v ∧ W.cell? b' = some x ∧ W.cell? c = some y ∧ W.cell? c' = some z) (hB : Below W.heap.size W W') :
    W'.cell? a = some u ∧ W'.cell? a' = some v ∧ W'.cell? b' = some x ∧ W'.cell? c = some y ∧ W'.cell? c' = some z := ⟨cell_keep h.1 hB, cell_keep h.2.1 hB, cell_keep h.2.2.1 hB, cell_keep h.2.2.2.1 hB, cell_keep h.2.2.2.2 hB⟩
theorem keep5g {W W' : World} {o : Obj} {b B i0 i1 i2 j1 j2 : Nat} {u v x y z : Value} {row : Option Nat} (h : W.cell? ⟨b, i0, none⟩ = some u ∧ W.cell? ⟨b, i1, none⟩ = some v ∧ W.cell? ⟨b, i2, none⟩ = some x ∧ W.cell? ⟨B, j1, none⟩ = some y ∧ W.cell? ⟨B, j2, none⟩ = some z) (hg : (W.alloc o).drew.grownBy W' row) (hb : row ≠ some b) (hB : row ≠ some B) (hlb : b < W.heap.size) (hlB : B < W.heap.size) :
    W'.cell? ⟨b, i0, none⟩ = some u ∧ W'.cell? ⟨b, i1, none⟩ = some v ∧ W'.cell? ⟨b, i2, none⟩ = some x ∧ W'.cell? ⟨B, j1, none⟩ = some y ∧ W'.cell? ⟨B, j2, none⟩ = some z := by
  have h1 : ∀ i, W'.cell? ⟨b, i, none⟩ = W.cell? ⟨b, i, none⟩ := fun i => (hg.cell_far ⟨b, i, none⟩ (Nat.lt_of_lt_of_le hlb (by show W.heap.size ≤ (W.alloc o).heap.size; simp)) (fun e => hb e.symm)).trans ((bl1 W o).cell (p := ⟨b, i, none⟩) hlb)
  have h2 : ∀ i, W'.cell? ⟨B, i, none⟩ = W.cell? ⟨B, i, none⟩ := fun i => (hg.cell_far ⟨B, i, none⟩ (Nat.lt_of_lt_of_le hlB (by show W.heap.size ≤ (W.alloc o).heap.size; simp)) (fun e => hB e.symm)).trans ((bl1 W o).cell (p := ⟨B, i, none⟩) hlB)
  rw [h1, h1, h1, h2, h2]; exact h

theorem alloc_drew_size (W : World) (o : Obj) : (W.alloc o).drew.heap.size = W.heap.size + 1 := by show (W.alloc o).heap.size = _; simp
theorem grown_size {W W' : World} {o : Obj} {row : Option Nat} (hg : (W.alloc o).drew.grownBy W' row) : W.heap.size ≤ W'.heap.size := Nat.le_trans (by rw [alloc_drew_size]; omega) hg.size
theorem rd_grown {α : Type} {E : α → List Value} {k n : Nat} {W W' : World} {o : Obj} {row : Option Nat} {a : Option Addr} {xs : List α} (h : Rd E k W a n xs) (hg : (W.alloc o).drew.grownBy W' row) (hb : ∀ q, a = some q → q.block < W.heap.size ∧ row ≠ some q.block) : Rd E k W' a n xs :=
  ⟨h.len, h.cap, fun i hi => by
    obtain ⟨b, off, x, rfl, hlt, hx, hc⟩ := h.read i hi
    refine ⟨b, off, x, rfl, Nat.lt_of_lt_of_le hlt (grown_size hg), hx, fun j hj => ?_⟩
    rw [hg.cell_far ⟨b, off + i * k + j, none⟩ (by rw [alloc_drew_size]; exact Nat.lt_succ_of_lt hlt) (fun e => (hb _ rfl).2 e.symm), (bl1 W o).cell (p := ⟨b, off + i * k + j, none⟩) hlt]
    exact hc j hj⟩
theorem own_apart {W : World} {o : Obj} {v : Value} {g m c b : Nat} (hat : v.ownBlock = some g ∨ g = (W.alloc o).drew.heap.size) (h : b < W.heap.size ∧ v.ownBlock ≠ some b) : (Value.slice (some ⟨g, 0, none⟩) m c).ownBlock ≠ some b := by
  intro e
  have hg : g = b := by simpa [Value.ownBlock] using e
  subst hg
  rcases hat with h1 | h1
  · exact h.2 h1
  · rw [alloc_drew_size] at h1; omega

def RSettlePost (w : World) (xs : List Po) (d : List Du) (c : List Ca) (h : Int) (e : Ending) (w' : World) : Prop :=
  Below w.heap.size w w' ∧ ∃ a n cap, e = .returned (.tuple #[.slice a n cap, .int .i64 (settleE xs d c h)]) ∧ Rd Po.vals 8 w' a n (if settleE xs d c h = 0 then (settleSt xs d c h).out else [])
theorem RSettlePost.fail {w w' : World} {xs : List Po} {d : List Du} {c : List Ca} {h e : Int} (hB : Below w.heap.size w w') (h1 : preE xs d c h = e) (h2 : ¬ e = 0) : RSettlePost w xs d c h (.returned (.tuple #[.slice none 0 0, .int .i64 e])) w' := by
  have he : settleE xs d c h = e := by subst h1; unfold settleE; rw [if_pos h2]
  exact ⟨hB, none, 0, 0, by rw [he], by rw [he, if_neg h2]; exact Rd.empty _ _⟩

end Go.Proofs.YtehedodogkhmgaaGreat

/- The loop of the reference's Settle that pays. -/
set_option linter.unusedSimpArgs false
set_option linter.unusedVariables false
namespace Go.Proofs.YtehedodogkhmgaaGreat
open Go.RowKit Go.Shelf

set_option maxRecDepth 100000 in
set_option maxHeartbeats 100000000 in
theorem pay_wp (K : Act → World → Prop) (Q : Exit → Act → World → Prop) (L : Code) (hL : L = payLoop) (a : Option Addr) (n cap : Nat) (xs : List Po) (a' : Option Addr) (n' cap' : Nat) (d : List Du) (a'' : Option Addr) (n'' cap'' : Nat) (c : List Ca) (hour : Int) (w w3 w6 : World) (nv : Value)
    (s4 s5 s6 s7 s8 s9 s10 s11 s13 s15 s16 s17 s18 s19 s20 s22 s23 s24 s25 s26 s27 s28 s29 s30 s31 s32 s33 s34 s35 s36 s37 s38 s39 s40 s41 s42 s43 s44 s45 s46 s47 s48 s49 s50 s51 s52 s53 s54 s55 s56 s57 s58 s59 s60 s61 s62 s63 s64 s65 s66 s67 s68 s69 s70 s71 s72 s73 s74 s75 s76 s77 s78 s79 s80 s81 s82 s83 s84 s85 s86 s87 s88 s89 s90 s91 s92 s93 s94 s95 s96 s97 s98 s99 s100 s101 s102 s103 s104 s105 s106 s107 s108 s109 s110 s111 s112 s113 s114 s115 s116 s117 s118 s119 s120 s121 s122 s123 s124 s125 s126 s127 s128 s129 s130 s131 s132 s133 s134 s135 s136 s137 s138 s139 s140 s141 s142 s143 s144 s145 s146 s147 s148 s149 s150 s151 s152 s153 s154 s155 s156 s157 s158 s159 s160 s161 s162 s163 s164 s165 s166 s167 s168 s169 s170 s171 s172 s173 s174 s175 s176 s177 s178 s179 s180 s181 s182 s183 s184 s185 s186 s187 s188 s189 s190 s191 s192 s193 s194 s195 s196 s197 s198 s199 s200 s201 s202 s203 s204 s205 s206 s207 s208 s209 s210 s211 s212 s213 s214 s215 s216 s217 s218 s219 s220 s221 s222 s223 s224 s225 s226 s227 s228 s229 s230 s231 s232 s233 s234 s235 s236 s237 s238 s239 s240 s241 s242 s243 s244 s245 s246 s247 s248 s249 s250 s251 s252 : Value)
    (hn : n ≤ 100) (H0' : Hid (Rd Du.vals 3 w a' n' d)) (HB3 : Hid (Below w.heap.size w w3)) (H3'' : Hid (Rd Ca.vals 3 w3 a'' n'' c)) (HCk : Hid ((checkL xs).2 = 0)) (HCd : Hid (chkDu d = 0)) (HCc : Hid (chkCa c = 0)) (hol : (overM xs d).length ≤ 400) (Hl : Hid (xs.length = n)) (Hl' : Hid (d.length = n'))
    (Hid0 : Hid (0 ≤ idMax xs ∧ idMax xs ≤ 1000000)) (HR6 : Hid (w6.ownsRow w3.heap.size 63 8 nv (rBacks xs d c hour).2.length ((rBacks xs d c hour).2.flatMap Po.vals))) (HB6 : Hid (Below w3.heap.size w3 w6))
    (HK : Hid (∀ (u4 u5 u6 u7 u8 u9 u10 u11 u13 u15 u16 u17 u18 u19 u20 u21 u22 u23 u24 u25 u26 u27 u28 u29 u30 u31 u32 u33 u34 u35 u36 u37 u38 u39 u40 u41 u42 u43 u44 u45 u46 u47 u48 u49 u50 u51 u52 u53 u54 u55 u56 u57 u58 u59 u60 u61 u62 u63 u64 u65 u66 u67 u68 u69 u70 u71 u72 u73 u74 u75 u76 u77 u78 u79 u80 u81 u82 u83 u84 u85 u86 u87 u88 u89 u90 u91 u92 u93 u94 u95 u96 u97 u98 u99 u100 u101 u102 u103 u104 u105 u106 u107 u108 u109 u110 u111 u112 u113 u114 u115 u116 u117 u118 u119 u120 u121 u122 u123 u124 u125 u126 u127 u128 u129 u130 u131 u132 u133 u134 u135 u136 u137 u138 u139 u140 u141 u142 u143 u144 u145 u146 u147 u148 u149 u150 u151 u152 u153 u154 u155 u156 u157 u158 u159 u160 u161 u162 u163 u164 u165 u166 u167 u168 u169 u170 u171 u172 u173 u174 u175 u176 u177 u178 u179 u180 u181 u182 u183 u184 u185 u186 u187 u188 u189 u190 u191 u192 u193 u194 u195 u196 u197 u198 u199 u200 u201 u202 u203 u204 u205 u206 u207 u208 u209 u210 u211 u212 u213 u214 u215 u216 u217 u218 u219 u220 u221 u222 u223 u224 u225 u226 u227 u228 u229 u230 u231 u232 u233 u234 u235 u236 u237 u238 u239 u240 u241 u242 u243 u244 u245 u246 u247 u248 u249 u250 u251 u252 nv : Value) (W : World), (W.ownsRow w3.heap.size 63 8 nv (xs ++ (settleSt xs d c hour).out).length ((xs ++ (settleSt xs d c hour).out).flatMap Po.vals) ∧ Below w3.heap.size w3 W ∧ (settleSt xs d c hour).out.length ≤ 1000 ∧ -10 ≤ (settleSt xs d c hour).id ∧ (settleSt xs d c hour).id ≤ 2000000) → K ⟨((.slice a n cap) :: (.slice a' n' cap') :: (.slice a'' n'' cap'') :: (.int .i64 hour) :: u4 :: u5 :: u6 :: u7 :: u8 :: u9 :: u10 :: u11 :: (.int .i64 ((settleSt xs d c hour).id + 1)) :: u13 :: (nv) :: u15 :: u16 :: u17 :: u18 :: u19 :: u20 :: u21 :: u22 :: u23 :: u24 :: u25 :: u26 :: u27 :: u28 :: u29 :: u30 :: u31 :: u32 :: u33 :: u34 :: u35 :: u36 :: u37 :: u38 :: u39 :: u40 :: u41 :: u42 :: u43 :: u44 :: u45 :: u46 :: u47 :: u48 :: u49 :: u50 :: u51 :: u52 :: u53 :: u54 :: u55 :: u56 :: u57 :: u58 :: u59 :: u60 :: u61 :: u62 :: u63 :: u64 :: u65 :: u66 :: u67 :: u68 :: u69 :: u70 :: u71 :: u72 :: u73 :: u74 :: u75 :: u76 :: u77 :: u78 :: u79 :: u80 :: u81 :: u82 :: u83 :: u84 :: u85 :: u86 :: u87 :: u88 :: u89 :: u90 :: u91 :: u92 :: u93 :: u94 :: u95 :: u96 :: u97 :: u98 :: u99 :: u100 :: u101 :: u102 :: u103 :: u104 :: u105 :: u106 :: u107 :: u108 :: u109 :: u110 :: u111 :: u112 :: u113 :: u114 :: u115 :: u116 :: u117 :: u118 :: u119 :: u120 :: u121 :: u122 :: u123 :: u124 :: u125 :: u126 :: u127 :: u128 :: u129 :: u130 :: u131 :: u132 :: u133 :: u134 :: u135 :: u136 :: u137 :: u138 :: u139 :: u140 :: u141 :: u142 :: u143 :: u144 :: u145 :: u146 :: u147 :: u148 :: u149 :: u150 :: u151 :: u152 :: u153 :: u154 :: u155 :: u156 :: u157 :: u158 :: u159 :: u160 :: u161 :: u162 :: u163 :: u164 :: u165 :: u166 :: u167 :: u168 :: u169 :: u170 :: u171 :: u172 :: u173 :: u174 :: u175 :: u176 :: u177 :: u178 :: u179 :: u180 :: u181 :: u182 :: u183 :: u184 :: u185 :: u186 :: u187 :: u188 :: u189 :: u190 :: u191 :: u192 :: u193 :: u194 :: u195 :: u196 :: u197 :: u198 :: u199 :: u200 :: u201 :: u202 :: u203 :: u204 :: u205 :: u206 :: u207 :: u208 :: u209 :: u210 :: u211 :: u212 :: u213 :: u214 :: u215 :: u216 :: u217 :: u218 :: u219 :: u220 :: u221 :: u222 :: u223 :: u224 :: u225 :: u226 :: u227 :: u228 :: u229 :: u230 :: u231 :: u232 :: u233 :: u234 :: u235 :: u236 :: u237 :: u238 :: u239 :: u240 :: u241 :: u242 :: u243 :: u244 :: u245 :: u246 :: u247 :: u248 :: u249 :: u250 :: u251 :: u252 :: []).toArray, []⟩ W)) :
    Code.wp Tryz.prog L (Exit.inBlock 4 (Exit.then K Q)) ⟨((.slice a n cap) :: (.slice a' n' cap') :: (.slice a'' n'' cap'') :: (.int .i64 hour) :: s4 :: s5 :: s6 :: s7 :: s8 :: s9 :: s10 :: s11 :: (.int .i64 (rBacks xs d c hour).1) :: s13 :: (nv) :: s15 :: s16 :: s17 :: s18 :: s19 :: s20 :: (.int .i64 0) :: s22 :: s23 :: s24 :: s25 :: s26 :: s27 :: s28 :: s29 :: s30 :: s31 :: s32 :: s33 :: s34 :: s35 :: s36 :: s37 :: s38 :: s39 :: s40 :: s41 :: s42 :: s43 :: s44 :: s45 :: s46 :: s47 :: s48 :: s49 :: s50 :: s51 :: s52 :: s53 :: s54 :: s55 :: s56 :: s57 :: s58 :: s59 :: s60 :: s61 :: s62 :: s63 :: s64 :: s65 :: s66 :: s67 :: s68 :: s69 :: s70 :: s71 :: s72 :: s73 :: s74 :: s75 :: s76 :: s77 :: s78 :: s79 :: s80 :: s81 :: s82 :: s83 :: s84 :: s85 :: s86 :: s87 :: s88 :: s89 :: s90 :: s91 :: s92 :: s93 :: s94 :: s95 :: s96 :: s97 :: s98 :: s99 :: s100 :: s101 :: s102 :: s103 :: s104 :: s105 :: s106 :: s107 :: s108 :: s109 :: s110 :: s111 :: s112 :: s113 :: s114 :: s115 :: s116 :: s117 :: s118 :: s119 :: s120 :: s121 :: s122 :: s123 :: s124 :: s125 :: s126 :: s127 :: s128 :: s129 :: s130 :: s131 :: s132 :: s133 :: s134 :: s135 :: s136 :: s137 :: s138 :: s139 :: s140 :: s141 :: s142 :: s143 :: s144 :: s145 :: s146 :: s147 :: s148 :: s149 :: s150 :: s151 :: s152 :: s153 :: s154 :: s155 :: s156 :: s157 :: s158 :: s159 :: s160 :: s161 :: s162 :: s163 :: s164 :: s165 :: s166 :: s167 :: s168 :: s169 :: s170 :: s171 :: s172 :: s173 :: s174 :: s175 :: s176 :: s177 :: s178 :: s179 :: s180 :: s181 :: s182 :: s183 :: s184 :: s185 :: s186 :: s187 :: s188 :: s189 :: s190 :: s191 :: s192 :: s193 :: s194 :: s195 :: s196 :: s197 :: s198 :: s199 :: s200 :: s201 :: s202 :: s203 :: s204 :: s205 :: s206 :: s207 :: s208 :: s209 :: s210 :: s211 :: s212 :: s213 :: s214 :: s215 :: s216 :: s217 :: s218 :: s219 :: s220 :: s221 :: s222 :: s223 :: s224 :: s225 :: s226 :: s227 :: s228 :: s229 :: s230 :: s231 :: s232 :: s233 :: s234 :: s235 :: s236 :: s237 :: s238 :: s239 :: s240 :: s241 :: s242 :: s243 :: s244 :: s245 :: s246 :: s247 :: s248 :: s249 :: s250 :: s251 :: s252 :: []).toArray, []⟩ w6 := by
  subst hL
  obtain ⟨i0, hi0, hz0, hz1, hz2⟩ := info_parts info_po
  have HDo := Lib.hid (goodB_all (chkDu_ok HCd.out).2)
  have HBk := Lib.hid (show (rBacks xs d c hour).2.length ≤ xs.length + (overM xs d).length ∧ idMax xs + 1 ≤ (rBacks xs d c hour).1 ∧ (rBacks xs d c hour).1 ≤ idMax xs + 1 + (overM xs d).length from by have h := fold_bd (rBack_bd xs c hour) (overM xs d) (idMax xs + 1, xs); exact ⟨h.1, h.2.1, h.2.2.1⟩)
  obtain ⟨bn, hbn⟩ : ∃ bn, (overM xs d).length = bn := ⟨_, rfl⟩
  rw [hbn] at hol
  have Hbn := Lib.hid hbn
  clear hbn
  simp only [payLoop, settleLoops, Tryz.f13, Option.map_some, Option.getD_some, loopsOf, List.nil_append, List.cons_append, List.append_nil, List.getD_cons_succ, List.getD_cons_zero]
  go_loopw [12, 14, 21] (fun idv nv i wr => ∃ k : Nat, k ≤ n' ∧ i = .int .i64 k ∧ idv = .int .i64 ((d.take k).foldl (rPay c hour) (rBacks xs d c hour)).1 ∧ wr.ownsRow w3.heap.size 63 8 nv ((d.take k).foldl (rPay c hour) (rBacks xs d c hour)).2.length (((d.take k).foldl (rPay c hour) (rBacks xs d c hour)).2.flatMap Po.vals) ∧ Below w3.heap.size w3 wr) (fun _ _ i _ => n' - (intOf i).toNat)
  case atStart => exact ⟨0, Nat.zero_le _, rfl, rfl, HR6.out, HB6.out⟩
  case round =>
    obtain ⟨k, hk, rfl, rfl, hrow, hB⟩ := hrel
    have HB7 := Lib.hid hB
    have HR7 := Lib.hid hrow
    have H7'' := Lib.hid (H3''.out.below' hB)
    have H7' := Lib.hid ((H0'.out.below' HB3.out).below' hB)
    have hbd := fold_bd (rPay_bd c hour) (d.take k) (rBacks xs d c hour)
    have hbd0 : (rBacks xs d c hour).2.length ≤ n + bn ∧ idMax xs + 1 ≤ (rBacks xs d c hour).1 ∧ (rBacks xs d c hour).1 ≤ idMax xs + 1 + bn := by
      have h1 := HBk.out
      have h2 := Hbn.out
      have h3 := Hl.out
      omega
    have hdl : n' ≤ 400 := by rw [← Hl'.out]; exact (chkDu_ok HCd.out).1
    have Hdl := Lib.hid hdl
    have ham := am_now (h := hour) HCk.out HCd.out HCc.out k
    clear hB hrow
    by_cases hlt : k < n'
    · have hlt' : (k : Int) < (n' : Int) := by omega
      obtain ⟨b0, off0, x', hb0, hbw, _, _, _, _⟩ := H0'.out.du hlt
      obtain ⟨b, off, x, rfl, hb, hx, x0, x1, x2⟩ := H7'.out.du hlt
      have hbw' : b < w.heap.size := by cases hb0; exact hbw
      have HBW := Lib.hid hbw'
      have HXo := Lib.hid (okDu_facts (HDo.out x (List.mem_of_getElem? hx)))
      have HS := Lib.hid (show (d.take (k + 1)).foldl (rPay c hour) (rBacks xs d c hour) = rPay c hour ((d.take k).foldl (rPay c hour) (rBacks xs d c hour)) x from foldl_take_snoc hx)
      have hlk : (d.take k).length ≤ 400 := by rw [List.length_take]; omega
      obtain ⟨⟨sid, now⟩, hst⟩ : ∃ s, (d.take k).foldl (rPay c hour) (rBacks xs d c hour) = s := ⟨_, rfl⟩
      rw [hst] at HS hbd ham ⊢
      have HR7 := Lib.hid (show wr.ownsRow w3.heap.size 63 8 _ now.length (now.flatMap Po.vals) from (by have := HR7.out; rw [hst] at this; exact this))
      dsimp only at hbd ham ⊢
      have hid1 : 1 ≤ sid ∧ sid ≤ 2000000 := by have := Hid0.out; omega
      have hnl : now.length ≤ 1000 := by omega
      have Hnl := Lib.hid hnl
      have HAm := Lib.hid ham
      obtain ⟨nl, hnle⟩ : ∃ nl, now.length = nl := ⟨_, rfl⟩
      have hr7 := HR7.out
      rw [hnle] at hr7
      obtain ⟨na, nc, rfl, hnc, hnr, hnb⟩ := Rd.of_own hr7 po_vals_length (by decide) hnle (by unfold maxLen; omega)
      have HNr := Lib.hid hnr
      have Hnle := Lib.hid hnle
      clear hx hst hbd hbd0 hlk hnl hb0 hbw hbw' ham hr7 hnr hnb hnle
      go_wp2_with fail
      refine (rcause_any a'' n'' cap'' c x.parcel _ H7''.out).mono ?_
      rintro e w8 ⟨rfl, hB⟩
      obtain ⟨y, hy⟩ : ∃ y, (causeR c x.parcel).getD zCa = y := ⟨_, rfl⟩
      obtain ⟨is, his⟩ : ∃ is, (causeR c x.parcel).isSome = is := ⟨_, rfl⟩
      rw [hy, his]
      unfold caV
      have HCau := Lib.hid (And.intro hy his)
      have c0 := cell_keep x0 hB
      have c1 := cell_keep x1 hB
      have c2 := cell_keep x2 hB
      have hb8 : b < w8.heap.size := Nat.lt_of_lt_of_le hb hB.size
      have HR8 := Lib.hid (own_later HR7.out hB)
      have HB8 := Lib.hid (below_then HB7.out hB (Nat.le_refl _))
      have HN8 := Lib.hid (HNr.out.below' hB)
      clear hB x0 x1 x2 hy his HR7 HB7 H7' H7'' HNr hb
      try dsimp only
      go_upto_region 31 with (fail)
      have hb9 : Below w8.heap.size w8 (w8.alloc (.cells #[.int .i64 y.parcel, .int .i64 y.reason, .int .i64 y.known] 71)) := (Below.refl _ w8).alloc (Nat.le_refl _) _
      have e1 : (w8.alloc (.cells #[.int .i64 y.parcel, .int .i64 y.reason, .int .i64 y.known] 71)).cell? ⟨w8.heap.size, 1, none⟩ = some (.int .i64 y.reason) := by simp
      have e2 : (w8.alloc (.cells #[.int .i64 y.parcel, .int .i64 y.reason, .int .i64 y.known] 71)).cell? ⟨w8.heap.size, 2, none⟩ = some (.int .i64 y.known) := by simp
      have hsz9 : (w8.alloc (.cells #[.int .i64 y.parcel, .int .i64 y.reason, .int .i64 y.known] 71)).heap.size = w8.heap.size + 1 := by simp
      generalize w8.alloc (.cells #[.int .i64 y.parcel, .int .i64 y.reason, .int .i64 y.known] 71) = w9 at *
      have d0 := cell_keep c0 hb9
      have d1 := cell_keep c1 hb9
      have d2 := cell_keep c2 hb9
      have HR9 := Lib.hid (own_later HR8.out hb9)
      have HB9 := Lib.hid (below_then HB8.out hb9 (Nat.le_refl _))
      have HN9 := Lib.hid (HN8.out.below' hb9)
      have HOB := Lib.hid (HR8.out.lt)
      have Hsz9 := Lib.hid hsz9
      have hb9' : b < w9.heap.size := by omega
      clear c0 c1 c2 hb9 hsz9
      obtain ⟨hv, hhv⟩ : ∃ hv, hasL now x.party x.parcel = hv := ⟨_, rfl⟩
      obtain ⟨ev, hev⟩ : ∃ ev, heldL now x.parcel = ev := ⟨_, rfl⟩
      have hvb : -1000000000000 ≤ hv ∧ hv ≤ 1000000000000 := by
        have h1 := hasL_bound HAm.out x.party x.parcel
        have h2 := Hnl.out
        rw [hhv] at h1
        omega
      have hxb := HXo.out.2.2
      have C1 := Lib.hid (show ∀ z : Later w9, Calls Tryz.prog 71 #[.slice na nl nc, .int .i64 x.party, .int .i64 x.parcel] z.w fun e w' => e = .returned (.int .i64 hv) ∧ Below z.w.heap.size z.w w' from fun z => by
        rw [← hhv]; exact (has_any na nl nc now x.party x.parcel z.w (HN9.out.below' z.hB) (by have := Hnl.out; have := Hnle.out; omega) HAm.out).mono fun e w' h => ⟨h.1, by rw [h.2]; exact Below.refl _ _⟩)
      have C2 := Lib.hid (show ∀ z : Later w9, Calls Tryz.prog 72 #[.slice na nl nc, .int .i64 x.parcel] z.w fun e w' => e = .returned (.int .i64 ev) ∧ Below z.w.heap.size z.w w' from fun z => by
        rw [← hev]; exact (held_any na nl nc now x.parcel z.w (HN9.out.below' z.hB) (by have := Hnl.out; have := Hnle.out; omega) HAm.out).mono fun e w' h => ⟨h.1, by rw [h.2]; exact Below.refl _ _⟩)
      have HRN := Lib.hid (show rN now x = min (x.amount - hv) ev by unfold rN; rw [hhv, hev])
      have k0 : ∀ z : Later w9, z.w.cell? ⟨b, off + k * 3, none⟩ = some (.int .i64 x.party) := fun z => z.cell d0
      have k1 : ∀ z : Later w9, z.w.cell? ⟨b, off + k * 3 + 1, none⟩ = some (.int .i64 x.parcel) := fun z => z.cell d1
      have k2 : ∀ z : Later w9, z.w.cell? ⟨b, off + k * 3 + 2, none⟩ = some (.int .i64 x.amount) := fun z => z.cell d2
      clear hhv hev
      refine wp_region_later (by kernel_rfl) (by kernel_rfl) ?_
      repeat (go_big_quiet_step ((first | (go_at_call 71; exact Calls.later_of (C1.out _)) | (go_at_call 72; exact Calls.later_of (C2.out _)))))
      refine wpQuiet_nil ?_
      intro wz hw'
      obtain ⟨⟨W, hW⟩, hw''⟩ := hw'
      obtain rfl : W = wz := hw''.symm
      clear hw'' k0 k1 k2
      obtain ⟨m, hm⟩ : ∃ m, min (x.amount - hv) ev = m := ⟨_, rfl⟩
      rw [hm] at HRN ⊢
      clear hm hvb hxb
      have f0 := cell_keep d0 hW
      have f1 := cell_keep d1 hW
      have f2 := cell_keep d2 hW
      have g1 := cell_keep e1 hW
      have g2 := cell_keep e2 hW
      have hbW : b < W.heap.size := Nat.lt_of_lt_of_le hb9' hW.size
      have hcW : w8.heap.size < W.heap.size := World.block_lt_of_cell? _ _ g1
      have HRW := Lib.hid (show W.ownsRow w3.heap.size 63 8 (.slice na nl nc) nl (now.flatMap Po.vals) from by have := own_later HR9.out hW; rwa [Hnle.out] at this)
      have HBW9 := Lib.hid (below_then HB9.out hW (Nat.le_refl _))
      clear d0 d1 d2 e1 e2 hW
      cases is with
      | false =>
        have HE := Lib.hid (show rPay c hour (sid, now) x = (sid, now) from rPay_none (by have := HCau.out.2; cases hh : causeR c x.parcel with | none => rfl | some z => rw [hh] at this; cases this))
        go_wp2_with fail
        refine ⟨⟨k + 1, by omega, by go_num, by rw [HS.out, HE.out], by rw [HS.out, HE.out]; dsimp only; rw [Hnle.out]; exact HRW.out, HBW9.out⟩, by simp [intOf]; omega⟩
      | true =>
        have hcy : causeR c x.parcel = some y := by
          have h1 := HCau.out.1
          have h2 := HCau.out.2
          cases hh : causeR c x.parcel with
          | none => rw [hh] at h2; cases h2
          | some z => rw [hh] at h1; exact congrArg some h1
        have Hcy := Lib.hid hcy
        clear hcy
        by_cases t1 : y.known ≤ hour
        case neg =>
          have HE := Lib.hid (show rPay c hour (sid, now) x = (sid, now) from rPay_not Hcy.out (fun e => t1 e.1))
          go_wp2_with fail
          refine ⟨⟨k + 1, by omega, by go_num, by rw [HS.out, HE.out], by rw [HS.out, HE.out]; dsimp only; rw [Hnle.out]; exact HRW.out, HBW9.out⟩, by simp [intOf]; omega⟩
        by_cases t2 : 0 < m
        case neg =>
          have HE := Lib.hid (show rPay c hour (sid, now) x = (sid, now) from rPay_not Hcy.out (fun e => t2 (by rw [← HRN.out]; exact e.2)))
          go_wp2_with fail
          refine ⟨⟨k + 1, by omega, by go_num, by rw [HS.out, HE.out], by rw [HS.out, HE.out]; dsimp only; rw [Hnle.out]; exact HRW.out, HBW9.out⟩, by simp [intOf]; omega⟩
        have HE := Lib.hid (show rPay c hour (sid, now) x = (sid + 1, now ++ [(postP hour 2 ⟨x.party, x.parcel, m⟩ y sid)]) from by rw [rPay_yes Hcy.out ⟨t1, by rw [HRN.out]; exact t2⟩, HRN.out])
        go_upto_region 33 with (fail)
        go_region_held3 (fun w' => w'.cell? ⟨b, off + k * 3, none⟩ = some (.int .i64 x.party) ∧ w'.cell? ⟨b, off + k * 3 + 1, none⟩ = some (.int .i64 x.parcel) ∧ w'.cell? ⟨b, off + k * 3 + 2, none⟩ = some (.int .i64 x.amount) ∧ w'.cell? ⟨w8.heap.size, 1, none⟩ = some (.int .i64 y.reason) ∧ w'.cell? ⟨w8.heap.size, 2, none⟩ = some (.int .i64 y.known))
          ((first | (with_reducible apply HK9.out) | (refine keep5 ⟨f0, f1, f2, g1, g2⟩ ?_; first | with_reducible apply bl0 | with_reducible apply bl1)))
          (first
            | (refine step_append_lies _ (by rfl) _ _ _ (by rfl) _ 63 i0 _ 8 64 Tryz.underlying22 hi0 hz0 hz1 hz2 rfl (by omega) _ nl (now.flatMap Po.vals) (by rfl) (own_later HRW.out (bl1 W _)) ⟨W.heap.size, 0, none⟩ 1 1 (Po.vals (postP hour 2 ⟨x.party, x.parcel, m⟩ y sid)) (by rfl) (by rfl)
                (World.news_of_block (cs := #[.int .i64 sid, .int .i64 hour, .int .u8 2, .int .i64 x.party, .int .i64 x.parcel, .int .i64 m, .int .i64 y.reason, .int .i64 y.known]) (t := 63) (fr := (0, 0)) (heap_alloc_new W _)) (by simp [Po.vals, postP, Value.oneCell']) (by omega) (by have := Hnl.out; have := Hnle.out; unfold maxLen; omega) (by have := Hnl.out; have := Hnle.out; omega) (Nat.le_trans HBW9.out.size (by simp)) _ rfl ?_; intro g cap9 w10 hown9 hgrow hat hlt9
               have HK9 := Lib.hid (keep5g ⟨f0, f1, f2, g1, g2⟩ hgrow (fun e => by have h1 := (HOB.out _ e).1; have h2 := HBW.out; have h3 := HB3.out.size; omega) (fun e => by have := (HOB.out _ e).2; omega) hbW hcW); have HO9 := Lib.hid hown9; have HG9 := Lib.hid hgrow; have HA9 := Lib.hid hat; clear hown9 hgrow hat))
        go_wp2_with fail
        refine ⟨⟨k + 1, by omega, by go_num, by rw [HS.out, HE.out], ?_, (below_then HBW9.out (bl1 W _) (Nat.le_refl _)).grown HG9.out (Nat.le_trans HBW9.out.size (by show W.heap.size ≤ (W.alloc _).heap.size; simp)) (fun k e => (HRW.out.lt k e).1)⟩, by simp [intOf]; omega⟩
        rw [HS.out, HE.out]
        dsimp only
        rw [List.length_append, List.flatMap_append, Hnle.out]
        simpa using HO9.out
    · have hlt' : ¬ (k : Int) < (n' : Int) := by omega
      have hke : d.take k = d := List.take_of_length_le (by rw [Hl'.out]; omega)
      rw [hke] at HR7 hbd ⊢
      have hrs : d.foldl (rPay c hour) (rBacks xs d c hour) = ((settleSt xs d c hour).id + 1, xs ++ (settleSt xs d c hour).out) := rSettle_eq HCk.out HCd.out HCc.out
      rw [hrs] at HR7 hbd ⊢
      dsimp only at HR7 hbd ⊢
      obtain ⟨st, hst⟩ : ∃ st, settleSt xs d c hour = st := ⟨_, rfl⟩
      rw [hst] at HR7 hbd HK ⊢
      have hsb : st.out.length ≤ 1000 ∧ -10 ≤ st.id ∧ st.id ≤ 2000000 := by
        have h1 := Hid0.out
        have h2 := Hl.out
        have h3 := Hl'.out
        have h4 := Hdl.out
        rw [List.length_append] at hbd
        omega
      have HSB := Lib.hid hsb
      clear hke hrs hst hbd hbd0 ham hsb
      go_wp2_with fail
      with_reducible apply HK.out
      exact ⟨HR7.out, HB7.out, HSB.out⟩
end Go.Proofs.YtehedodogkhmgaaGreat
