/- The walk of Read and its closure. -/
import Derived.Test.YtehplmeckfinoaaGreatDoorCWrite
import Derived.Test.YtehplmeckfinoaaGreatDoorCParse
import Derived.Test.YtehplmeckfinoaaGreatDoorCLastM
import Derived.Test.YtehplmeckfinoaaGreatDoorCFind
set_option linter.unusedSimpArgs false
set_option linter.unusedVariables false
namespace Go.Proofs.YtehplmeckfinoaaGreatDoor
open Go.RowKit Go.Shelf
theorem BoxG.all14 {w : World} {B : Nat} {u0 u1 u2 u3 u4 u5 u6 u7 u8 u9 u10 u11 u12 u13 : Value} (h : BoxG w B [u0, u1, u2, u3, u4, u5, u6, u7, u8, u9, u10, u11, u12, u13]) (v0 v1 v2 v3 v4 v5 v6 v7 v8 v9 v10 v11 v12 v13 : Value) :
 BoxG ((((((((((((((w.setCell ⟨B, 0, none⟩ v0).setCell ⟨B, 1, none⟩ v1).setCell ⟨B, 2, none⟩ v2).setCell ⟨B, 3, none⟩ v3).setCell ⟨B, 4, none⟩ v4).setCell ⟨B, 5, none⟩ v5).setCell ⟨B, 6, none⟩ v6).setCell ⟨B, 7, none⟩ v7).setCell ⟨B, 8, none⟩ v8).setCell ⟨B, 9, none⟩ v9).setCell ⟨B, 10, none⟩ v10).setCell ⟨B, 11, none⟩ v11).setCell ⟨B, 12, none⟩ v12).setCell ⟨B, 13, none⟩ v13) B [v0, v1, v2, v3, v4, v5, v6, v7, v8, v9, v10, v11, v12, v13] ∧ Keeps [B] w ((((((((((((((w.setCell ⟨B, 0, none⟩ v0).setCell ⟨B, 1, none⟩ v1).setCell ⟨B, 2, none⟩ v2).setCell ⟨B, 3, none⟩ v3).setCell ⟨B, 4, none⟩ v4).setCell ⟨B, 5, none⟩ v5).setCell ⟨B, 6, none⟩ v6).setCell ⟨B, 7, none⟩ v7).setCell ⟨B, 8, none⟩ v8).setCell ⟨B, 9, none⟩ v9).setCell ⟨B, 10, none⟩ v10).setCell ⟨B, 11, none⟩ v11).setCell ⟨B, 12, none⟩ v12).setCell ⟨B, 13, none⟩ v13) := by
 refine ⟨?_, ?_⟩
 · have h' := ((((((((((((((h.set 0 v0 (by simp)).set 1 v1 (by simp)).set 2 v2 (by simp)).set 3 v3 (by simp)).set 4 v4 (by simp)).set 5 v5 (by simp)).set 6 v6 (by simp)).set 7 v7 (by simp)).set 8 v8 (by simp)).set 9 v9 (by simp)).set 10 v10 (by simp)).set 11 v11 (by simp)).set 12 v12 (by simp)).set 13 v13 (by simp))
   simpa using h'
 · exact ((((((((((((((Keeps.setCell w ⟨B, 0, none⟩ v0).then_set ⟨B, 1, none⟩ v1 (.inl (by simp))).then_set ⟨B, 2, none⟩ v2 (.inl (by simp))).then_set ⟨B, 3, none⟩ v3 (.inl (by simp))).then_set ⟨B, 4, none⟩ v4 (.inl (by simp))).then_set ⟨B, 5, none⟩ v5 (.inl (by simp))).then_set ⟨B, 6, none⟩ v6 (.inl (by simp))).then_set ⟨B, 7, none⟩ v7 (.inl (by simp))).then_set ⟨B, 8, none⟩ v8 (.inl (by simp))).then_set ⟨B, 9, none⟩ v9 (.inl (by simp))).then_set ⟨B, 10, none⟩ v10 (.inl (by simp))).then_set ⟨B, 11, none⟩ v11 (.inl (by simp))).then_set ⟨B, 12, none⟩ v12 (.inl (by simp))).then_set ⟨B, 13, none⟩ v13 (.inl (by simp)))
theorem bindN_out {ws : List (List UInt8)} {f : Int → List (List UInt8) → Option Pa} {x : Pa} (h : bindN ws f = some x) : ∃ v y r, ws = y :: r ∧ f v r = some x := by
 cases ws with
 | nil => cases h
 | cons y r =>
   simp only [bindN] at h
   cases e : numW y with
   | none => rw [e] at h; cases h
   | some v => rw [e] at h; exact ⟨v, y, r, rfl, h⟩
theorem bindS_out {ws : List (List UInt8)} {f : List UInt8 → List (List UInt8) → Option Pa} {x : Pa} (h : bindS ws f = some x) : ∃ y r, ws = y :: r ∧ f y r = some x := by
 cases ws with
 | nil => cases h
 | cons y r => exact ⟨y, r, rfl, h⟩
theorem parse_short {n : Nat} {ws : List (List UInt8)} (hw : ∀ w ∈ ws, w.length ≤ n) {x : Pa} (h : parseW ws = some x) : x.mark.length ≤ n ∧ x.goods.length ≤ n := by
 unfold parseW at h
 obtain ⟨_, _, r1, e1, h⟩ := bindN_out h
 obtain ⟨_, _, r2, q1, h⟩ := bindN_out h
 obtain ⟨k, r3, q2, h⟩ := bindS_out h
 split at h
 · unfold packageP at h
   obtain ⟨_, _, r4, q3, h⟩ := bindN_out h
   obtain ⟨_, _, r5, q4, h⟩ := bindN_out h
   obtain ⟨_, _, r6, q5, h⟩ := bindN_out h
   obtain ⟨m, r7, q6, h⟩ := bindS_out h
   obtain ⟨g, r8, q7, h⟩ := bindS_out h
   obtain ⟨_, _, r9, q8, h⟩ := bindN_out h
   obtain ⟨_, _, r10, q9, h⟩ := bindN_out h
   obtain ⟨_, _, r11, q10, h⟩ := bindN_out h
   obtain ⟨_, _, r12, q11, h⟩ := bindN_out h
   have h := Option.some.inj h
   subst h
   exact ⟨hw m (by subst_vars; simp), hw g (by subst_vars; simp)⟩
 · split at h
   · unfold totalP at h
     obtain ⟨_, _, r4, q12, h⟩ := bindN_out h
     obtain ⟨_, _, r5, q13, h⟩ := bindN_out h
     obtain ⟨_, _, r6, q14, h⟩ := bindN_out h
     obtain ⟨_, _, r7, q15, h⟩ := bindN_out h
     obtain ⟨_, _, r8, q16, h⟩ := bindN_out h
     have h := Option.some.inj h
     subst h
     exact ⟨Nat.zero_le _, Nat.zero_le _⟩
   · split at h
     · unfold voidP at h
       obtain ⟨_, _, r4, q17, h⟩ := bindN_out h
       have h := Option.some.inj h
       subst h
       exact ⟨Nat.zero_le _, Nat.zero_le _⟩
     · have h := Option.some.inj h
       subst h
       exact ⟨Nat.zero_le _, Nat.zero_le _⟩
def readV (l : List UInt8) : Option Pa := match parseW (spl l) with
 | some x => if formedP x ∧ writeP x = l then some x else none
 | none => none
def ReadPost (w : World) (l : List UInt8) (e : Ending) (w' : World) : Prop :=
 Below w.heap.size w w' ∧ ∃ q, (readV l).getD pa0 = q ∧ e = .returned (.tuple #[.agg #[.int .i64 q.id, .int .i64 q.known, .int .u8 q.kind, .int .i64 q.loss, .int .i64 q.pack, .int .i64 q.inn, .string ⟨q.mark.toArray⟩, .string ⟨q.goods.toArray⟩, .int .i64 q.low, .int .i64 q.high, .int .i64 q.pieces, .int .i64 q.owner, .int .i64 q.count, .int .i64 q.of], .int .i64 (if (readV l).isSome then 0 else 4)])
set_option maxRecDepth 100000 in
set_option maxHeartbeats 1000000 in
theorem catchR_true (b c : Nat) (w : World) :
 CallsD Tryz.prog 50 #[.pointer (some ⟨b, 0, none⟩), .pointer (some ⟨c, 0, none⟩)] .returning w fun e u' w' => e = .returned (.tuple #[]) ∧ u' = .returning ∧ w' = w := by
 refine callsD_of_wpS Tryz.func50 rfl fun c₀ cs hu => ?_
 simp only [Tryz.ntmps50, List.size_toArray, List.length_cons, List.length_nil, Nat.reduceAdd, Nat.reduceSub, Array.replicate_succ, Array.replicate_zero, List.push_toArray, List.append_toArray, List.nil_append, List.cons_append]
 apply wpS_seq
 apply wpS_region
 simp [wpOpsS, go_sem, recoverD, hu, Exit.thenS]
 refine wpS_of_wp ?_
 go_wp2_with fail
 refine ⟨rfl, _, by cases c₀; simp only at hu; subst hu; rfl, _, results_none rfl _ _ _, rfl, rfl, rfl⟩
set_option maxRecDepth 100000 in
set_option maxHeartbeats 2000000 in
theorem catchR_formless (b c : Nat) (x : Pa) (y : Int) (older : List PanicEntry) (w : World) (hb : BoxG w b x.vals) (hc : BoxG w c [.int .i64 y]) (hne : b ≠ c) :
 CallsD Tryz.prog 50 #[.pointer (some ⟨b, 0, none⟩), .pointer (some ⟨c, 0, none⟩)] (.panicking ({ v := formlessV, recovered := false } :: older)) w fun r u' w' =>
  r = .returned (.tuple #[]) ∧ u' = .panicking ({ v := formlessV, recovered := true } :: older) ∧ BoxG w' b pa0.vals ∧ BoxG w' c [.int .i64 4] ∧ Keeps [b, c] w w' := by
 obtain ⟨c0, c1, c2, c3, c4, c5, c6, c7, c8, c9, c10, c11, c12, c13⟩ := hb.pa
 have bf := hb.2.1
 have bl := hb.1
 have d0 := hc.2.2 0 (by simp)
 have df := hc.2.1
 have dl := hc.1
 simp only [List.getElem?_cons_zero] at d0
 refine callsD_of_wpS Tryz.func50 rfl fun c₀ cs hu => ?_
 simp only [Tryz.ntmps50, List.size_toArray, List.length_cons, List.length_nil, Nat.reduceAdd, Nat.reduceSub, Array.replicate_succ, Array.replicate_zero, List.push_toArray, List.append_toArray, List.nil_append, List.cons_append]
 apply wpS_seq
 apply wpS_region
 simp [wpOpsS, go_sem, recoverD, hu, Exit.thenS]
 refine wpS_of_wp ?_
 unfold formlessV
 have hta : ∀ W, (Instr.typeAssert (.iface 95 (.agg #[])) 20 95 true).run Tryz.prog W = .ok (.tuple #[.agg #[], .bool true]) W := fun _ => by kernel_rfl
 have HB := Hd hb
 have HC := Hd hc
 clear hb hc
 go_wp2_with fail
 refine ⟨rfl, _, rfl, _, results_none rfl _ _ _, rfl, rfl, ?_⟩
 have hb0 : BoxG w b [.int .i64 x.id, .int .i64 x.known, .int .u8 x.kind, .int .i64 x.loss, .int .i64 x.pack, .int .i64 x.inn, .string ⟨x.mark.toArray⟩, .string ⟨x.goods.toArray⟩, .int .i64 x.low, .int .i64 x.high, .int .i64 x.pieces, .int .i64 x.owner, .int .i64 x.count, .int .i64 x.of] := HB.out
 obtain ⟨g1, k1⟩ := hb0.all14 (.int .i64 0) (.int .i64 0) (.int .u8 0) (.int .i64 0) (.int .i64 0) (.int .i64 0) (.string ⟨#[]⟩) (.string ⟨#[]⟩) (.int .i64 0) (.int .i64 0) (.int .i64 0) (.int .i64 0) (.int .i64 0) (.int .i64 0)
 have g2 := (HC.out.keeps k1 (fun e => hne (List.mem_singleton.1 e).symm)).set 0 (.int .i64 4) (by simp)
 have g3 := g1.keeps (Keeps.setCell _ ⟨c, 0, none⟩ (.int .i64 4)) (fun e => hne (List.mem_singleton.1 e))
 have k2 := (k1.mono (T := [b, c]) (fun y hy => by rw [List.mem_singleton.1 hy]; simp)).then_set ⟨c, 0, none⟩ (.int .i64 4) (.inl (by simp))
 exact ⟨g3.below' (al' (Below.refl _ _) _), by simpa using g2.below' (al' (Below.refl _ _) (.cells #[] 95)), k2.then_below (al' (Below.refl _ _) _)⟩
set_option maxRecDepth 100000 in
set_option maxHeartbeats 4000000 in
theorem read_any (l : List UInt8) (hl : l.length ≤ 10000) (w : World) (hw : Laid w) :
 Calls Tryz.prog 19 #[.string ⟨l.toArray⟩] w (ReadPost w l) := by
 have hmf : ∀ (fn : Fn) (first cap : Array Value) (w : World), (Instr.makeFunc fn first cap).run Tryz.prog w = .ok (.func fn first cap) w := fun _ _ _ _ => rfl
 have hB0 := al' (al' (Below.refl w.heap.size w) (.cells #[.int .i64 0, .int .i64 0, .int .u8 0, .int .i64 0, .int .i64 0, .int .i64 0, .string ⟨#[]⟩, .string ⟨#[]⟩, .int .i64 0, .int .i64 0, .int .i64 0, .int .i64 0, .int .i64 0, .int .i64 0] 42)) (.cells #[.int .i64 0] 26)
 have hz1 : (w.alloc (.cells #[.int .i64 0, .int .i64 0, .int .u8 0, .int .i64 0, .int .i64 0, .int .i64 0, .string ⟨#[]⟩, .string ⟨#[]⟩, .int .i64 0, .int .i64 0, .int .i64 0, .int .i64 0, .int .i64 0, .int .i64 0] 42)).heap.size = w.heap.size + 1 := by simp
 have hb := (BoxG.made w [.int .i64 0, .int .i64 0, .int .u8 0, .int .i64 0, .int .i64 0, .int .i64 0, .string ⟨#[]⟩, .string ⟨#[]⟩, .int .i64 0, .int .i64 0, .int .i64 0, .int .i64 0, .int .i64 0, .int .i64 0] 42).below' (al' (Below.refl _ _) (.cells #[.int .i64 0] 26))
 have hc := BoxG.made (w.alloc (.cells #[.int .i64 0, .int .i64 0, .int .u8 0, .int .i64 0, .int .i64 0, .int .i64 0, .string ⟨#[]⟩, .string ⟨#[]⟩, .int .i64 0, .int .i64 0, .int .i64 0, .int .i64 0, .int .i64 0, .int .i64 0] 42)) [.int .i64 0] 26
 rw [hz1] at hc
 have HW1 := Hd (hw.below hB0)
 have HT0 := Hd hw.tab
 have HB0 := Hd hB0
 have CP := Hd (parse_any l hl _ HW1.out)
 clear hw hB0 hz1
 go_enter_defers Tryz.func19, Tryz.ntmps19
 go_upto_region 2 with (fail)
 generalize (w.alloc (.cells #[.int .i64 0, .int .i64 0, .int .u8 0, .int .i64 0, .int .i64 0, .int .i64 0, .string ⟨#[]⟩, .string ⟨#[]⟩, .int .i64 0, .int .i64 0, .int .i64 0, .int .i64 0, .int .i64 0, .int .i64 0] 42)).alloc (.cells #[.int .i64 0] 26) = w1 at *
 obtain ⟨C, hC⟩ : ∃ C, w.heap.size + 1 = C := ⟨_, rfl⟩
 obtain ⟨B, hBe⟩ : ∃ B, w.heap.size = B := ⟨_, rfl⟩
 have HBC := Hd (show w.heap.size = B ∧ C = B + 1 from by omega)
 rw [hC] at hc ⊢
 rw [hBe] at hb ⊢
 have Hb := Hd hb
 have Hc := Hd hc
 go_wp2_with fail
 refine (CP.out).mono ?_
 rintro e w2 ⟨hB2, ⟨x, hx, rfl⟩ | ⟨hx, rfl⟩⟩
 case inr =>
  have hV : readV l = none := by unfold readV; rw [hx]
  have hb2 := Hb.out.below' hB2
  have hc2 := Hc.out.below' hB2
  have HBw := Hd (HB0.out.trans (hB2.mono HB0.out.size))
  have HV := Hd hV
  clear hx hV hb hc hB2 CP HW1
  go_wp2_with fail
  refine leaves_cons (f := 50) (args := #[.pointer (some ⟨B, 0, none⟩), .pointer (some ⟨C, 0, none⟩)]) (by simp) (by simp [go_sem]) ?_
  refine (catchR_formless B C pa0 0 [] w2 hb2 hc2 (by have := HBC.out; omega)).mono ?_
  rintro r u' w'' ⟨rfl, rfl, gb, gc, gk⟩
  obtain ⟨r0, r1, r2, r3, r4, r5, r6, r7, r8, r9, r10, r11, r12, r13⟩ := BoxG.pa gb
  have rl := gb.1
  have d0 := gc.2.2 0 (by simp)
  have dl := gc.1
  simp only [List.getElem?_cons_zero] at d0
  have HBf := Hd (show Below w.heap.size w w'' from gk.below_then HBw.out (fun y hy => by simp only [List.mem_cons, List.not_mem_nil, or_false] at hy; have := HBC.out; omega) (Nat.le_refl _))
  clear gb gc gk hb2 hc2
  simp [Leaves, settle, results, Tryz.results19, go_sem, formlessV, r0, r1, r2, r3, r4, r5, r6, r7, r8, r9, r10, r11, r12, r13, rl, d0, dl]
  exact ⟨HBf.out, _, rfl, by rw [HV.out]; rfl⟩
 have hb2 : BoxG w2 B pa0.vals := Hb.out.below' hB2
 have hc2 := Hc.out.below' hB2
 obtain ⟨c0, c1, c2, c3, c4, c5, c6, c7, c8, c9, c10, c11, c12, c13⟩ := hb2.pa
 have bf := hb2.2.1
 have bl := hb2.1
 have HBw2 := Hd (HB0.out.trans (hB2.mono HB0.out.size))
 have hsx := parse_short (n := l.length) (spl_mem_len l) hx
 have HX := Hd hx
 clear hx hB2 CP HW1 hb hc
 go_upto_region 3 with (fail)
 have hb2' : BoxG w2 B [.int .i64 0, .int .i64 0, .int .u8 0, .int .i64 0, .int .i64 0, .int .i64 0, .string ⟨#[]⟩, .string ⟨#[]⟩, .int .i64 0, .int .i64 0, .int .i64 0, .int .i64 0, .int .i64 0, .int .i64 0] := hb2
 obtain ⟨g1, k1⟩ := hb2'.all14 (.int .i64 x.id) (.int .i64 x.known) (.int .u8 x.kind) (.int .i64 x.loss) (.int .i64 x.pack) (.int .i64 x.inn) (.string ⟨x.mark.toArray⟩) (.string ⟨x.goods.toArray⟩) (.int .i64 x.low) (.int .i64 x.high) (.int .i64 x.pieces) (.int .i64 x.owner) (.int .i64 x.count) (.int .i64 x.of)
 have hc3 := hc2.keeps k1 (fun e => by have := HBC.out; have := List.mem_singleton.1 e; omega)
 have HBw3 := Hd (k1.below_then HBw2.out (fun y hy => by have := HBC.out; have := List.mem_singleton.1 hy; omega) (Nat.le_refl _))
 clear c0 c1 c2 c3 c4 c5 c6 c7 c8 c9 c10 c11 c12 c13 bf bl hb2 hb2' hc2 k1
 generalize ((((((((((((((w2.setCell ⟨B, 0, none⟩ (.int .i64 x.id)).setCell ⟨B, 1, none⟩ (.int .i64 x.known)).setCell ⟨B, 2, none⟩ (.int .u8 x.kind)).setCell ⟨B, 3, none⟩ (.int .i64 x.loss)).setCell ⟨B, 4, none⟩ (.int .i64 x.pack)).setCell ⟨B, 5, none⟩ (.int .i64 x.inn)).setCell ⟨B, 6, none⟩ (.string ⟨x.mark.toArray⟩)).setCell ⟨B, 7, none⟩ (.string ⟨x.goods.toArray⟩)).setCell ⟨B, 8, none⟩ (.int .i64 x.low)).setCell ⟨B, 9, none⟩ (.int .i64 x.high)).setCell ⟨B, 10, none⟩ (.int .i64 x.pieces)).setCell ⟨B, 11, none⟩ (.int .i64 x.owner)).setCell ⟨B, 12, none⟩ (.int .i64 x.count)).setCell ⟨B, 13, none⟩ (.int .i64 x.of)) = w3 at *
 have g1' : BoxG w3 B x.vals := g1
 have CW := Hd (write_any x ⟨by omega, by omega⟩ w3 (HT0.out.below HBw3.out))
 obtain ⟨c0, c1, c2, c3, c4, c5, c6, c7, c8, c9, c10, c11, c12, c13⟩ := g1'.pa
 have bl := g1.1
 have Hg := Hd g1'
 have Hc3 := Hd hc3
 clear g1 g1' hc3
 go_wp2_with fail
 refine (CW.out).mono ?_
 rintro e w4 ⟨hB4, ⟨hf, rfl⟩ | ⟨hf, rfl⟩⟩
 case inr =>
  have hV : readV l = none := by unfold readV; rw [HX.out]; simp [hf]
  have hb4 := Hg.out.below' hB4
  have hc4 := Hc3.out.below' hB4
  have HV := Hd hV
  have HBw4 := Hd (HBw3.out.trans (hB4.mono HBw3.out.size))
  clear hV hB4 c0 c1 c2 c3 c4 c5 c6 c7 c8 c9 c10 c11 c12 c13 bl CW
  obtain ⟨c0, c1, c2, c3, c4, c5, c6, c7, c8, c9, c10, c11, c12, c13⟩ := hb4.pa
  have bf := hb4.2.1
  have bl := hb4.1
  have d0 := hc4.2.2 0 (by simp)
  have df := hc4.2.1
  have dl := hc4.1
  simp only [List.getElem?_cons_zero] at d0
  have Hb4 := Hd hb4
  have Hc4 := Hd hc4
  clear hb4 hc4
  go_wp2_with fail
  refine leaves_cons (f := 50) (args := #[.pointer (some ⟨B, 0, none⟩), .pointer (some ⟨C, 0, none⟩)]) (by simp) (by simp [go_sem]) ?_
  refine (catchR_true B C _).mono ?_
  rintro r u' w'' ⟨rfl, rfl, rfl⟩
  have hb5 : BoxG w4 B [.int .i64 x.id, .int .i64 x.known, .int .u8 x.kind, .int .i64 x.loss, .int .i64 x.pack, .int .i64 x.inn, .string ⟨x.mark.toArray⟩, .string ⟨x.goods.toArray⟩, .int .i64 x.low, .int .i64 x.high, .int .i64 x.pieces, .int .i64 x.owner, .int .i64 x.count, .int .i64 x.of] := Hb4.out
  obtain ⟨g1, k1⟩ := hb5.all14 (.int .i64 0) (.int .i64 0) (.int .u8 0) (.int .i64 0) (.int .i64 0) (.int .i64 0) (.string ⟨#[]⟩) (.string ⟨#[]⟩) (.int .i64 0) (.int .i64 0) (.int .i64 0) (.int .i64 0) (.int .i64 0) (.int .i64 0)
  have gc := ((Hc4.out).keeps k1 (fun e => by have := HBC.out; have := List.mem_singleton.1 e; omega)).set 0 (.int .i64 4) (by simp)
  have gb := g1.keeps (Keeps.setCell _ ⟨C, 0, none⟩ (.int .i64 4)) (fun e => by have h1 := HBC.out; have h2 : B = C := List.mem_singleton.1 e; omega)
  have gk := (k1.mono (T := [B, C]) (fun y hy => by rw [List.mem_singleton.1 hy]; simp)).then_set ⟨C, 0, none⟩ (.int .i64 4) (.inl (by simp))
  clear c0 c1 c2 c3 c4 c5 c6 c7 c8 c9 c10 c11 c12 c13 bf bl d0 df dl hb5 k1 g1
  generalize ((((((((((((((w4.setCell ⟨B, 0, none⟩ (.int .i64 0)).setCell ⟨B, 1, none⟩ (.int .i64 0)).setCell ⟨B, 2, none⟩ (.int .u8 0)).setCell ⟨B, 3, none⟩ (.int .i64 0)).setCell ⟨B, 4, none⟩ (.int .i64 0)).setCell ⟨B, 5, none⟩ (.int .i64 0)).setCell ⟨B, 6, none⟩ (.string ⟨#[]⟩)).setCell ⟨B, 7, none⟩ (.string ⟨#[]⟩)).setCell ⟨B, 8, none⟩ (.int .i64 0)).setCell ⟨B, 9, none⟩ (.int .i64 0)).setCell ⟨B, 10, none⟩ (.int .i64 0)).setCell ⟨B, 11, none⟩ (.int .i64 0)).setCell ⟨B, 12, none⟩ (.int .i64 0)).setCell ⟨B, 13, none⟩ (.int .i64 0)).setCell ⟨C, 0, none⟩ (.int .i64 4) = wf at *
  have gb' : BoxG wf B pa0.vals := gb
  obtain ⟨r0, r1, r2, r3, r4, r5, r6, r7, r8, r9, r10, r11, r12, r13⟩ := BoxG.pa gb'
  have rl := gb.1
  have d0 := gc.2.2 0 (by simp)
  have dl := gc.1
  simp only [List.set_cons_zero, List.getElem?_cons_zero] at d0
  have HBf := Hd (show Below w.heap.size w wf from gk.below_then HBw4.out (fun y hy => by simp only [List.mem_cons, List.not_mem_nil, or_false] at hy; have := HBC.out; omega) (Nat.le_refl _))
  clear gb gb' gc gk
  simp [Leaves, settle, results, Tryz.results19, go_sem, r0, r1, r2, r3, r4, r5, r6, r7, r8, r9, r10, r11, r12, r13, rl, d0, dl]
  exact ⟨HBf.out, _, rfl, by rw [HV.out]; rfl⟩
 by_cases hl2 : writeP x = l
 case neg =>
  have hV : readV l = none := by unfold readV; rw [HX.out]; simp [hl2]
  have hne : (writeP x == l) = false := by simp [hl2]
  have hb4 := Hg.out.below' hB4
  have hc4 := Hc3.out.below' hB4
  have HV := Hd hV
  have HBw4 := Hd (HBw3.out.trans (hB4.mono HBw3.out.size))
  clear hV hB4 c0 c1 c2 c3 c4 c5 c6 c7 c8 c9 c10 c11 c12 c13 bl CW
  obtain ⟨c0, c1, c2, c3, c4, c5, c6, c7, c8, c9, c10, c11, c12, c13⟩ := hb4.pa
  have bf := hb4.2.1
  have bl := hb4.1
  have d0 := hc4.2.2 0 (by simp)
  have df := hc4.2.1
  have dl := hc4.1
  simp only [List.getElem?_cons_zero] at d0
  have Hb4 := Hd hb4
  have Hc4 := Hd hc4
  clear hb4 hc4
  go_wp2_with fail
  refine leaves_cons (f := 50) (args := #[.pointer (some ⟨B, 0, none⟩), .pointer (some ⟨C, 0, none⟩)]) (by simp) (by simp [go_sem]) ?_
  refine (catchR_true B C _).mono ?_
  rintro r u' w'' ⟨rfl, rfl, rfl⟩
  have hb5 : BoxG w4 B [.int .i64 x.id, .int .i64 x.known, .int .u8 x.kind, .int .i64 x.loss, .int .i64 x.pack, .int .i64 x.inn, .string ⟨x.mark.toArray⟩, .string ⟨x.goods.toArray⟩, .int .i64 x.low, .int .i64 x.high, .int .i64 x.pieces, .int .i64 x.owner, .int .i64 x.count, .int .i64 x.of] := Hb4.out
  obtain ⟨g1, k1⟩ := hb5.all14 (.int .i64 0) (.int .i64 0) (.int .u8 0) (.int .i64 0) (.int .i64 0) (.int .i64 0) (.string ⟨#[]⟩) (.string ⟨#[]⟩) (.int .i64 0) (.int .i64 0) (.int .i64 0) (.int .i64 0) (.int .i64 0) (.int .i64 0)
  have gc := ((Hc4.out).keeps k1 (fun e => by have := HBC.out; have := List.mem_singleton.1 e; omega)).set 0 (.int .i64 4) (by simp)
  have gb := g1.keeps (Keeps.setCell _ ⟨C, 0, none⟩ (.int .i64 4)) (fun e => by have h1 := HBC.out; have h2 : B = C := List.mem_singleton.1 e; omega)
  have gk := (k1.mono (T := [B, C]) (fun y hy => by rw [List.mem_singleton.1 hy]; simp)).then_set ⟨C, 0, none⟩ (.int .i64 4) (.inl (by simp))
  clear c0 c1 c2 c3 c4 c5 c6 c7 c8 c9 c10 c11 c12 c13 bf bl d0 df dl hb5 k1 g1
  generalize ((((((((((((((w4.setCell ⟨B, 0, none⟩ (.int .i64 0)).setCell ⟨B, 1, none⟩ (.int .i64 0)).setCell ⟨B, 2, none⟩ (.int .u8 0)).setCell ⟨B, 3, none⟩ (.int .i64 0)).setCell ⟨B, 4, none⟩ (.int .i64 0)).setCell ⟨B, 5, none⟩ (.int .i64 0)).setCell ⟨B, 6, none⟩ (.string ⟨#[]⟩)).setCell ⟨B, 7, none⟩ (.string ⟨#[]⟩)).setCell ⟨B, 8, none⟩ (.int .i64 0)).setCell ⟨B, 9, none⟩ (.int .i64 0)).setCell ⟨B, 10, none⟩ (.int .i64 0)).setCell ⟨B, 11, none⟩ (.int .i64 0)).setCell ⟨B, 12, none⟩ (.int .i64 0)).setCell ⟨B, 13, none⟩ (.int .i64 0)).setCell ⟨C, 0, none⟩ (.int .i64 4) = wf at *
  have gb' : BoxG wf B pa0.vals := gb
  obtain ⟨r0, r1, r2, r3, r4, r5, r6, r7, r8, r9, r10, r11, r12, r13⟩ := BoxG.pa gb'
  have rl := gb.1
  have d0 := gc.2.2 0 (by simp)
  have dl := gc.1
  simp only [List.set_cons_zero, List.getElem?_cons_zero] at d0
  have HBf := Hd (show Below w.heap.size w wf from gk.below_then HBw4.out (fun y hy => by simp only [List.mem_cons, List.not_mem_nil, or_false] at hy; have := HBC.out; omega) (Nat.le_refl _))
  clear gb gb' gc gk
  simp [Leaves, settle, results, Tryz.results19, go_sem, r0, r1, r2, r3, r4, r5, r6, r7, r8, r9, r10, r11, r12, r13, rl, d0, dl]
  exact ⟨HBf.out, _, rfl, by rw [HV.out]; rfl⟩
 have hV : readV l = some x := by unfold readV; rw [HX.out]; simp [hf, hl2]
 have heq : (writeP x == l) = true := by simp [hl2]
 have hb4 := Hg.out.below' hB4
 have hc4 := Hc3.out.below' hB4
 have HV := Hd hV
 have HBw4 := Hd (HBw3.out.trans (hB4.mono HBw3.out.size))
 clear hV hB4 c0 c1 c2 c3 c4 c5 c6 c7 c8 c9 c10 c11 c12 c13 bl CW
 obtain ⟨c0, c1, c2, c3, c4, c5, c6, c7, c8, c9, c10, c11, c12, c13⟩ := hb4.pa
 have bf := hb4.2.1
 have bl := hb4.1
 have d0 := hc4.2.2 0 (by simp)
 have df := hc4.2.1
 have dl := hc4.1
 simp only [List.getElem?_cons_zero] at d0
 have Hb4 := Hd hb4
 have Hc4 := Hd hc4
 clear hb4 hc4
 go_wp2_with fail
 refine leaves_cons (f := 50) (args := #[.pointer (some ⟨B, 0, none⟩), .pointer (some ⟨C, 0, none⟩)]) (by simp) (by simp [go_sem]) ?_
 refine (catchR_true B C _).mono ?_
 rintro r u' w'' ⟨rfl, rfl, rfl⟩
 have hb5 : BoxG w4 B [.int .i64 x.id, .int .i64 x.known, .int .u8 x.kind, .int .i64 x.loss, .int .i64 x.pack, .int .i64 x.inn, .string ⟨x.mark.toArray⟩, .string ⟨x.goods.toArray⟩, .int .i64 x.low, .int .i64 x.high, .int .i64 x.pieces, .int .i64 x.owner, .int .i64 x.count, .int .i64 x.of] := Hb4.out
 obtain ⟨g1, k1⟩ := hb5.all14 (.int .i64 x.id) (.int .i64 x.known) (.int .u8 x.kind) (.int .i64 x.loss) (.int .i64 x.pack) (.int .i64 x.inn) (.string ⟨x.mark.toArray⟩) (.string ⟨x.goods.toArray⟩) (.int .i64 x.low) (.int .i64 x.high) (.int .i64 x.pieces) (.int .i64 x.owner) (.int .i64 x.count) (.int .i64 x.of)
 have gc := ((Hc4.out).keeps k1 (fun e => by have := HBC.out; have := List.mem_singleton.1 e; omega)).set 0 (.int .i64 0) (by simp)
 have gb := g1.keeps (Keeps.setCell _ ⟨C, 0, none⟩ (.int .i64 0)) (fun e => by have h1 := HBC.out; have h2 : B = C := List.mem_singleton.1 e; omega)
 have gk := (k1.mono (T := [B, C]) (fun y hy => by rw [List.mem_singleton.1 hy]; simp)).then_set ⟨C, 0, none⟩ (.int .i64 0) (.inl (by simp))
 clear c0 c1 c2 c3 c4 c5 c6 c7 c8 c9 c10 c11 c12 c13 bf bl d0 df dl hb5 k1 g1
 generalize ((((((((((((((w4.setCell ⟨B, 0, none⟩ (.int .i64 x.id)).setCell ⟨B, 1, none⟩ (.int .i64 x.known)).setCell ⟨B, 2, none⟩ (.int .u8 x.kind)).setCell ⟨B, 3, none⟩ (.int .i64 x.loss)).setCell ⟨B, 4, none⟩ (.int .i64 x.pack)).setCell ⟨B, 5, none⟩ (.int .i64 x.inn)).setCell ⟨B, 6, none⟩ (.string ⟨x.mark.toArray⟩)).setCell ⟨B, 7, none⟩ (.string ⟨x.goods.toArray⟩)).setCell ⟨B, 8, none⟩ (.int .i64 x.low)).setCell ⟨B, 9, none⟩ (.int .i64 x.high)).setCell ⟨B, 10, none⟩ (.int .i64 x.pieces)).setCell ⟨B, 11, none⟩ (.int .i64 x.owner)).setCell ⟨B, 12, none⟩ (.int .i64 x.count)).setCell ⟨B, 13, none⟩ (.int .i64 x.of)).setCell ⟨C, 0, none⟩ (.int .i64 0) = wf at *
 have gb' : BoxG wf B x.vals := gb
 obtain ⟨r0, r1, r2, r3, r4, r5, r6, r7, r8, r9, r10, r11, r12, r13⟩ := BoxG.pa gb'
 have rl := gb.1
 have d0 := gc.2.2 0 (by simp)
 have dl := gc.1
 simp only [List.set_cons_zero, List.getElem?_cons_zero] at d0
 have HBf := Hd (show Below w.heap.size w wf from gk.below_then HBw4.out (fun y hy => by simp only [List.mem_cons, List.not_mem_nil, or_false] at hy; have := HBC.out; omega) (Nat.le_refl _))
 clear gb gb' gc gk
 simp [Leaves, settle, results, Tryz.results19, go_sem, r0, r1, r2, r3, r4, r5, r6, r7, r8, r9, r10, r11, r12, r13, rl, d0, dl]
 exact ⟨HBf.out, _, rfl, by rw [HV.out]; rfl⟩
end Go.Proofs.YtehplmeckfinoaaGreatDoor
