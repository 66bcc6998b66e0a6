/- The iterator over the postings of a book that are wanted, for a loop that writes one block of its own. -/
import Derived.Test.YtehedodogkhmgaaGreatSome
import Derived.Test.YtehedodogkhmgaaGreatHeld
import Derived.Test.YtehedodogkhmgaaGreatAsk
import Derived.Test.YtehedodogkhmgaaGreatCollect
set_option linter.unusedSimpArgs false
set_option linter.unusedVariables false
namespace Go.Proofs.YtehedodogkhmgaaGreat
open Go.RowKit Go.Shelf
attribute [local go_sem] Oper.semAt_some

/-- a posting of a list that is a book -/
abbrev PoOk (xs : List Po) := { p : Po // p ∈ xs ∧ (checkL xs).2 = 0 }
theorem map_snoc_ok {xs : List Po} (pre : List (PoOk xs)) (x : Po) (hx : x ∈ xs ∧ (checkL xs).2 = 0) : (pre ++ [(⟨x, hx⟩ : PoOk xs)]).map (·.1) = pre.map (·.1) ++ [x] := by simp
/-- all that lay below n0 lies there as it did, but the block bx -/
structure But (bx n0 : Nat) (w w' : World) : Prop where
  os : w'.os = w.os
  tape : w'.tape = w.tape
  output : w'.output = w.output
  size : w.heap.size ≤ w'.heap.size
  block : ∀ k, k < n0 → k ≠ bx → w'.heap[k]? = w.heap[k]?
theorem But.refl (bx n0 : Nat) (w : World) : But bx n0 w w := ⟨rfl, rfl, rfl, Nat.le_refl _, fun _ _ _ => rfl⟩
theorem But.trans {bx n0 : Nat} {a b c : World} (h : But bx n0 a b) (k : But bx n0 b c) : But bx n0 a c :=
  ⟨k.os.trans h.os, k.tape.trans h.tape, k.output.trans h.output, Nat.le_trans h.size k.size, fun i hi hn => (k.block i hi hn).trans (h.block i hi hn)⟩
theorem Below.but {bx n0 : Nat} {w w' : World} (h : Below n0 w w') : But bx n0 w w' := ⟨h.os, h.tape, h.output, h.size, fun i hi _ => h.block i hi⟩
theorem But.below {bx n0 : Nat} {w w' : World} (h : But bx n0 w w') (hb : bx ≤ n0) : Below bx w w' := ⟨h.os, h.tape, h.output, h.size, fun i hi => h.block i (Nat.lt_of_lt_of_le hi hb) (Nat.ne_of_lt hi)⟩
theorem But.rd {α : Type} {E : α → List Value} {k : Nat} {bx n0 : Nat} {w w' : World} {a : Option Addr} {n : Nat} {xs : List α} (h : But bx n0 w w') (hr : Rd E k w a n xs) (hlow : 0 < n → ∀ p, a = some p → p.block < bx) (hb : bx ≤ n0) : Rd E k w' a n xs := by
  by_cases h0 : 0 < n
  · exact hr.below (h.below hb) (hlow h0)
  · exact ⟨hr.len, hr.cap, fun i hi => absurd hi (by omega)⟩
theorem But.cell {bx n0 B o : Nat} {w w' : World} (h : But bx n0 w w') (hB : B < n0) (hne : B ≠ bx) : w'.cell? ⟨B, o, none⟩ = w.cell? ⟨B, o, none⟩ := by
  unfold World.cell?
  rw [h.block B hB hne]
/-- the predicate says q of the list's postings, and leaves what lay there -/
def WantsB (bx : Nat) (g : Nat) (cb : Array Value) (xs : List Po) (q : Po → Bool) (w : World) : Prop :=
  ∀ (W : World) (p : Po), p ∈ xs → But bx w.heap.size w W → Calls Tryz.prog g (#[vPo p] ++ cb) W fun e W' => e = .returned (.bool (q p)) ∧ Below W.heap.size W W'

set_option maxRecDepth 100000 in
set_option maxHeartbeats 2000000 in
theorem some1B_in (bx : Nat) (m : Nat) (hm : 1 ≤ m) (l Bl Bw : Nat) (a : Option Addr) (n cap : Nat) (xs : List Po) (g : Nat) (cb : Array Value) (q : Po → Bool) (w0 : World)
    (eg : ∀ args w, (callFunc g args).run Tryz.prog w = .ok (.enter g args) w)
    (J Jx : List (PoOk xs) → World → Prop) (W : World) (hJ : AbidesFrom W.heap.size J) (hJx : AbidesFrom W.heap.size Jx)
    (hY : ∀ pre x W, J pre W → pre.length < n → YieldAt Fence.wide (m - 1) Tryz.prog l #[vPo x.1] W fun e W' =>
      (e = .returned (.bool true) ∧ J (pre ++ [x]) W' ∧ But bx w0.heap.size W W') ∨ (e = .returned (.bool false) ∧ Jx (pre ++ [x]) W'))
    (hW : Below w0.heap.size w0 W)
    (hBl : w0.cell? ⟨Bl, 0, none⟩ = some (.slice a n cap)) (hBw : w0.cell? ⟨Bw, 0, none⟩ = some (.func (.func g) #[] cb))
    (h : Rd Po.vals 8 w0 a n xs) (hlow : 0 < n → ∀ p, a = some p → p.block < bx) (hbx : bx ≤ w0.heap.size) (hlx : Bl ≠ bx) (hwx : Bw ≠ bx) (hw : ∀ p ∈ xs, p.Wf) (hq : WantsB bx g cb xs q w0) (h0 : J [] W) :
    CallsIn Fence.wide m Tryz.prog 120 #[.func (.yield l) #[] #[], .pointer (some ⟨Bl, 0, none⟩), .pointer (some ⟨Bw, 0, none⟩)] W fun e W' => (∃ v, e = .returned v) ∧
      ((∃ ys : List (PoOk xs), ys.map (·.1) = someL xs q ∧ J ys W') ∨ (∃ pre : List (PoOk xs), pre.map (·.1) <+: someL xs q ∧ Jx pre W')) := by
  have hmm := h.cap
  unfold maxLen at hmm
  have Hl := Lib.hid h.len
  have c1 : W.cell? ⟨Bl, 0, none⟩ = some (.slice a n cap) := (hW.cell (p := ⟨Bl, 0, none⟩) (World.block_lt_of_cell? _ _ hBl)).trans hBl
  have HH := Lib.hid h
  have HW := Lib.hid hW
  clear hW h
  refine callsIn_of_wp Tryz.func120 rfl trivial ?_ rfl
  simp only [Tryz.ntmps120, List.size_toArray, List.length_cons, List.length_nil, Nat.reduceAdd, Nat.reduceSub, Array.replicate_succ, Array.replicate_zero, List.push_toArray, List.append_toArray, List.nil_append, List.cons_append]
  by_cases hc : (checkL xs).2 = 0
  case neg =>
    have hd : ((checkL xs).2 != 0) = true := by simp [hc]
    have Hc := Lib.hid hc
    clear hc
    gi_wp2_with (refine ⟨trivial, ?_⟩; gi_at_call 85; refine (callsIn_wide.2 (check_any a n cap xs _ (HH.out.below' HW.out) hw)).mono ?_; rintro e w1 ⟨rfl, hB1⟩)
    refine bodyPost_ret (results_none rfl _ _ _) rfl ?_
    exact ⟨⟨_, rfl⟩, .inl ⟨[], by unfold someL; rw [if_neg Hc.out]; rfl, abides_below hJ h0 hB1⟩⟩
  have hd : ((checkL xs).2 != 0) = false := by simp [hc]
  have Hc := Lib.hid hc
  clear hc
  gi_wp2_with (refine ⟨trivial, ?_⟩; gi_at_call 85; refine (callsIn_wide.2 (check_any a n cap xs _ (HH.out.below' HW.out) hw)).mono ?_; rintro e w1 ⟨rfl, hB1⟩; have c2 : w1.cell? ⟨Bl, 0, none⟩ = some (.slice a n cap) := (hB1.cell (p := ⟨Bl, 0, none⟩) (World.block_lt_of_cell? _ _ c1)).trans c1)
  have hJ1 := abides_below hJ h0 hB1
  have HB1 := Lib.hid (Below.but (bx := bx) (HW.out.trans (hB1.mono HW.out.size)))
  clear hB1 c1 c2
  gi_loopw [17] (fun i wr => ∃ (k : Nat) (pre : List (PoOk xs)), k ≤ n ∧ i = .int .i64 k ∧ pre.map (·.1) = (xs.take k).filter q ∧ But bx w0.heap.size w0 wr ∧ J pre wr) (fun i _ => n - (intOf i).toNat)
  case atStart => exact ⟨0, [], Nat.zero_le _, rfl, rfl, HB1.out, hJ1⟩
  case round =>
    obtain ⟨k, pre, hk, rfl, hpre, hB, hJs⟩ := hrel
    have h1 := hB.rd HH.out hlow hbx
    have c2 : wr.cell? ⟨Bw, 0, none⟩ = some (.func (.func g) #[] cb) := (hB.cell (World.block_lt_of_cell? _ _ hBw) hwx).trans hBw
    have c3 : Bw < wr.heap.size := World.block_lt_of_cell? _ _ c2
    have Hpre := Lib.hid hpre
    have HB := Lib.hid hB
    clear hpre hB HB1 hJ1
    by_cases hlt : k < n
    · obtain ⟨b, off, x, rfl, hb, hx, x0, x1, x2, x3, x4, x5, x6, x7⟩ := h1.po hlt
      have hmem : x ∈ xs := List.mem_of_getElem? hx
      have Hsn := Lib.hid (take_succ_snoc hx)
      have Hx := Lib.hid hx
      clear hx
      have hBa := (Below.refl wr.heap.size wr).alloc (Nat.le_refl _) (.cells #[.int .i64 x.id, .int .i64 x.hour, .int .u8 x.kind, .int .i64 x.party, .int .i64 x.parcel, .int .i64 x.amount, .int .i64 x.reason, .int .i64 x.known] 63)
      have hJa := abides_below hJ hJs hBa
      have hcall := hq (wr.alloc (.cells #[.int .i64 x.id, .int .i64 x.hour, .int .u8 x.kind, .int .i64 x.party, .int .i64 x.parcel, .int .i64 x.amount, .int .i64 x.reason, .int .i64 x.known] 63)) x hmem (HB.out.trans (Below.but (hBa.mono HB.out.size)))
      have hbx := BoxPo.made wr x 63
      have hpl : pre.length ≤ k := by
        have h1 : (pre.map (·.1)).length = pre.length := List.length_map _
        rw [Hpre.out] at h1
        have h2 := List.length_filter_le q (xs.take k)
        rw [List.length_take] at h2
        omega
      have HBa := Lib.hid hBa
      clear hBa
      cases hqx : q x with
      | true =>
        rw [hqx] at hcall
        have hfx : (xs.take (k + 1)).filter q = (xs.take k).filter q ++ [x] := by rw [Hsn.out]; simp [hqx]
        have Hfx := Lib.hid hfx
        clear hfx
        clear hqx
        gi_wp2_with (refine ⟨trivial, ?_⟩; gi_at_fn g; refine (callsIn_wide.2 hcall).mono ?_; rintro e w2 ⟨rfl, hB2⟩; obtain ⟨r0, r1, r2, r3, r4, r5, r6, r7⟩ := (hbx.below' hB2).cells; have hz2 := hB2.size; obtain ⟨fn, tmps, assign, body, hy, hR⟩ := hY pre ⟨x, hmem, Hc.out⟩ w2 (abides_below hJ hJa hB2) (by omega); dsimp only [vPo] at hy)
        refine hR.mono ?_
        have HB2 := Lib.hid (HB.out.trans (Below.but ((below_then HBa.out hB2 (Nat.le_refl _)).mono HB.out.size)))
        have Hmap := Lib.hid (map_snoc_ok pre x ⟨hmem, Hc.out⟩)
        rintro e W3 (⟨rfl, hJ3, hk3⟩ | ⟨rfl, hJx3⟩)
        · have HB3 := Lib.hid (HB2.out.trans hk3)
          clear hk3 hB2 hR hcall
          gi_wp2
          go_roundw
          case rel => exact ⟨k + 1, _, by omega, by go_num, by rw [Hmap.out, Hpre.out, Hfx.out], HB3.out, hJ3⟩
          case measure => simp [intOf]; omega
        · clear hB2 hR hcall
          gi_wp2
          refine bodyPost_ret (results_none rfl _ _ _) rfl ?_
          refine ⟨⟨_, rfl⟩, .inr ⟨_, ?_, hJx3⟩⟩
          rw [Hmap.out, Hpre.out, ← Hfx.out]
          unfold someL
          rw [if_pos Hc.out]
          exact (List.take_prefix _ _).filter _
      | false =>
        rw [hqx] at hcall
        have hfx : (xs.take (k + 1)).filter q = (xs.take k).filter q := by rw [Hsn.out]; simp [hqx]
        have Hfx := Lib.hid hfx
        clear hfx
        clear hqx
        gi_wp2_with (refine ⟨trivial, ?_⟩; gi_at_fn g; refine (callsIn_wide.2 hcall).mono ?_; rintro e w2 ⟨rfl, hB2⟩)
        have hJ2 := abides_below hJ hJa hB2
        have HB2 := Lib.hid (HB.out.trans (Below.but ((below_then HBa.out hB2 (Nat.le_refl _)).mono HB.out.size)))
        clear hB2 hcall
        refine ⟨fun _ h => (by cases h), ?_⟩
        gi_wp2
        go_roundw
        case rel => exact ⟨k + 1, pre, by omega, by go_num, by rw [Hpre.out, Hfx.out], HB2.out, hJ2⟩
        case measure => simp [intOf]; omega
    · gi_wp2
      go_end0
      refine ⟨⟨_, rfl⟩, .inl ⟨pre, ?_, hJs⟩⟩
      rw [Hpre.out, List.take_of_length_le (by rw [Hl.out]; omega)]
      unfold someL
      rw [if_pos Hc.out]

theorem someB_stops (bx : Nat) (m : Nat) (hm : 1 ≤ m) (Bl Bw : Nat) (a : Option Addr) (n cap : Nat) (xs : List Po) (g : Nat) (cb : Array Value) (q : Po → Bool) (w0 : World)
    (eg : ∀ args w, (callFunc g args).run Tryz.prog w = .ok (.enter g args) w)
    (hBl : w0.cell? ⟨Bl, 0, none⟩ = some (.slice a n cap)) (hBw : w0.cell? ⟨Bw, 0, none⟩ = some (.func (.func g) #[] cb))
    (h : Rd Po.vals 8 w0 a n xs) (hlow : 0 < n → ∀ p, a = some p → p.block < bx) (hbx : bx ≤ w0.heap.size) (hlx : Bl ≠ bx) (hwx : Bw ≠ bx) (hw : ∀ p ∈ xs, p.Wf) (hq : WantsB bx g cb xs q w0) :
    SeqStopsK Fence.wide m Tryz.prog 120 #[.pointer (some ⟨Bl, 0, none⟩), .pointer (some ⟨Bw, 0, none⟩)] (fun x : PoOk xs => #[vPo x.1]) (But bx w0.heap.size)
      (fun ys => ys.map (·.1) = someL xs q) (fun pre => pre.map (·.1) <+: someL xs q) n w0 := fun l J Jx W hW hJ hJx hY h0 =>
  some1B_in bx m hm l Bl Bw a n cap xs g cb q w0 eg J Jx W hJ hJx hY hW hBl hBw h hlow hbx hlx hwx hw hq h0
end Go.Proofs.YtehedodogkhmgaaGreat

/- The walks of purse's Reasons and of its function that says what is wanted. -/
set_option linter.unusedSimpArgs false
set_option linter.unusedVariables false
namespace Go.Proofs.YtehedodogkhmgaaGreat
open Go.RowKit Go.Shelf
attribute [local go_sem] Oper.semAt_some

/-- the reasons of a party for a parcel -/
def isRe (who what : Int) (p : Po) : Bool := decide (p.kind ≠ 1 ∧ p.party = who ∧ p.parcel = what)
def reasonsL (xs : List Po) (who what : Int) : List Int := (xs.filter (isRe who what)).map (·.reason)
def reasonsR (xs : List Po) (who what : Int) : List Int := if askE xs what who = 0 then reasonsL xs who what else []
def ReasonsPost (w : World) (xs : List Po) (who what : Int) (e : Ending) (w' : World) : Prop :=
  ∃ v, e = .returned (.tuple #[v, .int .i64 (askE xs what who)]) ∧ w'.ownsRow w.heap.size 3 1 v (reasonsR xs who what).length ((reasonsR xs who what).flatMap ints) ∧ Below w.heap.size w w'

set_option maxHeartbeats 2000000 in
theorem reasons1_any (p : Po) (Bw Bh : Nat) (what who : Int) (w : World) (hw : w.cell? ⟨Bw, 0, none⟩ = some (.int .i64 who)) (hc : w.cell? ⟨Bh, 0, none⟩ = some (.int .i64 what)) :
    Calls Tryz.prog 110 #[.agg #[.int .i64 p.id, .int .i64 p.hour, .int .u8 p.kind, .int .i64 p.party, .int .i64 p.parcel, .int .i64 p.amount, .int .i64 p.reason, .int .i64 p.known], .pointer (some ⟨Bw, 0, none⟩), .pointer (some ⟨Bh, 0, none⟩)] w fun e W' =>
      e = .returned (.bool (isRe who what p)) ∧ Below w.heap.size w W' := by
  have hlt : Bh < w.heap.size := World.block_lt_of_cell? _ _ hc
  have hlw : Bw < w.heap.size := World.block_lt_of_cell? _ _ hw
  go_enter Tryz.func110, Tryz.ntmps110
  by_cases q1 : p.kind = 1
  · have e1 : (p.kind != 1) = false := by simp [q1]
    have HQ := Lib.hid q1
    clear q1
    go_wp2_with fail
    go_ret
    exact ⟨ret_bool (by simp [isRe, HQ.out]), (Below.refl _ _).alloc (Nat.le_refl _) _⟩
  have e1 : (p.kind != 1) = true := by simp [q1]
  have HQ1 := Lib.hid q1
  clear q1
  by_cases q2 : p.party = who
  case neg =>
    have e2 : (p.party == who) = false := by simp [q2]
    have HQ := Lib.hid q2
    clear q2
    go_wp2_with fail
    go_ret
    exact ⟨ret_bool (by simp [isRe, HQ.out]), (Below.refl _ _).alloc (Nat.le_refl _) _⟩
  have e2 : (p.party == who) = true := by simp [q2]
  have HQ2 := Lib.hid q2
  clear q2
  by_cases q3 : p.parcel = what
  · have e3 : (p.parcel == what) = true := by simp [q3]
    have HQ := Lib.hid q3
    clear q3
    go_wp2_with fail
    go_ret
    exact ⟨ret_bool (by simp [isRe, HQ.out, HQ1.out, HQ2.out]), (Below.refl _ _).alloc (Nat.le_refl _) _⟩
  · have e3 : (p.parcel == what) = false := by simp [q3]
    have HQ := Lib.hid q3
    clear q3
    go_wp2_with fail
    go_ret
    exact ⟨ret_bool (by simp [isRe, HQ.out]), (Below.refl _ _).alloc (Nat.le_refl _) _⟩

theorem AskedPost.no {w w' : World} {xs : List Po} {parcel party : Int} {e : Ending} (h : AskedPost w xs parcel party e w') (hc : ¬ askE xs parcel party = 0) : e = .returned (.tuple #[.pointer none, .int .i64 (askE xs parcel party)]) ∧ Below w.heap.size w w' := by
  obtain ⟨hB, ⟨_, he⟩ | ⟨h0, _⟩⟩ := h
  · exact ⟨he, hB⟩
  · exact absurd h0 hc
theorem AskedPost.yes {w w' : World} {xs : List Po} {parcel party : Int} {e : Ending} (h : AskedPost w xs parcel party e w') (hc : askE xs parcel party = 0) : ∃ q, e = .returned (.tuple #[.pointer q, .int .i64 0]) ∧ Below w.heap.size w w' := by
  obtain ⟨hB, ⟨h0, _⟩ | ⟨_, L, s, he, _⟩⟩ := h
  · exact absurd hc h0
  · exact ⟨_, he, hB⟩

theorem But.grown {bx n0 : Nat} {w w' w'' : World} {row : Option Nat} (h : But bx n0 w w') (hg : w'.grownBy w'' row) (hn : n0 ≤ w.heap.size) (hr : ∀ k, row = some k → k = bx ∨ n0 ≤ k) : But bx n0 w w'' :=
  ⟨hg.os.trans h.os, hg.tape.trans h.tape, hg.output.trans h.output, Nat.le_trans h.size hg.size, fun i hi hn' => by
    refine (hg.block i (Nat.lt_of_lt_of_le hi (Nat.le_trans hn h.size)) (fun e => ?_)).trans (h.block i hi hn')
    rcases hr i e.symm with e' | e'
    · exact hn' e'
    · omega⟩
theorem boxed_appendedBut {W w1 : World} {n₀ n1 B : Nat} {t e : TypeId} {size : Nat} {v v' : Value} {k m : Nat} {xs ys : List Value} {tmp : Obj}
    (hv : Boxed W B t v) (hte : t ≠ e) (hrow : W.ownsRow n₀ e size v k xs) (hn₀ : n₀ ≤ W.heap.size) (hn1 : n1 ≤ n₀) (hB : n1 ≤ B)
    (hown' : w1.ownsRow n₀ e size v' m ys) (hgrow : (W.alloc tmp).grownBy w1 v.ownBlock) :
    Boxed w1 B t v ∧ Boxed (w1.setCell ⟨B, 0, none⟩ v') B t v' ∧ (w1.setCell ⟨B, 0, none⟩ v').ownsRow n₀ e size v' m ys ∧ KeepsOthers W (w1.setCell ⟨B, 0, none⟩ v') ∧ Below n1 W (w1.setCell ⟨B, 0, none⟩ v') ∧ But B n₀ W (w1.setCell ⟨B, 0, none⟩ v') := by
  obtain ⟨h1, h2, _, h4, h5⟩ := hv.appended hte (ownsRow_mono hrow hn1) (Nat.le_trans hn1 hn₀) hB (ownsRow_mono hown' hn1) hgrow
  refine ⟨h1, h2, hown'.kept (grownBy_setCell' w1 B v') (.inr (h1.not_row hte hown').symm), h4, h5, ?_⟩
  have hb : But B n₀ W w1 := Below.but (((Below.refl n₀ W).alloc hn₀ tmp).grown hgrow (by simp; omega) (fun j e => (hrow.lt j e).1))
  exact hb.grown (grownBy_setCell' w1 B v') hn₀ (fun k e => .inl (by cases e; rfl))

set_option maxRecDepth 100000 in
set_option maxHeartbeats 8000000 in
theorem reasons_in (a : Option Addr) (n cap : Nat) (xs : List Po) (who what : Int) (w : World) (h : Rd Po.vals 8 w a n xs) (hn : n ≤ 1000) (hw : ∀ p ∈ xs, p.Wf) :
    CallsIn Fence.wide 5 Tryz.prog 46 #[.slice a n cap, .int .i64 who, .int .i64 what] w (ReasonsPost w xs who what) := by
  obtain ⟨i0, hi, hz0, hz1, hz2⟩ := info_parts info_int
  have H := Lib.hid h
  have hlow0 : 0 < n → ∀ p, a = some p → p.block < w.heap.size := fun hn0 p e => by
    obtain ⟨b, off, x, ha, hb, _⟩ := h.read 0 (by omega)
    rw [e] at ha; cases ha; exact hb
  clear h
  refine callsIn_of_wp_marks Tryz.func46 rfl trivial ?_ rfl
  simp only [Tryz.ntmps46, List.size_toArray, List.length_cons, List.length_nil, Nat.reduceAdd, Nat.reduceSub, Array.replicate_succ, Array.replicate_zero, List.push_toArray, List.append_toArray, List.nil_append, List.cons_append]
  have b1 := (Boxed.new w 3 (.int .i64 who)).alloc (.cells #[.int .i64 what] 3)
  have b2 := Boxed.new (w.alloc (.cells #[.int .i64 who] 3)) 3 (.int .i64 what)
  have hB0 : Below w.heap.size w ((w.alloc (.cells #[.int .i64 who] 3)).alloc (.cells #[.int .i64 what] 3)) := ((Below.refl _ w).alloc (Nat.le_refl _) _).alloc (by simp) _
  simp only [World.size_alloc] at b2
  have c1 := b1.cell
  have c2 := b2.cell
  by_cases hask : askE xs what who = 0
  case neg =>
    have hc1 : (askE xs what who != 0) = true := by simp [hask]
    gi_wp2_with (refine ⟨trivial, ?_⟩; gi_at_call 73; refine (callsIn_wide.2 (asked_any a n cap xs what who _ (H.out.below' hB0) hw)).mono ?_; rintro e w1 hp; obtain ⟨rfl, hB1⟩ := hp.no hask)
    exact ⟨_, results_tmp2 rfl _ _ _, _, rfl, by unfold reasonsR; rw [if_neg hask]; exact World.ownsRow_nil _ _ _ _, below_then hB0 hB1 (Nat.le_refl _)⟩
  have hck : (checkL xs).2 = 0 := by
    unfold askE at hask
    by_cases hc : (checkL xs).2 = 0
    · exact hc
    · rw [if_neg hc] at hask; exact absurd hask hc
  gi_wp2_with (first
    | (refine ⟨trivial, ?_⟩; gi_at_call 73; refine (callsIn_wide.2 (asked_any a n cap xs what who _ (H.out.below' hB0) hw)).mono ?_; rintro e w1 hp; obtain ⟨q, rfl, hB1⟩ := hp.yes hask)
    | (refine ⟨trivial, ?_⟩; gi_at_call 81; refine (callsIn_wide.2 (some_any a n cap _ _ _)).mono ?_; rintro e w2 ⟨rfl, rfl⟩))
  have hlt1 : w.heap.size < w1.heap.size := Nat.lt_of_lt_of_le b1.lt hB1.size
  have hlt2 : w.heap.size + 1 < w1.heap.size := Nat.lt_of_lt_of_le b2.lt hB1.size
  have d1 : w1.cell? ⟨w.heap.size, 0, none⟩ = some (.int .i64 who) := (hB1.cell (p := ⟨w.heap.size, 0, none⟩) b1.lt).trans c1
  have d2 : w1.cell? ⟨w.heap.size + 1, 0, none⟩ = some (.int .i64 what) := (hB1.cell (p := ⟨w.heap.size + 1, 0, none⟩) b2.lt).trans c2
  have bS := ((Boxed.new w1 39 (.slice none 0 0)).alloc (.cells #[.slice a n cap] 22)).alloc (.cells #[.func (.func 110) #[] #[.pointer (some ⟨w.heap.size, 0, none⟩), .pointer (some ⟨w.heap.size + 1, 0, none⟩)]] 111)
  have bl := (Boxed.new (w1.alloc (.cells #[.slice none 0 0] 39)) 22 (.slice a n cap)).alloc (.cells #[.func (.func 110) #[] #[.pointer (some ⟨w.heap.size, 0, none⟩), .pointer (some ⟨w.heap.size + 1, 0, none⟩)]] 111)
  have bw := Boxed.new ((w1.alloc (.cells #[.slice none 0 0] 39)).alloc (.cells #[.slice a n cap] 22)) 111 (.func (.func 110) #[] #[.pointer (some ⟨w.heap.size, 0, none⟩), .pointer (some ⟨w.heap.size + 1, 0, none⟩)])
  have hb : Below w1.heap.size w1 (((w1.alloc (.cells #[.slice none 0 0] 39)).alloc (.cells #[.slice a n cap] 22)).alloc (.cells #[.func (.func 110) #[] #[.pointer (some ⟨w.heap.size, 0, none⟩), .pointer (some ⟨w.heap.size + 1, 0, none⟩)]] 111)) :=
    (((Below.refl _ w1).alloc (Nat.le_refl _) _).alloc (by simp) _).alloc (by simp; omega) _
  have hsz : (((w1.alloc (.cells #[.slice none 0 0] 39)).alloc (.cells #[.slice a n cap] 22)).alloc (.cells #[.func (.func 110) #[] #[.pointer (some ⟨w.heap.size, 0, none⟩), .pointer (some ⟨w.heap.size + 1, 0, none⟩)]] 111)).heap.size = w1.heap.size + 3 := by simp
  simp only [World.size_alloc] at bl bw ⊢
  obtain ⟨W0, hW0⟩ : ∃ W0, ((w1.alloc (.cells #[.slice none 0 0] 39)).alloc (.cells #[.slice a n cap] 22)).alloc (.cells #[.func (.func 110) #[] #[.pointer (some ⟨w.heap.size, 0, none⟩), .pointer (some ⟨w.heap.size + 1, 0, none⟩)]] 111) = W0 := ⟨_, rfl⟩
  rw [hW0] at bS bl bw hb hsz ⊢
  clear hW0
  have hsz1 : w1.heap.size + 3 ≤ W0.heap.size := by omega
  clear hsz
  have hB01 := below_then hB0 hB1 (Nat.le_refl _)
  have hB02 := below_then hB01 hb (Nat.le_refl _)
  have hq : WantsB w1.heap.size 110 #[.pointer (some ⟨w.heap.size, 0, none⟩), .pointer (some ⟨w.heap.size + 1, 0, none⟩)] xs (isRe who what) W0 := fun W' p hp hB =>
    reasons1_any p w.heap.size (w.heap.size + 1) what who W' ((hB.cell (by omega) (by omega)).trans ((hb.cell (p := ⟨w.heap.size, 0, none⟩) hlt1).trans d1)) ((hB.cell (by omega) (by omega)).trans ((hb.cell (p := ⟨w.heap.size + 1, 0, none⟩) hlt2).trans d2))
  have hR0 := H.out.below' hB02
  refine wpIn_rangeFunc_ownH rfl (by omega) (gf := 120) (lb := #[.pointer (some ⟨w1.heap.size + 1, 0, none⟩), .pointer (some ⟨w1.heap.size + 2, 0, none⟩)]) rfl trivial (enters_of Tryz.func120 (by kernel_rfl) rfl)
    (someB_stops w1.heap.size 4 (by omega) (w1.heap.size + 1) (w1.heap.size + 2) a n cap xs _ _ (isRe who what) W0 (enters_of Tryz.func110 (by kernel_rfl) rfl) bl.cell bw.cell hR0 (fun hn0 p e => Nat.lt_trans (hlow0 hn0 p e) hlt1) (by omega) (by omega) (by omega) hw hq)
    But.trans (fun W l o o' h1 h2 h3 h4 => Below.but (belowK_b (Nat.le_refl _) W l o o' h1 h2 h3 h4)) (Below.refl _ _) (fun _ => rfl)
    (fun pre W => (∃ v, Boxed W w1.heap.size 39 v ∧ W.ownsRow W0.heap.size 3 1 v pre.length (((pre.map (·.1)).map (·.reason)).flatMap ints) ∧ True) ∧ Below w1.heap.size W0 W)
    (fun _ _ _ => False)
    (OwnFrom.and (Own.from (holdsRow_own W0.heap.size w1.heap.size 39 3 1 (fun pre : List (PoOk xs) => pre.length) (fun pre => ((pre.map (·.1)).map (·.reason)).flatMap ints) (fun _ _ => True)) _) (ownFrom_below (by omega) (by omega)))
    (fun _ _ _ _ _ hs _ _ => hs)
    ⟨⟨_, bS, World.ownsRow_nil _ _ _ _, trivial⟩, Below.refl _ _⟩
    (fun x a' W => ∃ Bx, w1.heap.size < Bx ∧ W.heap[Bx]? = some (.cells #[.int .i64 x.1.id, .int .i64 x.1.hour, .int .u8 x.1.kind, .int .i64 x.1.party, .int .i64 x.1.parcel, .int .i64 x.1.amount, .int .i64 x.1.reason, .int .i64 x.1.known] 63 (0, 0)) ∧
      a' = { tmps := #[.slice a n cap, .int .i64 who, .int .i64 what, undef, .pointer (some ⟨w.heap.size, 0, none⟩), .pointer (some ⟨w.heap.size + 1, 0, none⟩), .slice none 0 0, .int .i64 0, .pointer q, .int .i64 0, .pointer (some ⟨w1.heap.size, 0, none⟩), .pointer (some ⟨Bx, 0, none⟩), .tuple #[.pointer q, .int .i64 0], .slice a n cap, .int .i64 what, .int .i64 who, .tuple #[.pointer q, .int .i64 0], .pointer q, .int .i64 0, .int .i64 0, .bool false, undef, .slice a n cap, .func (.func 110) #[] #[.pointer (some ⟨w.heap.size, 0, none⟩), .pointer (some ⟨w.heap.size + 1, 0, none⟩)], .func (.func 120) #[] #[.pointer (some ⟨w1.heap.size + 1, 0, none⟩), .pointer (some ⟨w1.heap.size + 2, 0, none⟩)], vPo x.1, undef, undef, undef, undef, undef, undef], defers := [] })
    (fun x a' _ X Y row hs hg hr => by
      obtain ⟨Bx, h1, h2, h3⟩ := hs
      refine ⟨Bx, h1, (hg.block Bx (Array.getElem?_eq_some_iff.1 h2).1 (fun e => ?_)).trans h2, h3⟩
      obtain ⟨_, o, ho, hc⟩ := hr Bx e.symm
      rw [h2] at ho; cases ho; cases hc)
    ?assign ?body ?done ?stop
  case assign =>
    rintro l pre x W K ⟨⟨v, hv, hrow, _⟩, hB2⟩ hK
    unfold vPo
    gi_wp2
    exact hK _ _ ((KeepsOthers.alloc _ _).from _) (Below.but ((Below.refl _ W).alloc hB2.size _)) ⟨⟨v, hv.alloc _, hrow.alloc _, trivial⟩, hB2.alloc (by have := hB2.size; omega) _⟩ ⟨W.heap.size, hv.lt, heap_alloc_new W _, rfl⟩
  case body =>
    rintro l pre x a' W hl hr ⟨⟨v, hv, hrow, _⟩, hB2⟩ ⟨Bx, hBx, bX, rfl⟩ hlt
    have hc := hv.cell
    have q6 : W.cell? ⟨Bx, 6, none⟩ = some (.int .i64 x.1.reason) := by rw [cell_of_row _ _ _ _ _ (0, 0) bX]; rfl
    gi_wp2_with (gi_at_builtin; refine wpListIn_append_own _ rfl _ _ 39 rfl W0.heap.size 3 i0 _ 1 8 Tryz.underlying39 hi hz0 hz1 hz2 rfl (by decide) _ _ _ rfl (hrow.alloc _) ⟨W.heap.size, 0, none⟩ 1 1 (ints x.1.reason) rfl rfl (cell_one_new _ _ _) (by simp [ints, Value.oneCell']) (by unfold maxLen; omega) (by omega) (Nat.le_trans hB2.size (by simp)) ?_; intro v' w3 hown' hgrow _; obtain ⟨g', cap', rfl⟩ := ownsRow_succ hown'; obtain ⟨hv1, hv2, hr2, hk2, hb2, hbut⟩ := boxed_appendedBut hv (by decide) hrow hB2.size (n1 := w1.heap.size) (by omega) (Nat.le_refl _) hown' hgrow; have hc1 := hv1.cell; have hf1 := hv1.frozen)
    exact ⟨hk2.from _, hbut, ⟨_, hv2, by simpa using hr2, trivial⟩, hB2.trans hb2⟩
  case done =>
    rintro D ys W hD hS ⟨⟨v, hv, hrow, _⟩, hB2⟩ hK
    have hc := hv.cell
    gi_wp2
    refine ⟨by simp, .inl ⟨_, _, rfl, run_takeDeferred hK, ?_⟩⟩
    have hL : (ys.map (·.1)).map (·.reason) = reasonsR xs who what := by rw [hS]; unfold reasonsR someL reasonsL; rw [if_pos hck, if_pos hask]
    have hlen : ys.length = (reasonsR xs who what).length := by rw [← hL]; simp
    have hrow' := ownsRow_putObj hrow (.deferred none) hK rfl
    rw [hL, hlen] at hrow'
    refine ⟨_, results_tmp2 rfl _ _ _, v, by rw [hask]; rfl, ownsRow_mono hrow' hB02.size, ?_⟩
    exact (below_then hB01 (hb.trans hB2) (Nat.le_refl _)).trans (belowK_b (w := W0) (n₀ := w.heap.size) (by omega) W D _ _ hD hK rfl rfl)
  case stop =>
    rintro D c pre W _ _ h _
    exact h.elim
theorem reasons_any (a : Option Addr) (n cap : Nat) (xs : List Po) (who what : Int) (w : World) (h : Rd Po.vals 8 w a n xs) (hn : n ≤ 1000) (hw : ∀ p ∈ xs, p.Wf) :
    Calls Tryz.prog 46 #[.slice a n cap, .int .i64 who, .int .i64 what] w (ReasonsPost w xs who what) := callsIn_wide.1 (reasons_in a n cap xs who what w h hn hw)
end Go.Proofs.YtehedodogkhmgaaGreat
