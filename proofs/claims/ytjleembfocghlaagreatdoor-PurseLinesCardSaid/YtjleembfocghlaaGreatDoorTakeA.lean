/- The walk of the chest's take: a deferred closure recovers what the refusals give up with. -/
import Derived.Test.YtjleembfocghlaaGreatDoorBack
import Derived.Test.YtjleembfocghlaaGreatDoorRefF
import Derived.Recover
import Derived.Laws.EntriesVeiled
set_option linter.unusedSimpArgs false
set_option linter.unusedVariables false
namespace Go.Proofs.YtjleembfocghlaaGreatDoor
open Go.RowKit
open Go.Maps (Keyed)

set_option maxRecDepth 100000 in
set_option maxHeartbeats 1000000 in
theorem catch_refusal (b : Nat) (x e : Int) (older : List PanicEntry) (w : World) (hc : w.cell? ⟨b, 0, none⟩ = some (.int .i64 x)) (hz : w.frozen? ⟨b, 0, none⟩ = false) :
    CallsD Tryz.prog 67 #[.pointer (some ⟨b, 0, none⟩)] (.panicking ({ v := refusalV e, recovered := false } :: older)) w fun r u' w' =>
      r = .returned (.tuple #[]) ∧ u' = .panicking ({ v := refusalV e, recovered := true } :: older) ∧ w' = (w.setCell ⟨b, 0, none⟩ (.int .i64 e)).alloc (.cells #[.int .i64 e] 111) := by
  have hlt : b < w.heap.size := World.block_lt_of_cell? w _ hc
  refine callsD_of_wpS Tryz.func67 rfl fun c₀ cs hu => ?_
  simp only [Tryz.ntmps67, List.size_toArray, List.length_cons, List.length_nil, Nat.reduceAdd, Nat.reduceSub, Array.replicate_succ, Array.replicate_zero, List.push_toArray, List.append_toArray, List.nil_append, List.cons_append]
  apply wpS_seq
  apply wpS_region
  simp [wpOpsS, go_sem, recoverD, hu, Exit.thenS]
  refine wpS_of_wp ?_
  unfold refusalV
  have hta : ∀ W, (Instr.typeAssert (.iface 111 (.agg #[.int .i64 e])) 20 111 true).run Tryz.prog W = .ok (.tuple #[.agg #[.int .i64 e], .bool true]) W := fun _ => by kernel_rfl
  go_wp2_with fail
  refine ⟨rfl, _, rfl, _, results_none rfl _ _ _, rfl, rfl, rfl⟩
set_option maxRecDepth 100000 in
set_option maxHeartbeats 1000000 in
theorem catch_nothing (b : Nat) (w : World) :
    CallsD Tryz.prog 67 #[.pointer (some ⟨b, 0, none⟩)] .returning w fun e u' w' => e = .returned (.tuple #[]) ∧ u' = .returning ∧ w' = w := by
  refine callsD_of_wpS Tryz.func67 rfl fun c₀ cs hu => ?_
  simp only [Tryz.ntmps67, List.size_toArray, List.length_cons, List.length_nil, Nat.reduceAdd, Nat.reduceSub, Array.replicate_succ, Array.replicate_zero, List.push_toArray, List.append_toArray, List.nil_append, List.cons_append]
  apply wpS_seq
  apply wpS_region
  simp [wpOpsS, go_sem, recoverD, hu, Exit.thenS]
  refine wpS_of_wp ?_
  go_wp2_with fail
  refine ⟨rfl, _, by cases c₀; simp only at hu; subst hu; rfl, _, results_none rfl _ _ _, rfl, rfl, rfl⟩
set_option maxHeartbeats 1000000 in
theorem takes_any (w : World) : Calls Tryz.prog 69 #[] w fun r w' => r = .returned (.agg #[.nilFunc, .func (.func 91) #[] #[], .func (.func 92) #[] #[], .func (.func 93) #[] #[]]) ∧ Below w.heap.size w w' := by
  go_enter Tryz.func69, Tryz.ntmps69
  go_wp2_with fail
  refine bodyPost_ret (v := .agg #[.nilFunc, .func (.func 91) #[] #[], .func (.func 92) #[] #[], .func (.func 93) #[] #[]]) (by simp [results, Tryz.results69, go_sem]) rfl ⟨rfl, ?_⟩
  exact (Below.refl _ _).alloc (Nat.le_refl _) _
end Go.Proofs.YtjleembfocghlaaGreatDoor

/- The walk of take. -/
set_option linter.unusedSimpArgs false
set_option linter.unusedVariables false
namespace Go.Proofs.YtjleembfocghlaaGreatDoor
open Go.RowKit
open Go.Maps (Keyed)

/-- why the chest refuses a posting; 0 if it takes it -/
def takeE (s : Ch) (p : Po) : Int :=
  if 400 ≤ s.n then 2 else if ¬ okPo p then 1 else if getB s.ids p.id = true then 6 else if p.hour < s.hour then 7 else
  if p.kind = 1 then (if (mget s.sold p.parcel).isSome = true then 6 else 0) else if (mget s.sold p.parcel).isSome = false then 5 else
  if p.kind = 2 then (if getI s.held p.parcel < p.amount then 70 else 0) else if getI s.has (p.parcel, p.party) < p.amount then 70 else
  if p.known ≤ (getP s.last (p.parcel, p.party)).known then 71 else 0
def kindS (s : Ch) (p : Po) : Ch := if p.kind = 1 then saleS s p else if p.kind = 2 then payS s p else backS s p
def takeS (s : Ch) (p : Po) : Ch := { kindS s p with n := s.n + 1, hour := p.hour, ids := mput s.ids p.id true }

/-- the result's cell -/
def ResE (w : World) (E : Nat) : Prop := w.heap[E]? = some (.cells #[.int .i64 0] 25)
theorem ResE.lt {w : World} {E : Nat} (h : ResE w E) : E < w.heap.size := (Array.getElem?_eq_some_iff.1 h).1
theorem ResE.cell {w : World} {E : Nat} (h : ResE w E) : w.cell? ⟨E, 0, none⟩ = some (.int .i64 0) := by rw [cell_of_row _ _ 0 _ _ (0, 0) h]; rfl
theorem ResE.free {w : World} {E : Nat} (h : ResE w E) : w.frozen? ⟨E, 0, none⟩ = false := free_of_one h
theorem ResE.onlyL {w w' : World} {E : Nat} {L : Lay} (h : ResE w E) (ho : OnlyL L w w') (hE : ¬ L.mem E) : ResE w' E := (ho.block E h.lt hE).trans h
theorem ResE.below' {w w' : World} {E : Nat} (h : ResE w E) (hb : Below w.heap.size w w') : ResE w' E := (hb.block E h.lt).trans h
theorem ResE.drewN {w : World} {E : Nat} (h : ResE w E) (n : Nat) : ResE (w.drewN n) E := h
theorem BoxPo.onlyL {w w' : World} {B : Nat} {p : Po} {L : Lay} (h : BoxPo w B p) (ho : OnlyL L w w') (hB : ¬ L.mem B) : BoxPo w' B p :=
  ⟨Nat.lt_of_lt_of_le h.1 ho.size, fun j hj => (World.cell?_of_block (a := ⟨B, j, none⟩) (ho.block B h.1 hB)).trans (h.2 j hj)⟩
/-- behind the door: the result is written -/
theorem onlyL_catch {w W : World} {L : Lay} {E : Nat} {x : Int} {o : Obj} (h : OnlyL L w W) (hE : w.heap.size ≤ E) : OnlyL L w ((W.setCell ⟨E, 0, none⟩ (.int .i64 x)).alloc o) :=
  ⟨h.os, h.tape, h.output, Nat.le_trans h.size (by simp [World.setCell]), fun k hk hm => by
    have h1 : k < (W.setCell ⟨E, 0, none⟩ (.int .i64 x)).heap.size := by simp [World.setCell]; exact Nat.lt_of_lt_of_le hk h.size
    rw [Below.heap_alloc _ _ _ h1, Below.heap_setCell _ _ _ _ (by show k ≠ E; omega)]
    exact h.block k hk hm⟩

theorem ChAt.setNH {w : World} {L : Lay} {s : Ch} (h : ChAt w L s) (n t : Int) : ChAt ((w.setCell ⟨L.c, 0, none⟩ (.int .i64 n)).setCell ⟨L.c, 1, none⟩ (.int .i64 t)) L { s with n := n, hour := t } := by
  have h1 : ∀ k, k ≠ L.c → ((w.setCell ⟨L.c, 0, none⟩ (.int .i64 n)).setCell ⟨L.c, 1, none⟩ (.int .i64 t)).heap[k]? = w.heap[k]? := fun k hk => by
    rw [Below.heap_setCell _ _ _ _ (by simpa using hk), Below.heap_setCell _ _ _ _ (by simpa using hk)]
  refine ⟨h.ok, ?_, h.ids.same (h1 _ (fun e => h.ok.h1 e.symm)), h.sold.same (h1 _ (fun e => h.ok.h2 e.symm)), h.held.same (h1 _ (fun e => h.ok.h3 e.symm)), h.has.same (h1 _ (fun e => h.ok.h4 e.symm)), h.last.same (h1 _ (fun e => h.ok.h5 e.symm))⟩
  simp [World.setCell, Array.getElem?_modify, h.cells]
theorem onlyL_setCell {w : World} {L : Lay} (a : Addr) (ha : L.mem a.block) (v : Value) : OnlyL L w (w.setCell a v) :=
  ⟨rfl, rfl, rfl, by simp [World.setCell], fun k _ hm => Below.heap_setCell _ _ _ _ (fun e => hm (by rw [e]; exact ha))⟩
theorem BoxPo.setCell {w : World} {B : Nat} {p : Po} (h : BoxPo w B p) (a : Addr) (ha : a.block ≠ B) (v : Value) : BoxPo (w.setCell a v) B p :=
  ⟨by simpa [World.setCell] using h.1, fun j hj => (World.cell?_of_block (a := ⟨B, j, none⟩) (Below.heap_setCell _ _ _ _ (fun e => ha e.symm))).trans (h.2 j hj)⟩
theorem index_take {k : Int} {f : FuncId} (hk : (k = 1 ∧ f = 91) ∨ (k = 2 ∧ f = 92) ∨ (k = 3 ∧ f = 93)) (w : World) :
    (Instr.index 114 (.agg #[.nilFunc, .func (.func 91) #[] #[], .func (.func 92) #[] #[], .func (.func 93) #[] #[]]) (.int .u8 k)).run Tryz.prog w = .ok (.func (.func f) #[] #[]) w := by
  rcases hk with ⟨rfl, rfl⟩ | ⟨rfl, rfl⟩ | ⟨rfl, rfl⟩ <;> kernel_rfl

/-- bounds of what a chest holds -/
structure Bd (s : Ch) : Prop where
  n : 0 ≤ s.n ∧ s.n ≤ 1000
  held : ∀ k, -1000000000000000 ≤ getI s.held k ∧ getI s.held k ≤ 1000000000000000
  has : ∀ k, -1000000000000000 ≤ getI s.has k ∧ getI s.has k ≤ 1000000000000000

theorem takeE_2 {s : Ch} {p : Po} (h : 400 ≤ s.n) : takeE s p = 2 := by unfold takeE; rw [if_pos h]
theorem takeE_1 {s : Ch} {p : Po} (h : s.n < 400) (h1 : ¬ okPo p) : takeE s p = 1 := by unfold takeE; rw [if_neg (by omega), if_pos h1]
theorem takeE_6 {s : Ch} {p : Po} (h : s.n < 400) (h1 : okPo p) (h2 : getB s.ids p.id = true) : takeE s p = 6 := by unfold takeE; rw [if_neg (by omega), if_neg (by simp [h1]), if_pos h2]
theorem takeE_7 {s : Ch} {p : Po} (h : s.n < 400) (h1 : okPo p) (h2 : getB s.ids p.id = false) (h3 : p.hour < s.hour) : takeE s p = 7 := by
  unfold takeE; rw [if_neg (by omega), if_neg (by simp [h1]), if_neg (by simp [h2]), if_pos h3]
theorem takeE_k {s : Ch} {p : Po} (h : s.n < 400) (h1 : okPo p) (h2 : getB s.ids p.id = false) (h3 : s.hour ≤ p.hour) : takeE s p =
  (if p.kind = 1 then (if (mget s.sold p.parcel).isSome = true then 6 else 0) else if (mget s.sold p.parcel).isSome = false then 5 else
  if p.kind = 2 then (if getI s.held p.parcel < p.amount then 70 else 0) else if getI s.has (p.parcel, p.party) < p.amount then 70 else
  if p.known ≤ (getP s.last (p.parcel, p.party)).known then 71 else 0) := by
  unfold takeE; rw [if_neg (by omega), if_neg (by simp [h1]), if_neg (by simp [h2]), if_neg (by omega)]

set_option maxRecDepth 100000 in
set_option maxHeartbeats 8000000 in
theorem take_limit (L : Lay) (s : Ch) (p : Po) (w : World) (hp : p.Wf) (h : ChAt w L s) (hn : 400 ≤ s.n) :
    Calls Tryz.prog 36 #[.pointer (some ⟨L.c, 0, none⟩), .agg #[.int .i64 p.id, .int .i64 p.hour, .int .u8 p.kind, .int .i64 p.party, .int .i64 p.parcel, .int .i64 p.amount, .int .i64 p.reason, .int .i64 p.known]] w fun r w' =>
      r = .returned (.int .i64 (takeE s p)) ∧ OnlyL L w w' ∧ (takeE s p = 0 → ChAt w' L (takeS s p)) := by
  have hmf : ∀ (fn : Fn) (first cap : Array Value) (w : World), (Instr.makeFunc fn first cap).run Tryz.prog w = .ok (.func fn first cap) w := fun _ _ _ _ => rfl
  have hmem : ¬ L.mem w.heap.size ∧ ¬ L.mem (w.heap.size + 1) := ⟨fun hk => by have := h.mem_lt hk; omega, fun hk => by have := h.mem_lt hk; omega⟩
  have Hmem := Lib.hid hmem
  have hbx := (BoxPo.made w p 23).below' ((Below.refl _ _).alloc (Nat.le_refl _) (.cells #[.int .i64 0] 25))
  have hch := (h.alloc (.cells #[.int .i64 p.id, .int .i64 p.hour, .int .u8 p.kind, .int .i64 p.party, .int .i64 p.parcel, .int .i64 p.amount, .int .i64 p.reason, .int .i64 p.known] 23)).alloc (.cells #[.int .i64 0] 25)
  have hE : ResE ((w.alloc (.cells #[.int .i64 p.id, .int .i64 p.hour, .int .u8 p.kind, .int .i64 p.party, .int .i64 p.parcel, .int .i64 p.amount, .int .i64 p.reason, .int .i64 p.known] 23)).alloc (.cells #[.int .i64 0] 25)) (w.heap.size + 1) := by
    have := heap_alloc_new (w.alloc (.cells #[.int .i64 p.id, .int .i64 p.hour, .int .u8 p.kind, .int .i64 p.party, .int .i64 p.parcel, .int .i64 p.amount, .int .i64 p.reason, .int .i64 p.known] 23)) (.cells #[.int .i64 0] 25)
    simpa [ResE] using this
  have HO := Lib.hid (onlyL_of_below (((Below.refl w.heap.size w).alloc (Nat.le_refl _) (.cells #[.int .i64 p.id, .int .i64 p.hour, .int .u8 p.kind, .int .i64 p.party, .int .i64 p.parcel, .int .i64 p.amount, .int .i64 p.reason, .int .i64 p.known] 23)).alloc (by simp) (.cells #[.int .i64 0] 25)) L)
  have d0 := h.cs.1
  have dlt : L.c < w.heap.size := h.mem_lt (.inl rfl)
  have HT := Lib.hid (takeE_2 (p := p) hn)
  clear h hmem
  go_enter_defers Tryz.func36, Tryz.ntmps36
  have hd : decide (s.n < 400) = false := by simp; omega
  go_wp2_with fail
  clear d0
  change ChAt ((w.alloc (.cells #[.int .i64 p.id, .int .i64 p.hour, .int .u8 p.kind, .int .i64 p.party, .int .i64 p.parcel, .int .i64 p.amount, .int .i64 p.reason, .int .i64 p.known] 23)).alloc (.cells #[.int .i64 0] 25)) L s at hch
  generalize ((w.alloc (.cells #[.int .i64 p.id, .int .i64 p.hour, .int .u8 p.kind, .int .i64 p.party, .int .i64 p.parcel, .int .i64 p.amount, .int .i64 p.reason, .int .i64 p.known] 23)).alloc (.cells #[.int .i64 0] 25)) = W at *
  refine (unless_no 2 _).mono ?_
  rintro r w2 ⟨rfl, hw2⟩
  replace hw2 := hw2.symm
  subst hw2
  go_wp2_with fail
  refine leaves_cons (f := 67) (args := #[.pointer (some ⟨w.heap.size + 1, 0, none⟩)]) (by simp) (by simp [go_sem]) ?_
  refine (catch_refusal (w.heap.size + 1) 0 _ [] _ hE.cell hE.free).mono ?_
  rintro r u' w'' ⟨rfl, rfl, rfl⟩
  have hc1 := hE.cell
  have hlt1 := hE.lt
  simp [Leaves, settle, results, Tryz.results36, go_sem, refusalV, hc1, hlt1]
  exact ⟨HT.out.symm, onlyL_catch HO.out (Nat.le_succ _), fun h0 => by have := HT.out; omega⟩

set_option maxRecDepth 100000 in
set_option maxHeartbeats 8000000 in
theorem take_arg (L : Lay) (s : Ch) (p : Po) (w : World) (hp : p.Wf) (h : ChAt w L s) (hn : s.n < 400) (hok : ¬ okPo p) :
    Calls Tryz.prog 36 #[.pointer (some ⟨L.c, 0, none⟩), .agg #[.int .i64 p.id, .int .i64 p.hour, .int .u8 p.kind, .int .i64 p.party, .int .i64 p.parcel, .int .i64 p.amount, .int .i64 p.reason, .int .i64 p.known]] w fun r w' =>
      r = .returned (.int .i64 (takeE s p)) ∧ OnlyL L w w' ∧ (takeE s p = 0 → ChAt w' L (takeS s p)) := by
  have hmf : ∀ (fn : Fn) (first cap : Array Value) (w : World), (Instr.makeFunc fn first cap).run Tryz.prog w = .ok (.func fn first cap) w := fun _ _ _ _ => rfl
  have hmem : ¬ L.mem w.heap.size ∧ ¬ L.mem (w.heap.size + 1) := ⟨fun hk => by have := h.mem_lt hk; omega, fun hk => by have := h.mem_lt hk; omega⟩
  have Hmem := Lib.hid hmem
  have hbx := (BoxPo.made w p 23).below' ((Below.refl _ _).alloc (Nat.le_refl _) (.cells #[.int .i64 0] 25))
  have hch := (h.alloc (.cells #[.int .i64 p.id, .int .i64 p.hour, .int .u8 p.kind, .int .i64 p.party, .int .i64 p.parcel, .int .i64 p.amount, .int .i64 p.reason, .int .i64 p.known] 23)).alloc (.cells #[.int .i64 0] 25)
  have hE : ResE ((w.alloc (.cells #[.int .i64 p.id, .int .i64 p.hour, .int .u8 p.kind, .int .i64 p.party, .int .i64 p.parcel, .int .i64 p.amount, .int .i64 p.reason, .int .i64 p.known] 23)).alloc (.cells #[.int .i64 0] 25)) (w.heap.size + 1) := by
    have := heap_alloc_new (w.alloc (.cells #[.int .i64 p.id, .int .i64 p.hour, .int .u8 p.kind, .int .i64 p.party, .int .i64 p.parcel, .int .i64 p.amount, .int .i64 p.reason, .int .i64 p.known] 23)) (.cells #[.int .i64 0] 25)
    simpa [ResE] using this
  have HO := Lib.hid (onlyL_of_below (((Below.refl w.heap.size w).alloc (Nat.le_refl _) (.cells #[.int .i64 p.id, .int .i64 p.hour, .int .u8 p.kind, .int .i64 p.party, .int .i64 p.parcel, .int .i64 p.amount, .int .i64 p.reason, .int .i64 p.known] 23)).alloc (by simp) (.cells #[.int .i64 0] 25)) L)
  have d0 := h.cs.1
  have dlt : L.c < w.heap.size := h.mem_lt (.inl rfl)
  have HT := Lib.hid (takeE_1 hn hok)
  have Hok := Lib.hid hok
  clear hok h hmem
  go_enter_defers Tryz.func36, Tryz.ntmps36
  have hd : decide (s.n < 400) = true := by simp; omega
  go_wp2_with fail
  clear d0
  change ChAt ((w.alloc (.cells #[.int .i64 p.id, .int .i64 p.hour, .int .u8 p.kind, .int .i64 p.party, .int .i64 p.parcel, .int .i64 p.amount, .int .i64 p.reason, .int .i64 p.known] 23)).alloc (.cells #[.int .i64 0] 25)) L s at hch
  generalize ((w.alloc (.cells #[.int .i64 p.id, .int .i64 p.hour, .int .u8 p.kind, .int .i64 p.party, .int .i64 p.parcel, .int .i64 p.amount, .int .i64 p.reason, .int .i64 p.known] 23)).alloc (.cells #[.int .i64 0] 25)) = W at *
  clear hd
  obtain ⟨q0, q1, q2, q3, q4, q5, q6, q7⟩ := hbx.cells
  obtain ⟨c0, c1, c2, c3, c4, c5, c6⟩ := hch.cs
  refine (unless_yes 2 _).mono ?_
  rintro r w2 ⟨rfl, hw2⟩
  replace hw2 := hw2.symm
  subst hw2
  go_wp2_with fail
  have hcb : (chkPo p == 0) = false := by rw [chkPo, if_neg Hok.out]; rfl
  refine (checkPosting_any p _ hp.kind.1 hp.kind.2).mono ?_
  rintro r w2 ⟨rfl, hB2⟩
  have hch := hch.below' hB2
  have hbx := hbx.below' hB2
  have hE := hE.below' hB2
  have HO := Lib.hid (HO.out.trans (onlyL_of_below hB2 L))
  clear hB2
  clear q0 q1 q2 q3 q4 q5 q6 q7 c0 c1 c2 c3 c4 c5 c6
  generalize w2 = W at *
  obtain ⟨q0, q1, q2, q3, q4, q5, q6, q7⟩ := hbx.cells
  obtain ⟨c0, c1, c2, c3, c4, c5, c6⟩ := hch.cs
  go_wp2_with fail
  refine (unless_no 1 _).mono ?_
  rintro r w2 ⟨rfl, hw2⟩
  replace hw2 := hw2.symm
  subst hw2
  clear hcb
  go_wp2_with fail
  refine leaves_cons (f := 67) (args := #[.pointer (some ⟨w.heap.size + 1, 0, none⟩)]) (by simp) (by simp [go_sem]) ?_
  refine (catch_refusal (w.heap.size + 1) 0 _ [] _ hE.cell hE.free).mono ?_
  rintro r u' w'' ⟨rfl, rfl, rfl⟩
  have hc1 := hE.cell
  have hlt1 := hE.lt
  simp [Leaves, settle, results, Tryz.results36, go_sem, refusalV, hc1, hlt1]
  exact ⟨HT.out.symm, onlyL_catch HO.out (Nat.le_succ _), fun h0 => by have := HT.out; omega⟩

set_option maxRecDepth 100000 in
set_option maxHeartbeats 8000000 in
theorem take_id (L : Lay) (s : Ch) (p : Po) (w : World) (hp : p.Wf) (h : ChAt w L s) (hn : s.n < 400) (hok : okPo p) (hid : getB s.ids p.id = true) :
    Calls Tryz.prog 36 #[.pointer (some ⟨L.c, 0, none⟩), .agg #[.int .i64 p.id, .int .i64 p.hour, .int .u8 p.kind, .int .i64 p.party, .int .i64 p.parcel, .int .i64 p.amount, .int .i64 p.reason, .int .i64 p.known]] w fun r w' =>
      r = .returned (.int .i64 (takeE s p)) ∧ OnlyL L w w' ∧ (takeE s p = 0 → ChAt w' L (takeS s p)) := by
  have hmf : ∀ (fn : Fn) (first cap : Array Value) (w : World), (Instr.makeFunc fn first cap).run Tryz.prog w = .ok (.func fn first cap) w := fun _ _ _ _ => rfl
  have hmem : ¬ L.mem w.heap.size ∧ ¬ L.mem (w.heap.size + 1) := ⟨fun hk => by have := h.mem_lt hk; omega, fun hk => by have := h.mem_lt hk; omega⟩
  have Hmem := Lib.hid hmem
  have hbx := (BoxPo.made w p 23).below' ((Below.refl _ _).alloc (Nat.le_refl _) (.cells #[.int .i64 0] 25))
  have hch := (h.alloc (.cells #[.int .i64 p.id, .int .i64 p.hour, .int .u8 p.kind, .int .i64 p.party, .int .i64 p.parcel, .int .i64 p.amount, .int .i64 p.reason, .int .i64 p.known] 23)).alloc (.cells #[.int .i64 0] 25)
  have hE : ResE ((w.alloc (.cells #[.int .i64 p.id, .int .i64 p.hour, .int .u8 p.kind, .int .i64 p.party, .int .i64 p.parcel, .int .i64 p.amount, .int .i64 p.reason, .int .i64 p.known] 23)).alloc (.cells #[.int .i64 0] 25)) (w.heap.size + 1) := by
    have := heap_alloc_new (w.alloc (.cells #[.int .i64 p.id, .int .i64 p.hour, .int .u8 p.kind, .int .i64 p.party, .int .i64 p.parcel, .int .i64 p.amount, .int .i64 p.reason, .int .i64 p.known] 23)) (.cells #[.int .i64 0] 25)
    simpa [ResE] using this
  have HO := Lib.hid (onlyL_of_below (((Below.refl w.heap.size w).alloc (Nat.le_refl _) (.cells #[.int .i64 p.id, .int .i64 p.hour, .int .u8 p.kind, .int .i64 p.party, .int .i64 p.parcel, .int .i64 p.amount, .int .i64 p.reason, .int .i64 p.known] 23)).alloc (by simp) (.cells #[.int .i64 0] 25)) L)
  have d0 := h.cs.1
  have dlt : L.c < w.heap.size := h.mem_lt (.inl rfl)
  have HT := Lib.hid (takeE_6 hn hok hid)
  have Hok := Lib.hid hok
  have Hid1 := Lib.hid hid
  clear hok hid h hmem
  go_enter_defers Tryz.func36, Tryz.ntmps36
  have hd : decide (s.n < 400) = true := by simp; omega
  go_wp2_with fail
  clear d0
  change ChAt ((w.alloc (.cells #[.int .i64 p.id, .int .i64 p.hour, .int .u8 p.kind, .int .i64 p.party, .int .i64 p.parcel, .int .i64 p.amount, .int .i64 p.reason, .int .i64 p.known] 23)).alloc (.cells #[.int .i64 0] 25)) L s at hch
  generalize ((w.alloc (.cells #[.int .i64 p.id, .int .i64 p.hour, .int .u8 p.kind, .int .i64 p.party, .int .i64 p.parcel, .int .i64 p.amount, .int .i64 p.reason, .int .i64 p.known] 23)).alloc (.cells #[.int .i64 0] 25)) = W at *
  clear hd
  obtain ⟨q0, q1, q2, q3, q4, q5, q6, q7⟩ := hbx.cells
  obtain ⟨c0, c1, c2, c3, c4, c5, c6⟩ := hch.cs
  refine (unless_yes 2 _).mono ?_
  rintro r w2 ⟨rfl, hw2⟩
  replace hw2 := hw2.symm
  subst hw2
  go_wp2_with fail
  have hcb : (chkPo p == 0) = true := by rw [chkPo, if_pos Hok.out]; rfl
  refine (checkPosting_any p _ hp.kind.1 hp.kind.2).mono ?_
  rintro r w2 ⟨rfl, hB2⟩
  have hch := hch.below' hB2
  have hbx := hbx.below' hB2
  have hE := hE.below' hB2
  have HO := Lib.hid (HO.out.trans (onlyL_of_below hB2 L))
  clear hB2
  clear q0 q1 q2 q3 q4 q5 q6 q7 c0 c1 c2 c3 c4 c5 c6
  generalize w2 = W at *
  obtain ⟨q0, q1, q2, q3, q4, q5, q6, q7⟩ := hbx.cells
  obtain ⟨c0, c1, c2, c3, c4, c5, c6⟩ := hch.cs
  go_wp2_with fail
  refine (unless_yes 1 _).mono ?_
  rintro r w2 ⟨rfl, hw2⟩
  replace hw2 := hw2.symm
  subst hw2
  clear hcb
  have l4 : (Instr.lookup 73 (.map (some L.ids)) (.int .i64 p.id) false).run Tryz.prog W.drew = .ok (.bool true) W.drew := (look_bool hch.drew.ids hp.id).trans (by rw [Hid1.out])
  go_wp2_with fail
  go_still_tail 8, (by kernel_rfl)
  change wpList _ _ _ _ _ W.drew
  go_wp2_with fail
  refine (unless_no 6 _).mono ?_
  rintro r w2 ⟨rfl, hw2⟩
  replace hw2 := hw2.symm
  subst hw2
  clear l4
  have hE := hE.drewN 1
  have HO := Lib.hid (HO.out.trans (onlyL_of_below below_drew1 L))
  change ResE W.drew (w.heap.size + 1) at hE
  clear hch hbx
  clear q0 q1 q2 q3 q4 q5 q6 q7 c0 c1 c2 c3 c4 c5 c6
  generalize W.drew = W at *
  go_wp2_with fail
  refine leaves_cons (f := 67) (args := #[.pointer (some ⟨w.heap.size + 1, 0, none⟩)]) (by simp) (by simp [go_sem]) ?_
  refine (catch_refusal (w.heap.size + 1) 0 _ [] _ hE.cell hE.free).mono ?_
  rintro r u' w'' ⟨rfl, rfl, rfl⟩
  have hc1 := hE.cell
  have hlt1 := hE.lt
  simp [Leaves, settle, results, Tryz.results36, go_sem, refusalV, hc1, hlt1]
  exact ⟨HT.out.symm, onlyL_catch HO.out (Nat.le_succ _), fun h0 => by have := HT.out; omega⟩

set_option maxRecDepth 100000 in
set_option maxHeartbeats 8000000 in
theorem take_time (L : Lay) (s : Ch) (p : Po) (w : World) (hp : p.Wf) (h : ChAt w L s) (hn : s.n < 400) (hok : okPo p) (hid : getB s.ids p.id = false) (hh : p.hour < s.hour) :
    Calls Tryz.prog 36 #[.pointer (some ⟨L.c, 0, none⟩), .agg #[.int .i64 p.id, .int .i64 p.hour, .int .u8 p.kind, .int .i64 p.party, .int .i64 p.parcel, .int .i64 p.amount, .int .i64 p.reason, .int .i64 p.known]] w fun r w' =>
      r = .returned (.int .i64 (takeE s p)) ∧ OnlyL L w w' ∧ (takeE s p = 0 → ChAt w' L (takeS s p)) := by
  have hmf : ∀ (fn : Fn) (first cap : Array Value) (w : World), (Instr.makeFunc fn first cap).run Tryz.prog w = .ok (.func fn first cap) w := fun _ _ _ _ => rfl
  have hmem : ¬ L.mem w.heap.size ∧ ¬ L.mem (w.heap.size + 1) := ⟨fun hk => by have := h.mem_lt hk; omega, fun hk => by have := h.mem_lt hk; omega⟩
  have Hmem := Lib.hid hmem
  have hbx := (BoxPo.made w p 23).below' ((Below.refl _ _).alloc (Nat.le_refl _) (.cells #[.int .i64 0] 25))
  have hch := (h.alloc (.cells #[.int .i64 p.id, .int .i64 p.hour, .int .u8 p.kind, .int .i64 p.party, .int .i64 p.parcel, .int .i64 p.amount, .int .i64 p.reason, .int .i64 p.known] 23)).alloc (.cells #[.int .i64 0] 25)
  have hE : ResE ((w.alloc (.cells #[.int .i64 p.id, .int .i64 p.hour, .int .u8 p.kind, .int .i64 p.party, .int .i64 p.parcel, .int .i64 p.amount, .int .i64 p.reason, .int .i64 p.known] 23)).alloc (.cells #[.int .i64 0] 25)) (w.heap.size + 1) := by
    have := heap_alloc_new (w.alloc (.cells #[.int .i64 p.id, .int .i64 p.hour, .int .u8 p.kind, .int .i64 p.party, .int .i64 p.parcel, .int .i64 p.amount, .int .i64 p.reason, .int .i64 p.known] 23)) (.cells #[.int .i64 0] 25)
    simpa [ResE] using this
  have HO := Lib.hid (onlyL_of_below (((Below.refl w.heap.size w).alloc (Nat.le_refl _) (.cells #[.int .i64 p.id, .int .i64 p.hour, .int .u8 p.kind, .int .i64 p.party, .int .i64 p.parcel, .int .i64 p.amount, .int .i64 p.reason, .int .i64 p.known] 23)).alloc (by simp) (.cells #[.int .i64 0] 25)) L)
  have d0 := h.cs.1
  have dlt : L.c < w.heap.size := h.mem_lt (.inl rfl)
  have HT := Lib.hid (takeE_7 hn hok hid hh)
  have Hok := Lib.hid hok
  have Hid1 := Lib.hid hid
  clear hok hid h hmem
  go_enter_defers Tryz.func36, Tryz.ntmps36
  have hd : decide (s.n < 400) = true := by simp; omega
  go_wp2_with fail
  clear d0
  change ChAt ((w.alloc (.cells #[.int .i64 p.id, .int .i64 p.hour, .int .u8 p.kind, .int .i64 p.party, .int .i64 p.parcel, .int .i64 p.amount, .int .i64 p.reason, .int .i64 p.known] 23)).alloc (.cells #[.int .i64 0] 25)) L s at hch
  generalize ((w.alloc (.cells #[.int .i64 p.id, .int .i64 p.hour, .int .u8 p.kind, .int .i64 p.party, .int .i64 p.parcel, .int .i64 p.amount, .int .i64 p.reason, .int .i64 p.known] 23)).alloc (.cells #[.int .i64 0] 25)) = W at *
  clear hd
  obtain ⟨q0, q1, q2, q3, q4, q5, q6, q7⟩ := hbx.cells
  obtain ⟨c0, c1, c2, c3, c4, c5, c6⟩ := hch.cs
  refine (unless_yes 2 _).mono ?_
  rintro r w2 ⟨rfl, hw2⟩
  replace hw2 := hw2.symm
  subst hw2
  go_wp2_with fail
  have hcb : (chkPo p == 0) = true := by rw [chkPo, if_pos Hok.out]; rfl
  refine (checkPosting_any p _ hp.kind.1 hp.kind.2).mono ?_
  rintro r w2 ⟨rfl, hB2⟩
  have hch := hch.below' hB2
  have hbx := hbx.below' hB2
  have hE := hE.below' hB2
  have HO := Lib.hid (HO.out.trans (onlyL_of_below hB2 L))
  clear hB2
  clear q0 q1 q2 q3 q4 q5 q6 q7 c0 c1 c2 c3 c4 c5 c6
  generalize w2 = W at *
  obtain ⟨q0, q1, q2, q3, q4, q5, q6, q7⟩ := hbx.cells
  obtain ⟨c0, c1, c2, c3, c4, c5, c6⟩ := hch.cs
  go_wp2_with fail
  refine (unless_yes 1 _).mono ?_
  rintro r w2 ⟨rfl, hw2⟩
  replace hw2 := hw2.symm
  subst hw2
  clear hcb
  have l4 : (Instr.lookup 73 (.map (some L.ids)) (.int .i64 p.id) false).run Tryz.prog W.drew = .ok (.bool false) W.drew := (look_bool hch.drew.ids hp.id).trans (by rw [Hid1.out])
  go_wp2_with fail
  go_still_tail 8, (by kernel_rfl)
  change wpList _ _ _ _ _ W.drew
  go_wp2_with fail
  refine (unless_yes 6 _).mono ?_
  rintro r w2 ⟨rfl, hw2⟩
  replace hw2 := hw2.symm
  subst hw2
  clear l4
  go_wp2_with fail
  have hch := hch.drew
  have hbx := hbx.drewN 1
  have hE := hE.drewN 1
  have HO := Lib.hid (HO.out.trans (onlyL_of_below below_drew1 L))
  change BoxPo W.drew w.heap.size p at hbx
  change ResE W.drew (w.heap.size + 1) at hE
  clear q0 q1 q2 q3 q4 q5 q6 q7 c0 c1 c2 c3 c4 c5 c6
  generalize W.drew = W at *
  obtain ⟨q0, q1, q2, q3, q4, q5, q6, q7⟩ := hbx.cells
  obtain ⟨c0, c1, c2, c3, c4, c5, c6⟩ := hch.cs
  have hd5 : decide (s.hour ≤ p.hour) = false := by simp; omega
  go_wp2_with fail
  go_still_tail 7, (by kernel_rfl)
  change wpList _ _ _ _ _ W.drew
  go_wp2_with fail
  refine (unless_no 7 _).mono ?_
  rintro r w2 ⟨rfl, hw2⟩
  replace hw2 := hw2.symm
  subst hw2
  clear hd5
  have hE := hE.drewN 1
  have HO := Lib.hid (HO.out.trans (onlyL_of_below below_drew1 L))
  change ResE W.drew (w.heap.size + 1) at hE
  clear hch hbx
  clear q0 q1 q2 q3 q4 q5 q6 q7 c0 c1 c2 c3 c4 c5 c6
  generalize W.drew = W at *
  go_wp2_with fail
  refine leaves_cons (f := 67) (args := #[.pointer (some ⟨w.heap.size + 1, 0, none⟩)]) (by simp) (by simp [go_sem]) ?_
  refine (catch_refusal (w.heap.size + 1) 0 _ [] _ hE.cell hE.free).mono ?_
  rintro r u' w'' ⟨rfl, rfl, rfl⟩
  have hc1 := hE.cell
  have hlt1 := hE.lt
  simp [Leaves, settle, results, Tryz.results36, go_sem, refusalV, hc1, hlt1]
  exact ⟨HT.out.symm, onlyL_catch HO.out (Nat.le_succ _), fun h0 => by have := HT.out; omega⟩
end Go.Proofs.YtjleembfocghlaaGreatDoor
