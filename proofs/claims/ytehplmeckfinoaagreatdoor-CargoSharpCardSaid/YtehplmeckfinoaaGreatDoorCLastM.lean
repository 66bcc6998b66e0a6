/- The state of last's loop over what is found. -/
import Derived.Test.YtehplmeckfinoaaGreatDoorCCountIt
import Derived.Test.YtehplmeckfinoaaGreatDoorCGood
import Derived.Test.YtehplmeckfinoaaGreatDoorCSort
import Derived.Test.YtehplmeckfinoaaGreatDoorCNode
import Derived.Test.YtehplmeckfinoaaGreatDoorRange
import Derived.Maps.AppendAt
set_option linter.unusedSimpArgs false
set_option linter.unusedVariables false
namespace Go.Proofs.YtehplmeckfinoaaGreatDoor
open Go.RowKit Go.Shelf
open Go.Maps (Keyed)
attribute [local go_sem] Oper.semAt_some
def ManiPost (w : World) (ps ts : List Pa) (e : Ending) (w' : World) : Prop :=
 ∃ pa pn pc ta tn tc, e = .returned (.agg #[.slice pa pn pc, .slice ta tn tc]) ∧ w'.ownsRow w.heap.size 42 14 (.slice pa pn pc) ps.length (ps.flatMap Pa.vals) ∧ w'.ownsRow w.heap.size 42 14 (.slice ta tn tc) ts.length (ts.flatMap Pa.vals) ∧ Below w.heap.size w w'
theorem last_made (loss : Int) (w : World) :
 ((((w.alloc (.cells #[.int .i64 loss] 3)).alloc (.cells #[.slice none 0 0, .slice none 0 0] 62)).alloc (.map #[] 0)).alloc (.cells #[.map (some (w.heap.size + 1 + 1))] 162)).cell? ⟨w.heap.size, 0, none⟩ = some (.int .i64 loss) ∧ BoxG ((((w.alloc (.cells #[.int .i64 loss] 3)).alloc (.cells #[.slice none 0 0, .slice none 0 0] 62)).alloc (.map #[] 0)).alloc (.cells #[.map (some (w.heap.size + 1 + 1))] 162)) (w.heap.size + 1) [.slice none 0 0, .slice none 0 0] ∧ MapT Tryz.prog 166 kKey vPa ((((w.alloc (.cells #[.int .i64 loss] 3)).alloc (.cells #[.slice none 0 0, .slice none 0 0] 62)).alloc (.map #[] 0)).alloc (.cells #[.map (some (w.heap.size + 1 + 1))] 162)) (w.heap.size + 1 + 1) ([] : List ((Int × Bool) × Pa)) ∧
   ((((w.alloc (.cells #[.int .i64 loss] 3)).alloc (.cells #[.slice none 0 0, .slice none 0 0] 62)).alloc (.map #[] 0)).alloc (.cells #[.map (some (w.heap.size + 1 + 1))] 162)).cell? ⟨w.heap.size + 1 + 1 + 1, 0, none⟩ = some (.map (some (w.heap.size + 1 + 1))) ∧ Below w.heap.size w ((((w.alloc (.cells #[.int .i64 loss] 3)).alloc (.cells #[.slice none 0 0, .slice none 0 0] 62)).alloc (.map #[] 0)).alloc (.cells #[.map (some (w.heap.size + 1 + 1))] 162)) ∧ ((((w.alloc (.cells #[.int .i64 loss] 3)).alloc (.cells #[.slice none 0 0, .slice none 0 0] 62)).alloc (.map #[] 0)).alloc (.cells #[.map (some (w.heap.size + 1 + 1))] 162)).heap.size = w.heap.size + 1 + 1 + 1 + 1 := by
 have k1 : (w.alloc (.cells #[.int .i64 loss] 3)).cell? ⟨w.heap.size, 0, none⟩ = some (.int .i64 loss) := by rw [cell_of_row _ _ _ _ _ (0, 0) (heap_alloc_new w _)]; rfl
 have k2 := BoxG.made (w.alloc (.cells #[.int .i64 loss] 3)) [.slice none 0 0, .slice none 0 0] 62
 have s1 : (w.alloc (.cells #[.int .i64 loss] 3)).heap.size = w.heap.size + 1 := by simp
 have s2 : ((w.alloc (.cells #[.int .i64 loss] 3)).alloc (.cells #[.slice none 0 0, .slice none 0 0] 62)).heap.size = w.heap.size + 1 + 1 := by simp
 have s3 : (((w.alloc (.cells #[.int .i64 loss] 3)).alloc (.cells #[.slice none 0 0, .slice none 0 0] 62)).alloc (.map #[] 0)).heap.size = w.heap.size + 1 + 1 + 1 := by simp
 have k3 := MapT.made (P := Tryz.prog) (K := 166) (ke := kKey) (ve := vPa) ((w.alloc (.cells #[.int .i64 loss] 3)).alloc (.cells #[.slice none 0 0, .slice none 0 0] 62))
 have k4 := heap_alloc_new (((w.alloc (.cells #[.int .i64 loss] 3)).alloc (.cells #[.slice none 0 0, .slice none 0 0] 62)).alloc (.map #[] 0)) (.cells #[.map (some (w.heap.size + 1 + 1))] 162)
 rw [s1] at k2
 rw [s2] at k3
 rw [s3] at k4
 exact ⟨cell_stays k1 (al' (al' (al' (Below.refl _ _) _) _) _), BoxG.below' k2 (al' (al' (Below.refl _ _) _) _), k3.alloc _, by rw [cell_of_row _ _ _ _ _ (0, 0) k4]; rfl, al' (al' (al' (al' (Below.refl _ _) _) _) _) _, by simp⟩
theorem ownFrom_but {β : Type} {bx n₀ : Nat} {w₀ : World} (hn : n₀ ≤ w₀.heap.size) : OwnFrom n₀ (fun (_ : β) W => But bx n₀ w₀ W) :=
 fun _ _ _ _ hs hg hr => hs.grown hg hn (fun k e => .inr (hr k e).1)
theorem own_found {bm n₀ : Nat} {loss : Int} {xs : List Pa} (hb : bm < n₀) : OwnFrom n₀ (fun (pre : List (PaOf xs)) W => MapT Tryz.prog 166 kKey vPa W bm (foundL (pre.map (·.1)) loss)) :=
 fun _ _ _ _ hs hg hr => hs.grown hg (fun e => by have := (hr bm e.symm).1; omega)
theorem keepsFrom_grown {W W' : World} {B b : Nat} (hg : W.grownBy W' (some b)) (hb : b < B) : KeepsFrom B W W' :=
 ⟨hg.size, fun k o hk ho _ => (hg.block k (Array.getElem?_eq_some_iff.1 ho).1 (fun e => by cases e; omega)).trans ho⟩
section
variable {κ ν : Type} {F : Fence} {n : Nat} {P : Program} {ke : κ → Value} {ve : ν → Value} (w : World) {ops : Array Oper} {rest : List Oper} {o : Oper} {a : Act} {Q : Exit → Act → World → Prop} {b r : Nat} {m : List (κ × ν)} {js : List Nat}
def NextMoreI (F : Fence) (n : Nat) (P : Program) (ke : κ → Value) (ve : ν → Value) (w : World) (ops : Array Oper) (rest : List Oper) (o : Oper) (a : Act) (Q : Exit → Act → World → Prop) (b r : Nat) (m : List (κ × ν)) (js : List Nat) : Prop :=
 ∀ (j : Nat) (x : κ × ν) (w' : World), j ∉ js → m[j]? = some x → js.length < m.length → RangeT ke ve w' b r m (js ++ [j]) → w'.rangeLeft b r < w.rangeLeft b r →
  w.grownBy w' (some r) → w'.heap.size = w.heap.size → (Instr.entry (.pointer (some ⟨r, 0, none⟩))).run P w' = .ok (.tuple #[ke x.1, ve x.2]) w' → wpListIn F n P ops Q rest (a.put o.dst (.tuple #[.bool true, ke x.1, ve x.2])) w'
def NextDoneI (F : Fence) (n : Nat) (P : Program) (ops : Array Oper) (rest : List Oper) (o : Oper) (a : Act) (Q : Exit → Act → World → Prop) (w : World) (m : List (κ × ν)) (js : List Nat) : Prop := (picks m js).Perm m → wpListIn F n P ops Q rest (a.put o.dst (.tuple #[.bool false])) w
theorem wpListIn_next_N (hg : o.guard = none) (it : Operand) (hop : o.op = Op.next it false)
 (hit : a.eval it = .pointer (some ⟨r, 0, none⟩)) (h : RangeT ke ve w b r m js) (hDone : NextDoneI F n P ops rest o a Q w m js) (hMore : NextMoreI F n P ke ve w ops rest o a Q b r m js) : wpListIn F n P ops Q (o :: rest) a w :=
 wpListIn_next_T w hg it hop hit h hDone hMore
end
def rsA (a : Option Addr) : List Nat := (a.map Addr.block).toList
structure LastAt (w3 wr : World) (b2 B9 It : Nat) (M : List ((Int × Bool) × Pa)) (js : List Nat) (pa : Option Addr) (pn pc : Nat) (ta : Option Addr) (tn tc : Nat) (ps ts : List Pa) : Prop where
 rg : RangeT kKey vPa wr b2 It M js
 bx : BoxG wr B9 [.slice pa pn pc, .slice ta tn tc]
 op : wr.ownsRow w3.heap.size 42 14 (.slice pa pn pc) pn (ps.flatMap Pa.vals)
 ot : wr.ownsRow w3.heap.size 42 14 (.slice ta tn tc) tn (ts.flatMap Pa.vals)
 np : ps.length = pn
 nt : ts.length = tn
 dj : ∀ r ∈ rsA pa, r ∉ rsA ta
 kp : Keeps [B9, It] w3 wr
theorem grownBy_set0 (W : World) (b o : Nat) (v : Value) : W.grownBy (W.setCell ⟨b, o, none⟩ v) (some b) :=
 ⟨rfl, rfl, rfl, by simp [World.setCell], fun k _ hk => Below.heap_setCell _ _ _ _ (fun e => hk (by rw [e]))⟩
theorem mem_rsA {a : Option Addr} {x : Nat} (h : x ∈ rsA a) : ∃ p, a = some p ∧ p.block = x := by
 unfold rsA at h
 cases a with
 | none => simp at h
 | some p => simp at h; exact ⟨p, rfl, h.symm⟩
theorem own_rsA {w : World} {base k n cap m : Nat} {e : TypeId} {a : Option Addr} {xs : List Value} (h : w.ownsRow base e k (.slice a n cap) m xs) : ∀ x ∈ rsA a, base ≤ x ∧ x < w.heap.size := by
 intro x hx
 obtain ⟨p, rfl, rfl⟩ := mem_rsA hx
 exact h.lt p.block (by simp [Value.ownBlock])
theorem own_block_rsA {a : Option Addr} {n cap r : Nat} (h : (Value.slice a n cap).ownBlock = some r) : r ∈ rsA a := by
 cases a with
 | none => simp [Value.ownBlock] at h
 | some q => simp [Value.ownBlock] at h; simp [rsA, h]
theorem BoxG.keeps {S : List Nat} {w w' : World} {B : Nat} {cs : List Value} (h : BoxG w B cs) (hk : Keeps S w w') (hn : B ∉ S) : BoxG w' B cs :=
 ⟨Nat.lt_of_lt_of_le h.1 hk.size, fun j => (hk.frozen (a := ⟨B, j, none⟩) h.1 hn).trans (h.2.1 j), fun j hj => (hk.cell? (a := ⟨B, j, none⟩) h.1 hn).trans (h.2.2 j hj)⟩
theorem wpListIn_append_own_at {F : Fence} {n : Nat} {P : Program} (w : World) {ops : Array Oper} {rest : List Oper} {o : Oper} {a : Act} {Q : Exit → Act → World → Prop}
 (hg : o.guard = none) (s x : Operand) (t : TypeId) (hop : o.op = Op.call { callee := Callee.builtin Builtin.append, args := #[s, x], argTypes := #[t, t] })
 (base : Nat) (e : TypeId) (i : TypeInfo) (z : Value) (size bytes : Nat) (h1 : P.underlying t = some (.slice e)) (h2 : P.info? e = some i) (h3 : i.zero = some z) (h4 : i.size = size) (h5 : i.bytes = bytes) (h6 : z.cells.size = size) (h7 : 0 < size)
 (v : Value) (k : Nat) (xs : List Value) (hs : a.eval s = v) (hown : w.ownsRow base e size v k xs) (ad : Addr) (m c : Nat) (news : List Value) (hx : a.eval x = .slice (some ad) m c) (hn : news.length = m * size)
 (hc : ∀ j u, news[j]? = some u → w.cell? (ad.add j) = some u) (h1c : ∀ u ∈ news, u.oneCell' = true) (b1 : k + m ≤ maxLen) (b2 : (k + m) * bytes ≤ 140737488355328) (b3 : base ≤ w.heap.size)
 (hK : ∀ v' w', w'.ownsRow base e size v' (k + m) (xs ++ news) → w.grownBy w' v.ownBlock → (v'.ownBlock = v.ownBlock ∨ v'.ownBlock = some w.heap.size) → wpListIn F n P ops Q rest (a.put o.dst v') w') :
 wpListIn F n P ops Q (o :: rest) a w := by
 refine wpListIn_plain hg fun K hK' => ?_
 obtain ⟨v', w', hrun, r1, r2, r3, r4⟩ := run_append_own_at (P := P) w base t o.type e i z size bytes h1 h2 h3 h4 h5 h6 h7 v k xs hown ad m c news hn hc h1c b1 b2 b3
 unfold Oper.wpIn
 refine ⟨?_, ?_⟩
 · simp [Oper.about, hop, resolve, Target.leads, Sem.run_pure]
 · rw [Oper.semAt_plain F _ _ (by rw [hop]; intro c hc'; cases hc')]
   simp [execOp, hop, resolve, invoke, builtin, hs, hx, hrun, Result.andThen]
   exact hK' _ _ (hK v' w' r1 r2 r4)
section
variable {w3 wr : World} {b2 B9 It : Nat} {M : List ((Int × Bool) × Pa)} {js js' : List Nat} {pa : Option Addr} {pn pc : Nat} {ta : Option Addr} {tn tc : Nat} {ps ts : List Pa}
theorem LastAt.next (h : LastAt w3 wr b2 B9 It M js pa pn pc ta tn tc ps ts) {w4 w7 : World} (hrg : RangeT kKey vPa w4 b2 It M js') (hg : wr.grownBy w4 (some It)) (hB : Below w4.heap.size w4 w7) (h1 : B9 < It) (h2 : It < w3.heap.size) :
 LastAt w3 w7 b2 B9 It M js' pa pn pc ta tn tc ps ts := by
 have hk4 : Keeps [It] wr w4 := Keeps.of_grown hg
 have hk : Keeps [It] wr w7 := hk4.then_below hB
 refine ⟨hrg.kept (grown_of_below hB) (by simp) (by simp), h.bx.keeps hk (fun e => by have := List.mem_singleton.1 e; omega), hk.own h.op (fun r e hm => ?_), hk.own h.ot (fun r e hm => ?_), h.np, h.nt, h.dj, h.kp.trans (hk.mono (fun y hy => by rw [List.mem_singleton.1 hy]; simp))⟩
 · have h3 := (h.op.lt r e).1
   have h4 := List.mem_singleton.1 hm
   omega
 · have h3 := (h.ot.lt r e).1
   have h4 := List.mem_singleton.1 hm
   omega
theorem LastAt.putP (h : LastAt w3 wr b2 B9 It M js pa pn pc ta tn tc ps ts) {w8 : World} {ob : Obj} {pa' : Option Addr} {pc' : Nat} {x : Pa} (hg : (wr.alloc ob).grownBy w8 (Value.slice pa pn pc).ownBlock)
 (hat : (Value.slice pa' (pn + 1) pc').ownBlock = (Value.slice pa pn pc).ownBlock ∨ (Value.slice pa' (pn + 1) pc').ownBlock = some (wr.alloc ob).heap.size)
 (hown : w8.ownsRow w3.heap.size 42 14 (.slice pa' (pn + 1) pc') (pn + 1) ((ps ++ [x]).flatMap Pa.vals)) (h1 : B9 < It) (h2 : It < w3.heap.size) (h3 : b2 < B9) :
 LastAt w3 (w8.setCell ⟨B9, 0, none⟩ (.slice pa' (pn + 1) pc')) b2 B9 It M js pa' (pn + 1) pc' ta tn tc (ps ++ [x]) ts := by
 have hrp := own_rsA h.op
 have hrt := own_rsA h.ot
 have hs := h.kp.size
 have hk8 : Keeps (rsA pa) wr w8 := (Keeps.of_below (S := rsA pa) (al' (Below.refl _ _) ob)).trans (Keeps.of_grown' hg (fun r e => own_block_rsA e))
 have hk9 : Keeps [B9] w8 (w8.setCell ⟨B9, 0, none⟩ (.slice pa' (pn + 1) pc')) := Keeps.setCell w8 ⟨B9, 0, .none⟩ _
 have n1 : B9 ∉ rsA pa := fun e => by have := hrp _ e; omega
 refine ⟨?_, ?_, hk9.own hown (fun r e hm => ?_), hk9.own (hk8.own h.ot (fun r e hm => ?_)) (fun r e hm => ?_), by rw [List.length_append, h.np]; rfl, h.nt, fun r hr hr2 => ?_, ?_⟩
 · refine ((h.rg.kept (World.grownBy_alloc wr ob none) (by simp) (by simp)).kept hg (fun e => ?_) (fun e => ?_)).kept (grownBy_set0 _ _ _ _) (fun e => ?_) (fun e => ?_)
   · have := hrp _ (own_block_rsA e.symm); omega
   · have := hrp _ (own_block_rsA e.symm); omega
   · have := Option.some.inj e; omega
   · have := Option.some.inj e; omega
 · have := (h.bx.keeps hk8 n1).set 0 (.slice pa' (pn + 1) pc') (by simp)
   simpa using this
 · have h4 := (hown.lt r e).1
   have h5 : r = B9 := List.mem_singleton.1 hm
   omega
 · exact h.dj r hm (own_block_rsA e)
 · have h4 := (h.ot.lt r e).1
   have h5 : r = B9 := List.mem_singleton.1 hm
   omega
 · have h4 := hrt r hr2
   obtain ⟨p, rfl, rfl⟩ := mem_rsA hr
   rcases hat with e | e
   · have : p.block ∈ rsA pa := own_block_rsA (by rw [← e]; simp [Value.ownBlock])
     exact h.dj _ this hr2
   · simp [Value.ownBlock] at e; omega
 · refine h.kp.of_later (hk8.mono (T := B9 :: rsA pa) (fun y hy => List.mem_cons_of_mem _ hy) |>.trans (hk9.mono (fun y hy => by rw [List.mem_singleton.1 hy]; simp))) (fun y hy => ?_)
   rcases List.mem_cons.1 hy with e | hy
   · left; simp [e]
   · right; exact (hrp y hy).1
theorem LastAt.putT (h : LastAt w3 wr b2 B9 It M js pa pn pc ta tn tc ps ts) {w8 : World} {ob : Obj} {ta' : Option Addr} {tc' : Nat} {x : Pa} (hg : (wr.alloc ob).grownBy w8 (Value.slice ta tn tc).ownBlock)
 (hat : (Value.slice ta' (tn + 1) tc').ownBlock = (Value.slice ta tn tc).ownBlock ∨ (Value.slice ta' (tn + 1) tc').ownBlock = some (wr.alloc ob).heap.size)
 (hown : w8.ownsRow w3.heap.size 42 14 (.slice ta' (tn + 1) tc') (tn + 1) ((ts ++ [x]).flatMap Pa.vals)) (h1 : B9 < It) (h2 : It < w3.heap.size) (h3 : b2 < B9) :
 LastAt w3 (w8.setCell ⟨B9, 1, none⟩ (.slice ta' (tn + 1) tc')) b2 B9 It M js pa pn pc ta' (tn + 1) tc' ps (ts ++ [x]) := by
 have hrp := own_rsA h.op
 have hrt := own_rsA h.ot
 have hs := h.kp.size
 have hk8 : Keeps (rsA ta) wr w8 := (Keeps.of_below (S := rsA ta) (al' (Below.refl _ _) ob)).trans (Keeps.of_grown' hg (fun r e => own_block_rsA e))
 have hk9 : Keeps [B9] w8 (w8.setCell ⟨B9, 1, none⟩ (.slice ta' (tn + 1) tc')) := Keeps.setCell w8 ⟨B9, 1, .none⟩ _
 have n1 : B9 ∉ rsA ta := fun e => by have := hrt _ e; omega
 refine ⟨?_, ?_, hk9.own (hk8.own h.op (fun r e hm => ?_)) (fun r e hm => ?_), hk9.own hown (fun r e hm => ?_), h.np, by rw [List.length_append, h.nt]; rfl, fun r hr hr2 => ?_, ?_⟩
 · refine ((h.rg.kept (World.grownBy_alloc wr ob none) (by simp) (by simp)).kept hg (fun e => ?_) (fun e => ?_)).kept (grownBy_set0 _ _ _ _) (fun e => ?_) (fun e => ?_)
   · have := hrt _ (own_block_rsA e.symm); omega
   · have := hrt _ (own_block_rsA e.symm); omega
   · have := Option.some.inj e; omega
   · have := Option.some.inj e; omega
 · have := (h.bx.keeps hk8 n1).set 1 (.slice ta' (tn + 1) tc') (by simp)
   simpa using this
 · exact h.dj r (own_block_rsA e) hm
 · have h4 := (h.op.lt r e).1
   have h5 : r = B9 := List.mem_singleton.1 hm
   omega
 · have h4 := (hown.lt r e).1
   have h5 : r = B9 := List.mem_singleton.1 hm
   omega
 · have h4 := hrp r hr
   obtain ⟨p, rfl, rfl⟩ := mem_rsA hr2
   rcases hat with e | e
   · have : p.block ∈ rsA ta := own_block_rsA (by rw [← e]; simp [Value.ownBlock])
     exact h.dj _ hr this
   · simp [Value.ownBlock] at e; omega
 · refine h.kp.of_later (hk8.mono (T := B9 :: rsA ta) (fun y hy => List.mem_cons_of_mem _ hy) |>.trans (hk9.mono (fun y hy => by rw [List.mem_singleton.1 hy]; simp))) (fun y hy => ?_)
   rcases List.mem_cons.1 hy with e | hy
   · left; simp [e]
   · right; exact (hrt y hy).1
end
theorem own_pa_next {w : World} {t : TypeId} {base : Nat} {v : Value} {ws : List Pa} {x : Pa} {n : Nat} (h : w.ownsRow base t 14 v (n + 1) (ws.flatMap Pa.vals ++ x.vals)) : w.ownsRow base t 14 v (n + 1) ((ws ++ [x]).flatMap Pa.vals) := by
 rw [List.flatMap_append]
 simpa using h
theorem But.box {bx n0 B : Nat} {w w' : World} {cs : List Value} (h : But bx n0 w w') (hb : BoxG w B cs) (hB : B < n0) (hne : B ≠ bx) : BoxG w' B cs := by
 refine ⟨Nat.lt_of_lt_of_le hb.1 h.size, fun j => ?_, fun j hj => (h.cell hB hne).trans (hb.2.2 j hj)⟩
 have := hb.2.1 j
 unfold World.frozen? at this ⊢
 rw [h.block B hB hne]; exact this
theorem mput_length {κ ν : Type} [DecidableEq κ] (m : List (κ × ν)) (k : κ) (v : ν) : (mput m k v).length ≤ m.length + 1 := by
 induction m with
 | nil => simp [mput]
 | cons x r ih => unfold mput; split <;> simp <;> omega
theorem foundL_length (loss : Int) : ∀ c : List Pa, (foundL c loss).length ≤ c.length := by
 refine foldl_snoc_ind (β := Unit) (by simp [foundL]) fun c x ih => ?_
 rw [foundL_snoc, List.length_append]
 unfold foundM
 split
 · have := mput_length (foundL c loss) (x.pack, decide (x.kind = 2)) x; simp; omega
 · simp; omega
theorem found_count {xs : List Pa} {known loss : Int} {n : Nat} (hn : xs.length = n) : (foundL (countL xs known) loss).length ≤ n := by
 have h1 := foundL_length loss (countL xs known)
 have h2 : (countL xs known).length ≤ xs.length := List.length_filter_le _ _
 omega
theorem filt_length {α β : Type} {l : List α} {p : α → Bool} {f : α → β} : ((l.filter p).map f).length ≤ l.length := by
 rw [List.length_map]; exact List.length_filter_le _ _
theorem count_sub {xs : List Pa} {known : Int} (x : Pa) (hx : x ∈ countL xs known) : x ∈ xs := by
 rw [countL_filter] at hx; exact (List.mem_filter.1 hx).1
theorem left_keeps {S : List Nat} {w w' : World} {b r : Nat} (h : Keeps S w w') (hb : b < w.heap.size) (hr : r < w.heap.size) (nb : b ∉ S) (nr : r ∉ S) : w'.rangeLeft b r = w.rangeLeft b r := by
 unfold World.rangeLeft
 rw [h.block b hb nb, h.block r hr nr]
theorem LastAt.left {w3 wr : World} {b2 B9 It : Nat} {M : List ((Int × Bool) × Pa)} {js : List Nat} {pa : Option Addr} {pn pc : Nat} {ta : Option Addr} {tn tc : Nat} {ps ts : List Pa} (h : LastAt w3 wr b2 B9 It M js pa pn pc ta tn tc ps ts) {w8 : World} {ob : Obj} {i : Nat} {v u : Value}
 (hu : u = .slice pa pn pc ∨ u = .slice ta tn tc) (hg : (wr.alloc ob).grownBy w8 u.ownBlock) (h1 : B9 < It) (h2 : It < w3.heap.size) (h3 : b2 < B9) : (w8.setCell ⟨B9, i, none⟩ v).rangeLeft b2 It = wr.rangeLeft b2 It := by
 have hrp := own_rsA h.op
 have hrt := own_rsA h.ot
 have hs := h.kp.size
 have hk : Keeps (B9 :: (rsA pa ++ rsA ta)) wr (w8.setCell ⟨B9, i, none⟩ v) := ((Keeps.of_below (S := B9 :: (rsA pa ++ rsA ta)) (al' (Below.refl _ _) ob)).trans (Keeps.of_grown' hg (fun r e => by
  rcases hu with rfl | rfl
  · exact List.mem_cons_of_mem _ (List.mem_append_left _ (own_block_rsA e))
  · exact List.mem_cons_of_mem _ (List.mem_append_right _ (own_block_rsA e))))).then_set _ _ (.inl (by simp))
 have hn : ∀ x, x < w3.heap.size → x ≠ B9 → x ∉ B9 :: (rsA pa ++ rsA ta) := fun x hx hne hm => by
  rcases List.mem_cons.1 hm with e | e
  · exact hne e
  · rcases List.mem_append.1 e with e | e
    · have := hrp _ e; omega
    · have := hrt _ e; omega
 exact left_keeps hk (by omega) (by omega) (hn _ (by omega) (by omega)) (hn _ (by omega) (by omega))
end Go.Proofs.YtehplmeckfinoaaGreatDoor
