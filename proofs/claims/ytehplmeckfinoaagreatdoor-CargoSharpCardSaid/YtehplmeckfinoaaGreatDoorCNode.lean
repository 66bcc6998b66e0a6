/- Trees of packages in memory (no dump). -/
import Derived.Test.YtehplmeckfinoaaGreatDoorCModel
import Derived.Test.YtehplmeckfinoaaGreatDoorRow
set_option linter.unusedSimpArgs false
set_option linter.unusedVariables false
namespace Go.Proofs.YtehplmeckfinoaaGreatDoor
open Go.RowKit
structure Keeps (S : List Nat) (w w' : World) : Prop where
 os : w'.os = w.os
 tape : w'.tape = w.tape
 output : w'.output = w.output
 size : w.heap.size ≤ w'.heap.size
 block : ∀ k, k < w.heap.size → k ∉ S → w'.heap[k]? = w.heap[k]?
theorem Keeps.refl (S : List Nat) (w : World) : Keeps S w w := ⟨rfl, rfl, rfl, Nat.le_refl _, fun _ _ _ => rfl⟩
theorem Keeps.trans {S : List Nat} {a b c : World} (h : Keeps S a b) (k : Keeps S b c) : Keeps S a c :=
 ⟨k.os.trans h.os, k.tape.trans h.tape, k.output.trans h.output, Nat.le_trans h.size k.size, fun i hi hn => (k.block i (Nat.lt_of_lt_of_le hi h.size) hn).trans (h.block i hi hn)⟩
theorem Keeps.mono {S T : List Nat} {a b : World} (h : Keeps S a b) (hs : ∀ x ∈ S, x ∈ T) : Keeps T a b := ⟨h.os, h.tape, h.output, h.size, fun i hi hn => h.block i hi (fun e => hn (hs i e))⟩
theorem Keeps.of_below {S : List Nat} {w w' : World} (h : Below w.heap.size w w') : Keeps S w w' := ⟨h.os, h.tape, h.output, h.size, fun i hi _ => h.block i hi⟩
theorem Keeps.of_later {S T : List Nat} {w w1 w2 : World} (h : Keeps S w w1) (k : Keeps T w1 w2) (hT : ∀ x ∈ T, x ∈ S ∨ w.heap.size ≤ x) : Keeps S w w2 :=
 ⟨k.os.trans h.os, k.tape.trans h.tape, k.output.trans h.output, Nat.le_trans h.size k.size, fun i hi hn => (k.block i (Nat.lt_of_lt_of_le hi h.size) (fun e => by
  rcases hT i e with h1 | h1
  · exact hn h1
  · omega)).trans (h.block i hi hn)⟩
theorem Keeps.below {S : List Nat} {w w' : World} (h : Keeps S w w') {B : Nat} (hB : ∀ x ∈ S, B ≤ x) (hw : B ≤ w.heap.size) : Below B w w' :=
 ⟨h.os, h.tape, h.output, h.size, fun i hi => h.block i (by omega) (fun e => by have := hB i e; omega)⟩
theorem Keeps.none {w w' : World} (h : Keeps [] w w') : Below w.heap.size w w' := h.below (by simp) (Nat.le_refl _)
theorem Keeps.below_then {S : List Nat} {B : Nat} {w w1 w2 : World} (hb : Below B w w1) (h : Keeps S w1 w2) (hB : ∀ x ∈ S, B ≤ x) (hw : B ≤ w.heap.size) : Below B w w2 :=
 hb.trans (h.below hB (Nat.le_trans hw hb.size))
theorem Keeps.setCell (w : World) (a : Addr) (v : Value) : Keeps [a.block] w (w.setCell a v) :=
 ⟨rfl, rfl, rfl, by simp [World.setCell], fun k _ hn => by simp only [List.mem_singleton] at hn; exact Below.heap_setCell _ _ _ _ hn⟩
theorem Keeps.then_set {S : List Nat} {w w' : World} (h : Keeps S w w') (a : Addr) (v : Value) (ha : a.block ∈ S ∨ w.heap.size ≤ a.block) : Keeps S w (w'.setCell a v) :=
 h.of_later (Keeps.setCell w' a v) (fun x hx => by rw [List.mem_singleton.1 hx]; exact ha)
theorem Keeps.then_below {S : List Nat} {w w1 w2 : World} (h : Keeps S w w1) (hb : Below w1.heap.size w1 w2) : Keeps S w w2 := h.trans (Keeps.of_below hb)
theorem Keeps.of_grown {r : Nat} {w w' : World} (h : w.grownBy w' (some r)) : Keeps [r] w w' :=
 ⟨h.os, h.tape, h.output, h.size, fun i hi hn => h.block i hi (fun e => hn (by rw [Option.some.inj e]; simp))⟩
theorem Keeps.of_grown' {row : Option Nat} {S : List Nat} {w w' : World} (h : w.grownBy w' row) (hr : ∀ r, row = some r → r ∈ S) : Keeps S w w' :=
 ⟨h.os, h.tape, h.output, h.size, fun i hi hn => h.block i hi (fun e => hn (hr i e.symm))⟩
theorem Keeps.cell? {S : List Nat} {w w' : World} (h : Keeps S w w') {a : Addr} (hlt : a.block < w.heap.size) (hn : a.block ∉ S) : w'.cell? a = w.cell? a := World.cell?_of_block (h.block _ hlt hn)
theorem Keeps.cell {S : List Nat} {w w' : World} (h : Keeps S w w') {a : Addr} {v : Value} (hc : w.cell? a = some v) (hn : a.block ∉ S) : w'.cell? a = some v := (h.cell? (World.block_lt_of_cell? _ _ hc) hn).trans hc
theorem Keeps.frozen {S : List Nat} {w w' : World} (h : Keeps S w w') {a : Addr} (hlt : a.block < w.heap.size) (hn : a.block ∉ S) : w'.frozen? a = w.frozen? a := by
 unfold World.frozen?; rw [h.block _ hlt hn]
theorem Keeps.rd {α : Type} {E : α → List Value} {k n : Nat} {S : List Nat} {w w' : World} {a : Option Addr} {xs : List α} (h : Keeps S w w') (hr : Rd E k w a n xs) (hn : 0 < n → ∀ p, a = some p → p.block ∉ S) : Rd E k w' a n xs :=
 ⟨hr.len, hr.cap, fun i hi => by
  obtain ⟨b, off, x, rfl, hlt, hx, hc⟩ := hr.read i hi
  exact ⟨b, off, x, rfl, Nat.lt_of_lt_of_le hlt h.size, hx, fun j hj => (h.cell? (a := ⟨b, off + i * k + j, .none⟩) hlt (hn (by omega) ⟨b, off, .none⟩ rfl)).trans (hc j hj)⟩⟩
theorem Keeps.own {S : List Nat} {w w' : World} (h : Keeps S w w') {base k n : Nat} {e : TypeId} {v : Value} {xs : List Value} (hr : w.ownsRow base e k v n xs) (hn : ∀ r, v.ownBlock = some r → r ∉ S) : w'.ownsRow base e k v n xs := by
 refine ⟨hr.1, ?_⟩
 rcases hr.2 with h1 | ⟨g, cap, cur, rfl, hb, hg, h2⟩
 · exact .inl h1
 · exact .inr ⟨g, cap, cur, rfl, hb, (h.block g (Array.getElem?_eq_some_iff.1 hg).1 (hn g rfl)).trans hg, h2⟩
def ptrs (b : Nat) : List Value := [.pointer (some ⟨b, 0, none⟩)]
theorem ptrs_length (b : Nat) : (ptrs b).length = 1 := rfl
theorem ptrs_one (xs : List Nat) : ∀ u ∈ xs.flatMap ptrs, u.oneCell' = true := by
 intro u hu
 obtain ⟨x, _, hx⟩ := List.mem_flatMap.1 hu
 simp only [ptrs, List.mem_cons, List.not_mem_nil, or_false] at hx
 subst hx; rfl
theorem Rd.ptr {w : World} {a : Option Addr} {n : Nat} {xs : List Nat} (h : Rd ptrs 1 w a n xs) {i : Nat} (hi : i < n) : ∃ b off x, a = some ⟨b, off, none⟩ ∧ b < w.heap.size ∧ xs[i]? = some x ∧ w.cell? ⟨b, off + i, none⟩ = some (.pointer (some ⟨x, 0, none⟩)) := by
 obtain ⟨b, off, p, ha, hb, hx, hc⟩ := h.read i hi
 have := hc 0 (by omega)
 exact ⟨b, off, p, ha, hb, hx, by simpa [ptrs] using this⟩
structure NodeAt (w : World) (b : Nat) (f : Nf) (a : Option Addr) (n cap : Nat) : Prop where
 lt : b < w.heap.size
 fr : ∀ j, w.frozen? ⟨b, j, none⟩ = false
 c0 : w.cell? ⟨b, 0, none⟩ = some (.int .i64 f.pack)
 c16 : w.cell? ⟨b, 16, none⟩ = some (.slice a n cap)
 c17 : w.cell? ⟨b, 17, none⟩ = some (.int .i64 f.ownL)
 c18 : w.cell? ⟨b, 18, none⟩ = some (.int .i64 f.ownH)
 c19 : w.cell? ⟨b, 19, none⟩ = some (.int .i64 f.sumL)
 c20 : w.cell? ⟨b, 20, none⟩ = some (.int .i64 f.sumH)
 c21 : w.cell? ⟨b, 21, none⟩ = some (.int .i64 f.missing)
 c22 : w.cell? ⟨b, 22, none⟩ = some (.int .i64 f.low)
 c23 : w.cell? ⟨b, 23, none⟩ = some (.int .i64 f.endL)
 c24 : w.cell? ⟨b, 24, none⟩ = some (.int .i64 f.endH)
theorem NodeAt.keeps {S : List Nat} {w w' : World} {b : Nat} {f : Nf} {a : Option Addr} {n cap : Nat} (h : NodeAt w b f a n cap) (hk : Keeps S w w') (hn : b ∉ S) : NodeAt w' b f a n cap :=
 ⟨Nat.lt_of_lt_of_le h.lt hk.size, fun j => (hk.frozen (a := ⟨b, j, none⟩) h.lt hn).trans (h.fr j), hk.cell h.c0 hn, hk.cell h.c16 hn, hk.cell h.c17 hn, hk.cell h.c18 hn, hk.cell h.c19 hn, hk.cell h.c20 hn, hk.cell h.c21 hn, hk.cell h.c22 hn, hk.cell h.c23 hn, hk.cell h.c24 hn⟩
theorem cell_off' {w : World} {B i j : Nat} {u v : Value} (h : w.cell? ⟨B, j, none⟩ = some u) (hij : i ≠ j) : (w.setCell ⟨B, i, none⟩ v).cell? ⟨B, j, none⟩ = some u := by
 rw [World.cell?_setCell_other _ _ _ _ (by simp [hij])]; exact h
theorem cell_on' {w : World} {B j : Nat} {u v : Value} (h : w.cell? ⟨B, j, none⟩ = some u) : (w.setCell ⟨B, j, none⟩ v).cell? ⟨B, j, none⟩ = some v :=
 World.cell?_setCell_same' _ _ _ (by rw [h]; rfl)
section
variable {w : World} {b : Nat} {f : Nf} {a : Option Addr} {n cap : Nat}
theorem NodeAt.set_low (h : NodeAt w b f a n cap) (x : Int) : NodeAt (w.setCell ⟨b, 22, none⟩ (.int .i64 x)) b { f with low := x } a n cap :=
 ⟨by simpa [World.setCell] using h.lt, fun j => by rw [World.frozen?_setCell]; exact h.fr j, cell_off' h.c0 (by decide), cell_off' h.c16 (by decide), cell_off' h.c17 (by decide), cell_off' h.c18 (by decide), cell_off' h.c19 (by decide), cell_off' h.c20 (by decide), cell_off' h.c21 (by decide), cell_on' h.c22, cell_off' h.c23 (by decide), cell_off' h.c24 (by decide)⟩
theorem NodeAt.set_endL (h : NodeAt w b f a n cap) (x : Int) : NodeAt (w.setCell ⟨b, 23, none⟩ (.int .i64 x)) b { f with endL := x } a n cap :=
 ⟨by simpa [World.setCell] using h.lt, fun j => by rw [World.frozen?_setCell]; exact h.fr j, cell_off' h.c0 (by decide), cell_off' h.c16 (by decide), cell_off' h.c17 (by decide), cell_off' h.c18 (by decide), cell_off' h.c19 (by decide), cell_off' h.c20 (by decide), cell_off' h.c21 (by decide), cell_off' h.c22 (by decide), cell_on' h.c23, cell_off' h.c24 (by decide)⟩
theorem NodeAt.set_endH (h : NodeAt w b f a n cap) (x : Int) : NodeAt (w.setCell ⟨b, 24, none⟩ (.int .i64 x)) b { f with endH := x } a n cap :=
 ⟨by simpa [World.setCell] using h.lt, fun j => by rw [World.frozen?_setCell]; exact h.fr j, cell_off' h.c0 (by decide), cell_off' h.c16 (by decide), cell_off' h.c17 (by decide), cell_off' h.c18 (by decide), cell_off' h.c19 (by decide), cell_off' h.c20 (by decide), cell_off' h.c21 (by decide), cell_off' h.c22 (by decide), cell_off' h.c23 (by decide), cell_on' h.c24⟩
theorem NodeAt.set_ownL (h : NodeAt w b f a n cap) (x : Int) : NodeAt (w.setCell ⟨b, 17, none⟩ (.int .i64 x)) b { f with ownL := x } a n cap :=
 ⟨by simpa [World.setCell] using h.lt, fun j => by rw [World.frozen?_setCell]; exact h.fr j, cell_off' h.c0 (by decide), cell_off' h.c16 (by decide), cell_on' h.c17, cell_off' h.c18 (by decide), cell_off' h.c19 (by decide), cell_off' h.c20 (by decide), cell_off' h.c21 (by decide), cell_off' h.c22 (by decide), cell_off' h.c23 (by decide), cell_off' h.c24 (by decide)⟩
theorem NodeAt.set_ownH (h : NodeAt w b f a n cap) (x : Int) : NodeAt (w.setCell ⟨b, 18, none⟩ (.int .i64 x)) b { f with ownH := x } a n cap :=
 ⟨by simpa [World.setCell] using h.lt, fun j => by rw [World.frozen?_setCell]; exact h.fr j, cell_off' h.c0 (by decide), cell_off' h.c16 (by decide), cell_off' h.c17 (by decide), cell_on' h.c18, cell_off' h.c19 (by decide), cell_off' h.c20 (by decide), cell_off' h.c21 (by decide), cell_off' h.c22 (by decide), cell_off' h.c23 (by decide), cell_off' h.c24 (by decide)⟩
end
inductive TreeAt (L : List Nat) (w : World) : Tr → Prop
 | node {b : Nat} {f : Nf} {ks : List Tr} {a : Option Addr} {cap : Nat} (hb : b ∈ L) (hn : NodeAt w b f a ks.length cap) (hr : Rd ptrs 1 w a ks.length (ks.map Tr.b)) (ha : 0 < ks.length → ∀ p, a = some p → p.block ∉ L)
    (hk : ∀ k ∈ ks, TreeAt L w k) : TreeAt L w (.node b f ks)
theorem TreeAt.mem {L : List Nat} {w : World} {t : Tr} (h : TreeAt L w t) : t.b ∈ L := by cases h; assumption
theorem TreeAt.kids {L : List Nat} {w : World} {t : Tr} (h : TreeAt L w t) : ∀ k ∈ t.ks, TreeAt L w k := by cases h; assumption
theorem TreeAt.lt {L : List Nat} {w : World} {t : Tr} (h : TreeAt L w t) : t.b < w.heap.size := by cases h; exact NodeAt.lt (by assumption)
theorem TreeAt.at {L : List Nat} {w : World} {t : Tr} (h : TreeAt L w t) : ∃ a cap, NodeAt w t.b t.f a t.ks.length cap ∧ Rd ptrs 1 w a t.ks.length (t.ks.map Tr.b) ∧ (0 < t.ks.length → ∀ p, a = some p → p.block ∉ L) := by
 cases h with
 | node hb hn hr ha hk => exact ⟨_, _, hn, hr, ha⟩
theorem TreeAt.keeps {L : List Nat} {w : World} {t : Tr} (h : TreeAt L w t) : ∀ {S : List Nat} {w' : World}, Keeps S w w' → (∀ x ∈ S, x ∈ L) → (∀ x ∈ t.bs, x ∉ S) → TreeAt L w' t := by
 induction h with
 | @node b f ks a cap hb hn hr ha hk ih =>
   intro S w' hkp hS hd
   refine .node hb (hn.keeps hkp (hd b (by simp [Tr.bs]))) (hkp.rd hr (fun h0 p e => fun hp => ha h0 p e (hS _ hp))) ha (fun k hk' => ih k hk' hkp hS (fun x hx => hd x ?_))
   unfold Tr.bs
   exact List.mem_cons_of_mem _ (bsL_mem hk' x hx)
theorem TreeAt.below' {L : List Nat} {w w' : World} {t : Tr} (h : TreeAt L w t) (hB : Below w.heap.size w w') : TreeAt L w' t := h.keeps (S := []) (Keeps.of_below hB) (by simp) (by simp)
theorem TreeAt.wide {L M : List Nat} {w : World} {t : Tr} (h : TreeAt L w t) : (∀ x ∈ L, x ∈ M) → (∀ x, x ∉ L → x < w.heap.size → x ∉ M) → TreeAt M w t := by
 induction h with
 | @node b f ks a cap hb hn hr ha hk ih =>
   intro h1 h2
   refine .node (h1 b hb) hn hr (fun h0 p e => ?_) (fun k hk' => ih k hk' h1 h2)
   obtain ⟨b', off, x, e', hlt, _⟩ := hr.read 0 h0
   have e2 := ha h0 p e
   rw [e'] at e
   have := Option.some.inj e
   subst this
   exact h2 _ e2 hlt
def Tr.setEnds (lo hi : Int) : Tr → Tr | .node b f ks => .node b { f with endL := lo, endH := hi } ks
theorem sinkT_set (lo hi : Int) (t : Tr) : sinkT (t.setEnds lo hi).f.endL (t.setEnds lo hi).f.endH (t.setEnds lo hi) = sinkT lo hi t := by cases t; simp only [Tr.setEnds, Tr.f, sinkT]
theorem setEnds_bs (lo hi : Int) (t : Tr) : (t.setEnds lo hi).bs = t.bs := by cases t; simp only [Tr.setEnds, Tr.bs]
theorem setEnds_b (lo hi : Int) (t : Tr) : (t.setEnds lo hi).b = t.b := by cases t; simp only [Tr.setEnds, Tr.b]
end Go.Proofs.YtehplmeckfinoaaGreatDoor
