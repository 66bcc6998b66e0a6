/- The state of the closure that grows a tree. -/
import Derived.Test.YtehplmeckfinoaaGreatDoorCFind
import Derived.Test.YtehplmeckfinoaaGreatDoorCGrowP
import Derived.Test.YtehplmeckfinoaaGreatDoorCMiss
set_option linter.unusedSimpArgs false
set_option linter.unusedVariables false
namespace Go.Proofs.YtehplmeckfinoaaGreatDoor
open Go.RowKit Go.Shelf
theorem wrap_wrap (a b : Int) : IntKind.i64.wrap (IntKind.i64.wrap a + b) = IntKind.i64.wrap (a + b) := by
 rw [IntKind.wrap_i64, IntKind.wrap_i64, IntKind.wrap_i64]; omega
theorem wrap_self (a : Int) : IntKind.i64.wrap (IntKind.i64.wrap a) = IntKind.i64.wrap a := by
 have := wrap_wrap a 0
 simpa using this
theorem contains_any (a : Option Addr) (n cap : Nat) (xs : List Int) (x : Int) (w : World) (h : Rd ints 1 w a n xs) :
 Calls Tryz.prog 100 #[.slice a n cap, .int .i64 x] w fun e w' => e = .returned (.bool (xs.contains x)) ∧ w' = w := by
 by_cases h0 : n = 0
 · subst h0
   have : xs = [] := List.eq_nil_of_length_eq_zero h.len
   subst this
   exact Tryz.slices_Contains_int_empty a cap x w
 · obtain ⟨b, off, y, rfl, hb, _, _⟩ := h.int (i := 0) (by omega)
   have hc := h.cap
   unfold maxLen at hc
   have := Tryz.slices_Contains_int b off n cap xs x w (by rw [h.len]; exact Nat.le_refl _) (by omega) (fun j hj => by
    obtain ⟨b', off', y', e, _, hy, hcell⟩ := h.int (i := j) (by rw [← h.len]; exact hj)
    cases e
    rw [hcell, List.getD_eq_getElem?_getD, hy]; rfl)
   rw [List.take_of_length_le (by rw [h.len]; exact Nat.le_refl _)] at this
   exact this
structure GLay where
 (Bm Bids Ball Bmany Bg : Nat)
 (pa : Option Addr) (pn pc : Nat)
 (ta : Option Addr) (tn tc : Nat)
 (ia : Option Addr) (inn ic : Nat)
 (all : Bool)
structure GLay.Ok (G : GLay) : Prop where
 o1 : G.Bm < G.Bmany
 o2 : G.Bids < G.Bmany
 o3 : G.Ball < G.Bmany
 o4 : G.Bmany < G.Bg
 p1 : ∀ p, G.pa = some p → p.block < G.Bmany
 p2 : ∀ p, G.ta = some p → p.block < G.Bmany
 p3 : 0 < G.inn → ∀ p, G.ia = some p → p.block < G.Bmany
def GLay.fn (G : GLay) : Value := .func (.func 99) #[] #[.pointer (some ⟨G.Bm, 0, none⟩), .pointer (some ⟨G.Ball, 0, none⟩), .pointer (some ⟨G.Bids, 0, none⟩), .pointer (some ⟨G.Bmany, 0, none⟩), .pointer (some ⟨G.Bg, 0, none⟩)]
structure GEnv (w : World) (G : GLay) (ps ts : List Pa) (ids : List Int) : Prop where
 m0 : w.cell? ⟨G.Bm, 0, none⟩ = some (.slice G.pa G.pn G.pc)
 m1 : w.cell? ⟨G.Bm, 1, none⟩ = some (.slice G.ta G.tn G.tc)
 al : w.cell? ⟨G.Ball, 0, none⟩ = some (.bool G.all)
 id : w.cell? ⟨G.Bids, 0, none⟩ = some (.slice G.ia G.inn G.ic)
 g : w.cell? ⟨G.Bg, 0, none⟩ = some G.fn
 rp : Rd Pa.vals 14 w G.pa G.pn ps
 rt : Rd Pa.vals 14 w G.ta G.tn ts
 ri : Rd ints 1 w G.ia G.inn ids
 ok : G.Ok
theorem GEnv.keeps {w w' : World} {G : GLay} {ps ts : List Pa} {ids : List Int} (h : GEnv w G ps ts ids) {S : List Nat} (hk : Keeps S w w') (hS : ∀ x ∈ S, x = G.Bmany ∨ G.Bg < x) : GEnv w' G ps ts ids := by
 obtain ⟨o1, o2, o3, o4, p1, p2, p3⟩ := h.ok
 have hn : ∀ x, x < G.Bmany → x ∉ S := fun x hx hm => by rcases hS x hm with e | e <;> omega
 exact ⟨hk.cell h.m0 (hn _ o1), hk.cell h.m1 (hn _ o1), hk.cell h.al (hn _ o3), hk.cell h.id (hn _ o2), hk.cell h.g (fun hm => by have := hS _ hm; simp only at this; omega),
  hk.rd h.rp (fun _ p e => hn _ (p1 p e)), hk.rd h.rt (fun _ p e => hn _ (p2 p e)), hk.rd h.ri (fun h0 p e => hn _ (p3 h0 p e)), h.ok⟩
theorem GEnv.below' {w w' : World} {G : GLay} {ps ts : List Pa} {ids : List Int} (h : GEnv w G ps ts ids) (hB : Below w.heap.size w w') : GEnv w' G ps ts ids := h.keeps (S := []) (Keeps.of_below hB) (by simp)
structure ManyAt (w : World) (G : GLay) (m : Int) : Prop where
 c : w.cell? ⟨G.Bmany, 0, none⟩ = some (.int .i64 m)
 f : w.frozen? ⟨G.Bmany, 0, none⟩ = false
theorem ManyAt.keeps {w w' : World} {G : GLay} {m : Int} (h : ManyAt w G m) {S : List Nat} (hk : Keeps S w w') (hS : G.Bmany ∉ S) : ManyAt w' G m :=
 ⟨hk.cell h.c hS, (hk.frozen (a := ⟨G.Bmany, 0, none⟩) (World.block_lt_of_cell? _ _ h.c) hS).trans h.f⟩
theorem ManyAt.below' {w w' : World} {G : GLay} {m : Int} (h : ManyAt w G m) (hB : Below w.heap.size w w') : ManyAt w' G m := h.keeps (S := []) (Keeps.of_below hB) (by simp)
structure NewNode (w : World) (B : Nat) (oL oH : Int) : Prop where
 n : NodeAt w B ⟨0, oL, oH, 0, 0, 0, 0, 0, 0⟩ none 0 0
 c15 : w.cell? ⟨B, 15, none⟩ = some (.pointer none)
def TotAt (w : World) (n0 n1 B : Nat) (o : Option Pa) : Prop := match o with
 | none => w.cell? ⟨B, 15, none⟩ = some (.pointer none)
 | some x => ∃ Bx, n0 ≤ Bx ∧ Bx < n1 ∧ w.cell? ⟨B, 15, none⟩ = some (.pointer (some ⟨Bx, 0, none⟩)) ∧ w.cell? ⟨Bx, 12, none⟩ = some (.int .i64 x.count)
theorem TotAt.keeps {w w' : World} {n0 n1 B : Nat} {o : Option Pa} (h : TotAt w n0 n1 B o) {S : List Nat} (hk : Keeps S w w') (hB : B ∉ S) (hS : ∀ x ∈ S, x < n0 ∨ n1 ≤ x) : TotAt w' n0 n1 B o := by
 cases o with
 | none => exact hk.cell (a := ⟨B, 15, .none⟩) h hB
 | some x =>
   obtain ⟨Bx, h1, h4, h2, h3⟩ := h
   exact ⟨Bx, h1, h4, hk.cell (a := ⟨B, 15, .none⟩) h2 hB, hk.cell (a := ⟨Bx, 12, .none⟩) h3 (fun hm => by have := hS _ hm; simp only at this; omega)⟩
theorem TotAt.mono {w : World} {n0 n1 n2 B : Nat} {o : Option Pa} (h : TotAt w n0 n1 B o) (hn : n1 ≤ n2) : TotAt w n0 n2 B o := by
 cases o with
 | none => exact h
 | some x =>
   obtain ⟨Bx, h1, h4, h2, h3⟩ := h
   exact ⟨Bx, h1, Nat.lt_of_lt_of_le h4 hn, h2, h3⟩
theorem TotAt.set {w : World} {n0 n1 B i : Nat} {o : Option Pa} {v : Value} (h : TotAt w n0 n1 B o) (hi : i ≠ 15) (hB : B < n0) : TotAt (w.setCell ⟨B, i, none⟩ v) n0 n1 B o := by
 cases o with
 | none => exact cell_off' h hi
 | some x =>
   obtain ⟨Bx, h1, h4, h2, h3⟩ := h
   exact ⟨Bx, h1, h4, cell_off' h2 hi, (Keeps.setCell w ⟨B, i, .none⟩ v).cell (a := ⟨Bx, 12, .none⟩) h3 (fun hm => by have := List.mem_singleton.1 hm; simp only at this; omega)⟩
section
variable {w : World} {b : Nat} {f : Nf} {a : Option Addr} {n cap : Nat}
theorem NodeAt.set_pack (h : NodeAt w b f a n cap) (x : Int) : NodeAt (w.setCell ⟨b, 0, none⟩ (.int .i64 x)) b { f with pack := x } a n cap :=
 ⟨by simpa [World.setCell] using h.lt, fun j => by rw [World.frozen?_setCell]; exact h.fr j, cell_on' h.c0, cell_off' h.c16 (by decide), cell_off' h.c17 (by decide), cell_off' h.c18 (by decide), cell_off' h.c19 (by decide), cell_off' h.c20 (by decide), cell_off' h.c21 (by decide), cell_off' h.c22 (by decide), cell_off' h.c23 (by decide), cell_off' h.c24 (by decide)⟩
theorem NodeAt.set_tot (h : NodeAt w b f a n cap) (v : Value) : NodeAt (w.setCell ⟨b, 15, none⟩ v) b f a n cap :=
 ⟨by simpa [World.setCell] using h.lt, fun j => by rw [World.frozen?_setCell]; exact h.fr j, cell_off' h.c0 (by decide), cell_off' h.c16 (by decide), cell_off' h.c17 (by decide), cell_off' h.c18 (by decide), cell_off' h.c19 (by decide), cell_off' h.c20 (by decide), cell_off' h.c21 (by decide), cell_off' h.c22 (by decide), cell_off' h.c23 (by decide), cell_off' h.c24 (by decide)⟩
theorem NodeAt.set_kids (h : NodeAt w b f a n cap) (a' : Option Addr) (n' cap' : Nat) : NodeAt (w.setCell ⟨b, 16, none⟩ (.slice a' n' cap')) b f a' n' cap' :=
 ⟨by simpa [World.setCell] using h.lt, fun j => by rw [World.frozen?_setCell]; exact h.fr j, cell_off' h.c0 (by decide), cell_on' h.c16, cell_off' h.c17 (by decide), cell_off' h.c18 (by decide), cell_off' h.c19 (by decide), cell_off' h.c20 (by decide), cell_off' h.c21 (by decide), cell_off' h.c22 (by decide), cell_off' h.c23 (by decide), cell_off' h.c24 (by decide)⟩
theorem NodeAt.set_sumL (h : NodeAt w b f a n cap) (x : Int) : NodeAt (w.setCell ⟨b, 19, none⟩ (.int .i64 x)) b { f with sumL := x } a n cap :=
 ⟨by simpa [World.setCell] using h.lt, fun j => by rw [World.frozen?_setCell]; exact h.fr j, cell_off' h.c0 (by decide), cell_off' h.c16 (by decide), cell_off' h.c17 (by decide), cell_off' h.c18 (by decide), cell_on' h.c19, cell_off' h.c20 (by decide), cell_off' h.c21 (by decide), cell_off' h.c22 (by decide), cell_off' h.c23 (by decide), cell_off' h.c24 (by decide)⟩
theorem NodeAt.set_sumH (h : NodeAt w b f a n cap) (x : Int) : NodeAt (w.setCell ⟨b, 20, none⟩ (.int .i64 x)) b { f with sumH := x } a n cap :=
 ⟨by simpa [World.setCell] using h.lt, fun j => by rw [World.frozen?_setCell]; exact h.fr j, cell_off' h.c0 (by decide), cell_off' h.c16 (by decide), cell_off' h.c17 (by decide), cell_off' h.c18 (by decide), cell_off' h.c19 (by decide), cell_on' h.c20, cell_off' h.c21 (by decide), cell_off' h.c22 (by decide), cell_off' h.c23 (by decide), cell_off' h.c24 (by decide)⟩
theorem NodeAt.set_miss (h : NodeAt w b f a n cap) (x : Int) : NodeAt (w.setCell ⟨b, 21, none⟩ (.int .i64 x)) b { f with missing := x } a n cap :=
 ⟨by simpa [World.setCell] using h.lt, fun j => by rw [World.frozen?_setCell]; exact h.fr j, cell_off' h.c0 (by decide), cell_off' h.c16 (by decide), cell_off' h.c17 (by decide), cell_off' h.c18 (by decide), cell_off' h.c19 (by decide), cell_off' h.c20 (by decide), cell_on' h.c21, cell_off' h.c22 (by decide), cell_off' h.c23 (by decide), cell_off' h.c24 (by decide)⟩
end
def hasB (all : Bool) (ids : List Int) (i : Int) : Bool := all || ids.contains i
def LL (Bmany B : Nat) (M : List Nat) (ks : List Tr) : List Nat := Bmany :: B :: (M ++ bsL ks)
def GrowPost (w : World) (G : GLay) (ps ts : List Pa) (ids : List Int) (d : Nat) (pack oL oH : Int) (B : Nat) (m : Int) (e : Ending) (w' : World) : Prop :=
 Keeps [B, G.Bmany] w w' ∧
 ((growT ps ts (hasB G.all ids) d pack oL oH = none ∧ e = .returned (.bool false)) ∨
  (∃ t, growT ps ts (hasB G.all ids) d pack oL oH = some t.sh ∧ e = .returned (.bool true) ∧ t.b = B ∧ t.bs.Nodup ∧ (∀ x ∈ t.bs, x = B ∨ w.heap.size ≤ x) ∧
    ManyAt w' G (IntKind.i64.wrap (m + t.pre.length)) ∧ ∀ M : List Nat, (∀ x ∈ M, x < w.heap.size) → TreeAt (M ++ t.bs) w' t))
theorem made_node (w : World) (x : Pa) : NewNode (w.alloc (.cells #[.int .i64 0, .int .i64 x.id, .int .i64 x.known, .int .u8 x.kind, .int .i64 x.loss, .int .i64 x.pack, .int .i64 x.inn, .string ⟨x.mark.toArray⟩, .string ⟨x.goods.toArray⟩, .int .i64 x.low, .int .i64 x.high, .int .i64 x.pieces, .int .i64 x.owner, .int .i64 x.count, .int .i64 x.of, .pointer none, .slice none 0 0, .int .i64 1, .int .i64 100000, .int .i64 0, .int .i64 0, .int .i64 0, .int .i64 0, .int .i64 0, .int .i64 0] 80)) w.heap.size 1 100000 := by
 have h := heap_alloc_new w (.cells #[.int .i64 0, .int .i64 x.id, .int .i64 x.known, .int .u8 x.kind, .int .i64 x.loss, .int .i64 x.pack, .int .i64 x.inn, .string ⟨x.mark.toArray⟩, .string ⟨x.goods.toArray⟩, .int .i64 x.low, .int .i64 x.high, .int .i64 x.pieces, .int .i64 x.owner, .int .i64 x.count, .int .i64 x.of, .pointer none, .slice none 0 0, .int .i64 1, .int .i64 100000, .int .i64 0, .int .i64 0, .int .i64 0, .int .i64 0, .int .i64 0, .int .i64 0] 80)
 have hc : ∀ i, (w.alloc (.cells #[.int .i64 0, .int .i64 x.id, .int .i64 x.known, .int .u8 x.kind, .int .i64 x.loss, .int .i64 x.pack, .int .i64 x.inn, .string ⟨x.mark.toArray⟩, .string ⟨x.goods.toArray⟩, .int .i64 x.low, .int .i64 x.high, .int .i64 x.pieces, .int .i64 x.owner, .int .i64 x.count, .int .i64 x.of, .pointer none, .slice none 0 0, .int .i64 1, .int .i64 100000, .int .i64 0, .int .i64 0, .int .i64 0, .int .i64 0, .int .i64 0, .int .i64 0] 80)).cell? ⟨w.heap.size, i, none⟩ = _ := fun i => cell_of_row _ _ i _ _ (0, 0) h
 exact ⟨⟨by simp, fun j => frz0 h j, hc 0, hc 16, hc 17, hc 18, hc 19, hc 20, hc 21, hc 22, hc 23, hc 24⟩, hc 15⟩
theorem info_ptr : (Tryz.prog.info? 63).map (fun i => (i.zero, i.size, i.bytes)) = some (some (.pointer none), 1, 8) := by kernel_rfl
theorem own_ptr_next {w : World} {t : TypeId} {base : Nat} {v : Value} {ws : List Nat} {x : Nat} {n : Nat} (h : w.ownsRow base t 1 v (n + 1) (ws.flatMap ptrs ++ ptrs x)) : w.ownsRow base t 1 v (n + 1) ((ws ++ [x]).flatMap ptrs) := by
 rw [List.flatMap_append]
 simpa using h
def rs (a : Option Addr) : List Nat := (a.map Addr.block).toList
theorem mem_rs {a : Option Addr} {x : Nat} (h : x ∈ rs a) : ∃ p, a = some p ∧ p.block = x := by
 unfold rs at h
 cases a with
 | none => simp at h
 | some p => simp at h; exact ⟨p, rfl, h.symm⟩
theorem own_rs {w : World} {base k n cap m : Nat} {e : TypeId} {a : Option Addr} {xs : List Value} (h : w.ownsRow base e k (.slice a n cap) m xs) : ∀ x ∈ rs a, base ≤ x ∧ x < w.heap.size := by
 intro x hx
 obtain ⟨p, rfl, rfl⟩ := mem_rs hx
 have := h.lt p.block (by simp [Value.ownBlock])
 exact this
structure GLoop (w5 wr : World) (n0 : Nat) (G : GLay) (B : Nat) (f1 : Nf) (o : Option Pa) (ks : List Tr) (m : Int) (a : Option Addr) (cap : Nat) : Prop where
 kp : Keeps [B, G.Bmany] w5 wr
 mn : ManyAt wr G (IntKind.i64.wrap (m + (preL ks).length))
 nd : NodeAt wr B f1 a ks.length cap
 ow : wr.ownsRow w5.heap.size 63 1 (.slice a ks.length cap) ks.length ((ks.map Tr.b).flatMap ptrs)
 na : ∀ x ∈ rs a, x ∉ bsL ks
 tt : TotAt wr n0 w5.heap.size B o
 dj : (B :: bsL ks).Nodup
 fr : ∀ x ∈ bsL ks, w5.heap.size ≤ x ∧ x < wr.heap.size
 tr : ∀ M : List Nat, (∀ x ∈ M, x < n0 ∨ x ∈ rs a) → ∀ q ∈ ks, TreeAt (LL G.Bmany B M ks) wr q
structure GMid (w5 wr w12 : World) (n0 : Nat) (G : GLay) (B : Nat) (f1 : Nf) (o : Option Pa) (ks : List Tr) (mv : Int) (ka a : Option Addr) (cap Bk : Nat) (oL oH : Int) : Prop where
 k5 : Keeps [B, G.Bmany] w5 w12
 kr : Keeps (B :: G.Bmany :: rs ka) wr w12
 mn : ManyAt w12 G mv
 nd : NodeAt w12 B f1 a (ks.length + 1) cap
 ow : w12.ownsRow w5.heap.size 63 1 (.slice a (ks.length + 1) cap) (ks.length + 1) ((ks.map Tr.b ++ [Bk]).flatMap ptrs)
 na : ∀ x ∈ rs a, x ∈ rs ka ∨ (wr.heap.size ≤ x ∧ x ≠ Bk)
 tt : TotAt w12 n0 w5.heap.size B o
 nk : NewNode w12 Bk oL oH
theorem GLoop.mid {w5 wr w10 w11 : World} {n0 : Nat} {G : GLay} {B : Nat} {f1 : Nf} {o : Option Pa} {ks : List Tr} {m mv : Int} {ka a : Option Addr} {kcap cap Bk : Nat} {oL oH : Int} {ob : Obj}
 (hg : GLoop w5 wr n0 G B f1 o ks m ka kcap) (hB : B < n0) (hn : n0 ≤ w5.heap.size) (hBm : G.Bmany < B) (hBk : wr.heap.size ≤ Bk) (hkr : Keeps [B, G.Bmany] wr w10)
 (hm : ManyAt w10 G mv) (hnd : NodeAt w10 B f1 ka ks.length kcap) (hnk : NewNode w10 Bk oL oH) (htt : TotAt w10 n0 w5.heap.size B o)
 (hgr : (w10.alloc ob).grownBy w11 (Value.slice ka ks.length kcap).ownBlock) (hat : (Value.slice a (ks.length + 1) cap).ownBlock = (Value.slice ka ks.length kcap).ownBlock ∨ (Value.slice a (ks.length + 1) cap).ownBlock = some (w10.alloc ob).heap.size)
 (hown : w11.ownsRow w5.heap.size 63 1 (.slice a (ks.length + 1) cap) (ks.length + 1) ((ks.map Tr.b ++ [Bk]).flatMap ptrs)) :
 GMid w5 wr (w11.setCell ⟨B, 16, none⟩ (.slice a (ks.length + 1) cap)) n0 G B f1 o ks mv ka a cap Bk oL oH := by
 have hrs := own_rs hg.ow
 have hkl : Bk < w10.heap.size := hnk.n.lt
 have hs1 := hg.kp.size
 have hs2 := hkr.size
 have hk11 : Keeps (rs ka) w10 w11 := (Keeps.of_below (S := rs ka) (al' (Below.refl _ _) ob)).trans (Keeps.of_grown' hgr (fun r e => by
  cases ka with
  | none => simp [Value.ownBlock] at e
  | some q => simp [Value.ownBlock] at e; simp [rs, e]))
 have nB : B ∉ rs ka := fun hm => by have := hrs _ hm; omega
 have nM : G.Bmany ∉ rs ka := fun hm => by have := hrs _ hm; omega
 have nK : Bk ∉ rs ka := fun hm => by have := hrs _ hm; omega
 have hk12 : Keeps (B :: rs ka) w10 (w11.setCell ⟨B, 16, none⟩ (.slice a (ks.length + 1) cap)) := (hk11.mono (fun y hy => List.mem_cons_of_mem _ hy)).then_set ⟨B, 16, none⟩ _ (.inl (by simp))
 have hkr2 : Keeps (B :: G.Bmany :: rs ka) wr (w11.setCell ⟨B, 16, none⟩ (.slice a (ks.length + 1) cap)) := (hkr.mono (fun y hy => by
  simp only [List.mem_cons, List.not_mem_nil, or_false] at hy ⊢
  rcases hy with h | h
  · exact .inl h
  · exact .inr (.inl h))).trans (hk12.mono (fun y hy => by
  simp only [List.mem_cons] at hy ⊢
  rcases hy with h | h
  · exact .inl h
  · exact .inr (.inr h)))
 refine ⟨hg.kp.of_later hkr2 (fun y hy => ?_), hkr2, hm.keeps hk12 (fun e => ?_), (hnd.keeps hk11 nB).set_kids _ _ _, (Keeps.setCell w11 ⟨B, 16, none⟩ _).own hown (fun r e => ?_), fun y hy => ?_, ?_, ?_⟩
 · simp only [List.mem_cons] at hy
   rcases hy with h | h | h
   · exact .inl (by simp [h])
   · exact .inl (by simp [h])
   · exact .inr (hrs _ h).1
 · rcases List.mem_cons.1 e with e | e
   · omega
   · exact nM e
 · intro hm
   have h1 : r = B := List.mem_singleton.1 hm
   have h2 := (hown.lt r e).1
   omega
 · obtain ⟨p, rfl, rfl⟩ := mem_rs hy
   rcases hat with h | h
   · left
     cases ka with
     | none => simp [Value.ownBlock] at h
     | some q => simp [Value.ownBlock] at h; simp [rs, h]
   · right
     simp [Value.ownBlock] at h
     omega
 · exact ((htt.keeps hk11 nB (fun y hy => .inr (hrs y hy).1))).set (by decide) hB
 · have hnm : Bk ∉ B :: rs ka := fun e => by
    rcases List.mem_cons.1 e with e | e
    · omega
    · exact nK e
   exact ⟨hnk.n.keeps hk12 hnm, hk12.cell hnk.c15 hnm⟩
theorem GMid.next {w5 wr w12 w13 : World} {n0 : Nat} {G : GLay} {B : Nat} {f1 : Nf} {o : Option Pa} {ks : List Tr} {m mv : Int} {ka a : Option Addr} {kcap cap Bk : Nat} {oL oH : Int} {t : Tr}
 (hg : GLoop w5 wr n0 G B f1 o ks m ka kcap) (hd : GMid w5 wr w12 n0 G B f1 o ks mv ka a cap Bk oL oH) (hB : B < n0) (hn : n0 ≤ w5.heap.size) (hBm : G.Bmany < B) (hBk : wr.heap.size ≤ Bk)
 (hk : Keeps [Bk, G.Bmany] w12 w13) (hmv : IntKind.i64.wrap (m + (preL ks).length + 1) = mv) (ht : t.b = Bk) (htn : t.bs.Nodup) (htf : ∀ x ∈ t.bs, x = Bk ∨ w12.heap.size ≤ x)
 (htm : ManyAt w13 G (IntKind.i64.wrap (mv + t.pre.length))) (htr : ∀ M : List Nat, (∀ x ∈ M, x < w12.heap.size) → TreeAt (M ++ t.bs) w13 t) :
 GLoop w5 w13 n0 G B f1 o (ks ++ [t]) m a cap := by
 have hrs := own_rs hg.ow
 have hrs2 := own_rs hd.ow
 have hs1 := hg.kp.size
 have hs2 := hd.kr.size
 have hs3 := hk.size
 have hkl : Bk < w12.heap.size := hd.nk.n.lt
 have hbs : bsL (ks ++ [t]) = bsL ks ++ t.bs := by rw [bsL_append]; simp [bsL]
 have hlen : (ks ++ [t]).length = ks.length + 1 := by simp
 have htf2 : ∀ x ∈ t.bs, wr.heap.size ≤ x ∧ x < w13.heap.size := fun x hx => by
  refine ⟨?_, ?_⟩
  · rcases htf x hx with e | e <;> omega
  · exact (htr [] (by simp)).bs_lt x hx
 have hra : ∀ x ∈ rs a, x ∉ bsL ks ∧ x ∉ t.bs := fun x hx => by
  refine ⟨fun hm => ?_, fun hm => ?_⟩
  · rcases hd.na x hx with h | h
    · exact hg.na x h hm
    · have := hg.fr x hm; omega
  · have h1 := hrs2 x hx
    rcases htf x hm with e | e
    · rcases hd.na x hx with h | h
      · have := hrs x h; omega
      · omega
    · omega
 refine ⟨?_, ?_, ?_, ?_, ?_, ?_, ?_, ?_, ?_⟩
 · exact hd.k5.of_later hk (fun y hy => by
    simp only [List.mem_cons, List.not_mem_nil, or_false] at hy ⊢
    rcases hy with h | h
    · right; omega
    · left; right; exact h)
 · have e : (preL (ks ++ [t])).length = (preL ks).length + 1 + t.pre.length := by rw [preL_append]; simp [preL]; omega
   rw [e]
   have : IntKind.i64.wrap (m + (((preL ks).length + 1 + t.pre.length : Nat) : Int)) = IntKind.i64.wrap (mv + t.pre.length) := by
    rw [← hmv, wrap_wrap]; congr 1; push_cast; omega
   rw [this]; exact htm
 · rw [hlen]
   exact hd.nd.keeps hk (fun e => by simp only [List.mem_cons, List.not_mem_nil, or_false] at e; omega)
 · rw [hlen, List.map_append, List.map_cons, List.map_nil, ht]
   exact hk.own hd.ow (fun r e hm => by
    have hr : r ∈ rs a := by
     cases a with
     | none => simp [Value.ownBlock] at e
     | some q => simp [Value.ownBlock] at e; simp [rs, e]
    have h1 := hrs2 r hr
    simp only [List.mem_cons, List.not_mem_nil, or_false] at hm
    rcases hm with h | h
    · exact (hra r hr).2 (by rw [h, ← ht]; exact b_mem t)
    · omega)
 · intro x hx
   rw [hbs, List.mem_append]
   rintro (h | h)
   · exact (hra x hx).1 h
   · exact (hra x hx).2 h
 · exact hd.tt.keeps hk (fun e => by simp only [List.mem_cons, List.not_mem_nil, or_false] at e; omega) (fun y hy => by
    simp only [List.mem_cons, List.not_mem_nil, or_false] at hy
    rcases hy with h | h
    · right; omega
    · left; omega)
 · rw [hbs, ← List.cons_append, List.nodup_append]
   refine ⟨hg.dj, htn, fun x hx y hy e => ?_⟩
   subst e
   have h1 := htf2 x hy
   rcases List.mem_cons.1 hx with e | hx
   · omega
   · have := hg.fr x hx; omega
 · intro x hx
   rw [hbs] at hx
   rcases List.mem_append.1 hx with hx | hx
   · have := hg.fr x hx; omega
   · have := htf2 x hx; omega
 · intro M hM q hq
   have hbs2 : LL G.Bmany B M (ks ++ [t]) = (G.Bmany :: B :: (M ++ bsL ks)) ++ t.bs := by unfold LL; rw [hbs]; simp
   rcases List.mem_append.1 hq with hq | hq
   · have h0 := hg.tr (M.filter (fun x => decide (x < n0)) ++ rs ka) (fun x hx => by
      rcases List.mem_append.1 hx with hx | hx
      · left; simpa using (List.mem_filter.1 hx).2
      · exact .inr hx) q hq
     have h1 : TreeAt (rs ka ++ LL G.Bmany B M (ks ++ [t])) wr q := h0.wide (fun x hx => by
      unfold LL at hx ⊢
      rw [hbs]
      simp only [List.mem_cons, List.mem_append, List.mem_filter, decide_eq_true_eq] at hx ⊢
      rcases hx with h | h | (h | h) | h
      · exact .inr (.inl h)
      · exact .inr (.inr (.inl h))
      · exact .inr (.inr (.inr (.inl h.1)))
      · exact .inl h
      · exact .inr (.inr (.inr (.inr (.inl h))))) (fun x hx hlt hm => by
      unfold LL at hx hm
      rw [hbs] at hm
      simp only [List.mem_cons, List.mem_append, List.mem_filter, decide_eq_true_eq, not_or] at hx hm
      obtain ⟨n1, n2, ⟨n3, n4⟩, n5⟩ := hx
      rcases hm with h | h | h | h | h | h
      · exact n4 h
      · exact n1 h
      · exact n2 h
      · rcases hM x h with h2 | h2
        · exact n3 ⟨h, h2⟩
        · rcases hd.na x h2 with h3 | h3
          · exact n4 h3
          · omega
      · exact n5 h
      · have := htf2 x h; omega)
     have hkk : Keeps (B :: G.Bmany :: rs ka) wr w13 := hd.kr.of_later hk (fun y hy => by
      simp only [List.mem_cons, List.not_mem_nil, or_false] at hy ⊢
      rcases hy with h | h
      · right; omega
      · left; right; left; exact h)
     have hq3 : ∀ x ∈ q.bs, x ∈ bsL ks := fun x hx => bsL_mem hq x hx
     refine (h1.keeps hkk (fun x hx => ?_) (fun x hx hm => ?_)).narrow (fun x hx => List.mem_append_right _ hx) (fun x hx => ?_)
     · unfold LL
       simp only [List.mem_cons, List.mem_append] at hx ⊢
       rcases hx with h | h | h
       · exact .inr (.inr (.inl h))
       · exact .inr (.inl h)
       · exact .inl h
     · have h2 := hg.fr x (hq3 x hx)
       simp only [List.mem_cons] at hm
       rcases hm with h | h | h
       · omega
       · omega
       · exact hg.na x h (hq3 x hx)
     · unfold LL
       rw [hbs]
       simp only [List.mem_cons, List.mem_append]
       exact .inr (.inr (.inr (.inl (hq3 x hx))))
   · rw [List.mem_singleton.1 hq, hbs2]
     refine htr _ (fun x hx => ?_)
     simp only [List.mem_cons, List.mem_append] at hx
     rcases hx with h | h | h | h
     · omega
     · omega
     · rcases hM x h with h2 | h2
       · omega
       · exact (hrs2 x h2).2
     · have := hg.fr x h; omega
theorem GLoop.done {w w5 wr wf : World} {G : GLay} {B : Nat} {f1 f2 : Nf} {o : Option Pa} {ks : List Tr} {m : Int} {ka : Option Addr} {kcap : Nat}
 (hg : GLoop w5 wr w.heap.size G B f1 o ks m ka kcap) (hB : B < w.heap.size) (hn : w.heap.size ≤ w5.heap.size) (hBm : G.Bmany < B) (hk : Keeps [B] wr wf) (hnd : NodeAt wf B f2 ka ks.length kcap) :
 (Tr.node B f2 ks).bs.Nodup ∧ (∀ x ∈ (Tr.node B f2 ks).bs, x = B ∨ w.heap.size ≤ x) ∧ ManyAt wf G (IntKind.i64.wrap (m + (Tr.node B f2 ks).pre.length)) ∧ ∀ M : List Nat, (∀ x ∈ M, x < w.heap.size) → TreeAt (M ++ (Tr.node B f2 ks).bs) wf (.node B f2 ks) := by
 have hrs := own_rs hg.ow
 have hbs : (Tr.node B f2 ks).bs = B :: bsL ks := by simp only [Tr.bs]
 refine ⟨by rw [hbs]; exact hg.dj, fun x hx => ?_, ?_, fun M hM => ?_⟩
 · rw [hbs] at hx
   rcases List.mem_cons.1 hx with e | hx
   · exact .inl e
   · right; have := hg.fr x hx; omega
 · simp only [Tr.pre]
   exact hg.mn.keeps hk (fun e => by have := List.mem_singleton.1 e; omega)
 · rw [hbs]
   obtain ⟨a, cap, ev, hc, hrd, hbl⟩ := Rd.of_own hg.ow ptrs_length (by decide) (by simp) (by
    rcases hg.ow.2 with ⟨_, h⟩ | ⟨g, c, cur, _, _, _, h1, h2, _⟩
    · rw [h]; exact Nat.zero_le _
    · omega)
   cases ev
   refine .node (List.mem_append_right _ (by simp)) hnd (hk.rd hrd (fun h0 p e hm => ?_)) (fun h0 p e hm => ?_) (fun q hq => ?_)
   · have h1 := (hbl p e).1
     have h2 := List.mem_singleton.1 hm
     omega
   · have h1 := (hbl p e).1
     rcases List.mem_append.1 hm with hm | hm
     · have := hM _ hm; omega
     · rcases List.mem_cons.1 hm with hm | hm
       · omega
       · exact hg.na p.block (by simp [rs, e]) hm
   · have h0 := hg.tr M (fun x hx => .inl (hM x hx)) q hq
     have hq3 : ∀ x ∈ q.bs, x ∈ bsL ks := fun x hx => bsL_mem hq x hx
     refine (h0.keeps hk (fun x hx => by rw [List.mem_singleton.1 hx]; unfold LL; simp) (fun x hx hm => ?_)).narrow (fun x hx => ?_) (fun x hx => List.mem_append_right _ (List.mem_cons_of_mem _ (hq3 x hx)))
     · have h1 := List.mem_singleton.1 hm
       have h2 := hg.fr x (hq3 x hx)
       omega
     · unfold LL
       simp only [List.mem_append, List.mem_cons] at hx ⊢
       rcases hx with h | h | h
       · exact .inr (.inr (.inl h))
       · exact .inr (.inl h)
       · exact .inr (.inr (.inr h))
theorem grow_none {ps ts : List Pa} {has : Int → Bool} {d : Nat} {pack oL oH : Int} (h : mapO (fun p => growT ps ts has d p (ownOf has ((ofI ps p).getD pa0)).1 (ownOf has ((ofI ps p).getD pa0)).2) (insideI ps pack) = none) : growT ps ts has (d + 1) pack oL oH = none := by
 simp only [growT]
 rw [h]
theorem grow_less {ps ts : List Pa} {has : Int → Bool} {d : Nat} {pack oL oH : Int} {qs : List Tr} {o : Option Pa} (h : mapO (fun p => growT ps ts has d p (ownOf has ((ofI ps p).getD pa0)).1 (ownOf has ((ofI ps p).getD pa0)).2) (insideI ps pack) = some qs) (ho : ofI ts pack = o)
 (hm : missOf o qs.length < 0) : growT ps ts has (d + 1) pack oL oH = none := by
 simp only [growT]
 rw [h]
 simp only
 rw [ho, if_pos hm]
theorem grow_some {ps ts : List Pa} {has : Int → Bool} {d : Nat} {pack oL oH sL sH : Int} {B : Nat} {ks : List Tr} {o : Option Pa} {mi : Int} (h : mapO (fun p => growT ps ts has d p (ownOf has ((ofI ps p).getD pa0)).1 (ownOf has ((ofI ps p).getD pa0)).2) (insideI ps pack) = some (ks.map Tr.sh)) (ho : ofI ts pack = o)
 (hs : (sumsOf has o).1 = sL ∧ (sumsOf has o).2 = sH) (hm : missOf o ks.length = mi) (h0 : 0 ≤ mi) : growT ps ts has (d + 1) pack oL oH = some (Tr.node B ⟨pack, oL, oH, sL, sH, mi, 0, 0, 0⟩ ks).sh := by
 simp only [growT]
 rw [h]
 simp only
 rw [ho, List.length_map, hm, if_neg (by omega), hs.1, hs.2]
 simp only [Tr.sh, shL_map]
end Go.Proofs.YtehplmeckfinoaaGreatDoor
