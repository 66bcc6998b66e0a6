/- The walk of purse's Balances. A balance is read as a due: the party, what was paid (parcel), what came back (amount). -/
import Derived.Test.YtehedodogkhmgaaGreatReasonsP
import Derived.Test.YtehedodogkhmgaaGreatDeleteB
import Derived.Test.YtehedodogkhmgaaGreatLast
set_option linter.unusedSimpArgs false
set_option linter.unusedVariables false
namespace Go.Proofs.YtehedodogkhmgaaGreat
open Go.RowKit Go.Shelf
attribute [local go_sem] Oper.semAt_some

def zBa : Du := ⟨0, 0, 0⟩
/-- what the array holds at a place -/
def atB (all : List Du) (i : Nat) : Du := all.getD i zBa
/-- the array with one posting more -/
def addB (all : List Du) (p : Po) : List Du :=
  all.set p.party.toNat (if p.kind = 2 then ⟨p.party, (atB all p.party.toNat).parcel + p.amount, (atB all p.party.toNat).amount⟩ else ⟨p.party, (atB all p.party.toNat).parcel, (atB all p.party.toNat).amount + p.amount⟩)
def arrB (pre : List Po) : List Du := pre.foldl addB (List.replicate 41 zBa)
theorem arrB_snoc (pre : List Po) (p : Po) : arrB (pre ++ [p]) = addB (arrB pre) p := by simp [arrB]
theorem addB_length (all : List Du) (p : Po) : (addB all p).length = all.length := by unfold addB; exact List.length_set
theorem foldB_length : ∀ (pre : List Po) (all : List Du), (pre.foldl addB all).length = all.length
  | [], _ => rfl
  | p :: r, all => by rw [List.foldl_cons, foldB_length r, addB_length]
theorem arrB_length (pre : List Po) : (arrB pre).length = 41 := by unfold arrB; rw [foldB_length]; simp
theorem atB_at {all : List Du} {i : Nat} (h : i < all.length) : all[i]? = some (atB all i) := by
  unfold atB; rw [List.getD_eq_getElem?_getD, List.getElem?_eq_getElem h]; rfl
theorem foldB_bd (c : Int) (hc : 0 ≤ c) : ∀ (pre : List Po) (all : List Du) (m : Nat), (∀ p ∈ pre, 0 ≤ p.amount ∧ p.amount ≤ c) → (∀ i, 0 ≤ (atB all i).parcel ∧ (atB all i).parcel ≤ c * m ∧ 0 ≤ (atB all i).amount ∧ (atB all i).amount ≤ c * m) →
    ∀ i, 0 ≤ (atB (pre.foldl addB all) i).parcel ∧ (atB (pre.foldl addB all) i).parcel ≤ c * ((m + pre.length : Nat) : Int) ∧ 0 ≤ (atB (pre.foldl addB all) i).amount ∧ (atB (pre.foldl addB all) i).amount ≤ c * ((m + pre.length : Nat) : Int)
  | [], all, m, _, h => by simpa using h
  | p :: r, all, m, hp, h => by
    have hp1 := hp p (by simp)
    have := foldB_bd c hc r (addB all p) (m + 1) (fun q hq => hp q (by simp [hq])) (fun i => by
      have h1 := h i
      have h2 := h p.party.toNat
      have hm : c * ((m + 1 : Nat) : Int) = c * (m : Int) + c := by push_cast; rw [Int.mul_add, Int.mul_one]
      rw [hm]
      unfold addB
      by_cases hi : i = p.party.toNat ∧ i < all.length
      · obtain ⟨rfl, hl⟩ := hi
        have e : ∀ y, atB (all.set p.party.toNat y) p.party.toNat = y := fun y => by
          unfold atB; rw [List.getD_eq_getElem?_getD, List.getElem?_set_self hl]; rfl
        rw [e]
        split <;> dsimp only <;> omega
      · have e : ∀ y, atB (all.set p.party.toNat y) i = atB all i := fun y => by
          unfold atB
          rw [List.getD_eq_getElem?_getD, List.getD_eq_getElem?_getD]
          by_cases hne : p.party.toNat = i
          · subst hne
            have hl : ¬ p.party.toNat < all.length := fun hl => hi ⟨rfl, hl⟩
            rw [List.getElem?_eq_none (by rw [List.length_set]; omega), List.getElem?_eq_none (by omega)]
          · rw [List.getElem?_set_ne hne]
        rw [e]
        omega)
    rw [List.foldl_cons, List.length_cons, show m + (r.length + 1) = m + 1 + r.length by omega]
    exact this
theorem arrB_bd {pre : List Po} (h : ∀ p ∈ pre, 0 ≤ p.amount ∧ p.amount ≤ 1000000000) (hl : pre.length ≤ 1000) (i : Nat) :
    0 ≤ (atB (arrB pre) i).parcel ∧ (atB (arrB pre) i).parcel ≤ 1000000000000 ∧ 0 ≤ (atB (arrB pre) i).amount ∧ (atB (arrB pre) i).amount ≤ 1000000000000 := by
  have h0 : ∀ i, atB (List.replicate 41 zBa) i = zBa := fun i => by
    unfold atB
    rw [List.getD_eq_getElem?_getD, List.getElem?_replicate]
    split <;> rfl
  have := foldB_bd 1000000000 (by omega) pre (List.replicate 41 zBa) 0 h (fun i => by rw [h0]; simp [zBa]) i
  unfold arrB
  have hl' : (1000000000 : Int) * ((0 + pre.length : Nat) : Int) ≤ 1000000000000 := by omega
  omega

/-- the array lies in block B -/
def ArrAt (W : World) (B : Nat) (all : List Du) : Prop := W.heap[B]? = some (.cells (all.flatMap Du.vals).toArray 124 (0, 0))
theorem ArrAt.new (w : World) : ArrAt (w.alloc (.cells Tryz.zeroCells124 124)) w.heap.size (arrB []) := by
  unfold ArrAt
  rw [heap_alloc_new]
  have : Tryz.zeroCells124 = ((arrB []).flatMap Du.vals).toArray := by kernel_rfl
  rw [this]
theorem ArrAt.lt {W : World} {B : Nat} {all : List Du} (h : ArrAt W B all) : B < W.heap.size := (Array.getElem?_eq_some_iff.1 h).1
theorem ArrAt.frozen {W : World} {B : Nat} {all : List Du} (h : ArrAt W B all) (j : Nat) : W.frozen? ⟨B, j, none⟩ = false := frz0 h j
theorem ArrAt.same {W W' : World} {B : Nat} {all : List Du} (h : ArrAt W B all) (e : W'.heap[B]? = W.heap[B]?) : ArrAt W' B all := by unfold ArrAt; rw [e]; exact h
theorem ArrAt.kept {W W' : World} {B : Nat} {all : List Du} {row : Option Nat} (h : ArrAt W B all) (hg : W.grownBy W' row) (hne : some B ≠ row) : ArrAt W' B all := h.same (hg.block B h.lt hne)
theorem ArrAt.cell {W : World} {B : Nat} {all : List Du} (h : ArrAt W B all) {i : Nat} (hi : i < all.length) :
    W.cell? ⟨B, i * 3, none⟩ = some (.int .i64 (atB all i).party) ∧ W.cell? ⟨B, i * 3 + 1, none⟩ = some (.int .i64 (atB all i).parcel) ∧ W.cell? ⟨B, i * 3 + 2, none⟩ = some (.int .i64 (atB all i).amount) := by
  have hat := fun j hj => flat_at du_vals_length all i _ j (atB_at hi) hj
  refine ⟨?_, ?_, ?_⟩
  · rw [cell_of_row _ _ _ _ _ (0, 0) h]; have := hat 0 (by omega); rw [show (Du.vals (atB all i))[0]? = some (.int .i64 (atB all i).party) from rfl] at this; simpa using this
  · rw [cell_of_row _ _ _ _ _ (0, 0) h]; have := hat 1 (by omega); rw [show (Du.vals (atB all i))[1]? = some (.int .i64 (atB all i).parcel) from rfl] at this; simpa using this
  · rw [cell_of_row _ _ _ _ _ (0, 0) h]; have := hat 2 (by omega); rw [show (Du.vals (atB all i))[2]? = some (.int .i64 (atB all i).amount) from rfl] at this; simpa using this
theorem ArrAt.set {W : World} {B : Nat} {all : List Du} (h : ArrAt W B all) {i j : Nat} {x x' : Du} {v : Value} (hi : all[i]? = some x) (hj : j < 3) (he : x'.vals = x.vals.set j v) : ArrAt (W.setCell ⟨B, i * 3 + j, none⟩ v) B (all.set i x') := by
  unfold ArrAt at *
  have hf := flat_set du_vals_length all i j x x' v hi hj he
  simp [World.setCell, Array.getElem?_modify, h, hf]
theorem ArrAt.rd {W : World} {B : Nat} {all : List Du} (h : ArrAt W B all) (hl : all.length = 41) : Rd Du.vals 3 W (some ⟨B, 0, none⟩) 41 all :=
  ⟨hl, by unfold maxLen; omega, fun i hi => ⟨B, 0, _, rfl, h.lt, atB_at (by omega), fun j hj => by
    rw [cell_of_row _ _ _ _ _ (0, 0) h]
    have := flat_at du_vals_length all i _ j (atB_at (by omega)) hj
    simpa using this⟩⟩
theorem own_arr (B n : Nat) (hB : B < n) : OwnFrom n (fun (s : List Du) W => ArrAt W B s) := fun _ _ _ _ hs hg hr => hs.kept hg (fun e => by have := (hr B e.symm).1; omega)
theorem keeps_grown {W W' : World} {B : Nat} {all : List Du} (h : ArrAt W B all) (hg : W.grownBy W' (some B)) : KeepsOthers W W' :=
  KeepsOthers.of_grownBy hg (fun j o e ho => by cases e; rw [show W.heap[B]? = _ from h] at ho; cases ho; rfl)
theorem grown_drewN (W : World) (n : Nat) (row : Option Nat) : W.grownBy (W.drewN n) row := ⟨rfl, rfl, rfl, Nat.le_refl _, fun _ _ _ => rfl⟩

/-- a posting that is no sale -/
def noSale (p : Po) : Bool := decide (p.kind ≠ 1)
def balR (xs : List Po) : List Du := (arrB (someL xs noSale)).filter (fun b => !decide (b.parcel = 0))

set_option maxHeartbeats 2000000 in
theorem balances1_any (p : Po) (w : World) :
    Calls Tryz.prog 106 #[.agg #[.int .i64 p.id, .int .i64 p.hour, .int .u8 p.kind, .int .i64 p.party, .int .i64 p.parcel, .int .i64 p.amount, .int .i64 p.reason, .int .i64 p.known]] w fun e W' =>
      e = .returned (.bool (noSale p)) ∧ Below w.heap.size w W' := by
  go_enter Tryz.func106, Tryz.ntmps106
  by_cases q1 : p.kind = 1
  · have e1 : (p.kind != 1) = false := by simp [q1]
    have HQ := Lib.hid q1
    clear q1
    go_wp2_with fail
    go_ret
    exact ⟨ret_bool (by simp [noSale, HQ.out]), (Below.refl _ _).alloc (Nat.le_refl _) _⟩
  · have e1 : (p.kind != 1) = true := by simp [q1]
    have HQ := Lib.hid q1
    clear q1
    go_wp2_with fail
    go_ret
    exact ⟨ret_bool (by simp [noSale, HQ.out]), (Below.refl _ _).alloc (Nat.le_refl _) _⟩
set_option maxHeartbeats 2000000 in
theorem balances2_any (x : Du) (w : World) :
    Calls Tryz.prog 109 #[.agg #[.int .i64 x.party, .int .i64 x.parcel, .int .i64 x.amount]] w fun e W' =>
      e = .returned (.bool (decide (x.parcel = 0))) ∧ Below w.heap.size w W' := by
  go_enter Tryz.func109, Tryz.ntmps109
  by_cases q1 : x.parcel = 0
  · have e1 : (x.parcel == 0) = true := by simp [q1]
    have HQ := Lib.hid q1
    clear q1
    go_wp2_with fail
    go_ret
    exact ⟨ret_bool (by simp [HQ.out]), (Below.refl _ _).alloc (Nat.le_refl _) _⟩
  · have e1 : (x.parcel == 0) = false := by simp [q1]
    have HQ := Lib.hid q1
    clear q1
    go_wp2_with fail
    go_ret
    exact ⟨ret_bool (by simp [HQ.out]), (Below.refl _ _).alloc (Nat.le_refl _) _⟩

def BalPost (w : World) (l : List Du) (e : Ending) (w' : World) : Prop :=
  ∃ v, e = .returned v ∧ w'.ownsRow w.heap.size 59 3 v l.length (l.flatMap Du.vals) ∧ Below w.heap.size w w'

set_option maxRecDepth 100000 in
set_option maxHeartbeats 8000000 in
theorem balances_in (a : Option Addr) (n cap : Nat) (xs : List Po) (w : World) (h : Rd Po.vals 8 w a n xs) (hn : n ≤ 1000) (hw : ∀ p ∈ xs, p.Wf) :
    CallsIn Fence.wide 5 Tryz.prog 45 #[.slice a n cap] w (BalPost w (balR xs)) := by
  have H := Lib.hid h
  have hlow0 : 0 < n → ∀ p, a = some p → p.block < w.heap.size := fun hn0 p e => by
    obtain ⟨b, off, x, ha, hb, _⟩ := h.read 0 (by omega)
    rw [e] at ha; cases ha; exact hb
  clear h
  refine callsIn_of_wp_marks Tryz.func45 rfl trivial ?_ rfl
  simp only [Tryz.ntmps45, List.size_toArray, List.length_cons, List.length_nil, Nat.reduceAdd, Nat.reduceSub, Array.replicate_succ, Array.replicate_zero, List.push_toArray, List.append_toArray, List.nil_append, List.cons_append]
  gi_wp2_with (refine ⟨trivial, ?_⟩; gi_at_call 81; refine (callsIn_wide.2 (some_any a n cap _ _ _)).mono ?_; rintro e w2 ⟨rfl, rfl⟩)
  have hA := ((ArrAt.new w).kept (World.grownBy_alloc _ (.cells #[.slice a n cap] 22) none) (by simp)).kept (World.grownBy_alloc _ (.cells #[.func (.func 106) #[] #[]] 111) none) (by simp)
  have bl := (Boxed.new (w.alloc (.cells Tryz.zeroCells124 124)) 22 (.slice a n cap)).alloc (.cells #[.func (.func 106) #[] #[]] 111)
  have bw := Boxed.new ((w.alloc (.cells Tryz.zeroCells124 124)).alloc (.cells #[.slice a n cap] 22)) 111 (.func (.func 106) #[] #[])
  have hb : Below w.heap.size w (((w.alloc (.cells Tryz.zeroCells124 124)).alloc (.cells #[.slice a n cap] 22)).alloc (.cells #[.func (.func 106) #[] #[]] 111)) :=
    (((Below.refl _ w).alloc (Nat.le_refl _) _).alloc (by simp) _).alloc (by simp; omega) _
  have hsz : (((w.alloc (.cells Tryz.zeroCells124 124)).alloc (.cells #[.slice a n cap] 22)).alloc (.cells #[.func (.func 106) #[] #[]] 111)).heap.size = w.heap.size + 3 := by simp
  simp only [World.size_alloc] at bl bw ⊢
  obtain ⟨W0, hW0⟩ : ∃ W0, ((w.alloc (.cells Tryz.zeroCells124 124)).alloc (.cells #[.slice a n cap] 22)).alloc (.cells #[.func (.func 106) #[] #[]] 111) = W0 := ⟨_, rfl⟩
  rw [hW0] at hA bl bw hb hsz ⊢
  clear hW0
  have hsz1 : w.heap.size + 3 ≤ W0.heap.size := by omega
  clear hsz
  have hq : WantsB w.heap.size 106 #[] xs noSale W0 := fun W' p hp hB => balances1_any p W'
  have hR0 := H.out.below' hb
  refine wpIn_rangeFunc_ownH rfl (by omega) (gf := 120) (lb := #[.pointer (some ⟨w.heap.size + 1, 0, none⟩), .pointer (some ⟨w.heap.size + 2, 0, none⟩)]) rfl trivial (enters_of Tryz.func120 (by kernel_rfl) rfl)
    (someB_stops w.heap.size 4 (by omega) (w.heap.size + 1) (w.heap.size + 2) a n cap xs _ _ noSale W0 (enters_of Tryz.func106 (by kernel_rfl) rfl) bl.cell bw.cell hR0 hlow0 (by omega) (by omega) (by omega) hw hq)
    But.trans (fun W l o o' h1 h2 h3 h4 => Below.but (belowK_b (Nat.le_refl _) W l o o' h1 h2 h3 h4)) (Below.refl _ _) (fun _ => rfl)
    (fun pre W => ArrAt W w.heap.size (arrB (pre.map (·.1))) ∧ Below w.heap.size W0 W)
    (fun _ _ _ => False)
    (OwnFrom.and (show OwnFrom W0.heap.size (fun (s : List (PoOk xs)) W => ArrAt W w.heap.size (arrB (s.map (·.1)))) from fun s X Y row hs hg hr => ArrAt.kept hs hg (fun e => by have := (hr _ e.symm).1; omega)) (ownFrom_below (by omega) (by omega)))
    (fun _ _ _ _ _ hs _ _ => hs)
    ⟨hA, Below.refl _ _⟩
    (fun x a' W => ∃ Bx, w.heap.size < Bx ∧ W.heap[Bx]? = some (.cells #[.int .i64 x.1.id, .int .i64 x.1.hour, .int .u8 x.1.kind, .int .i64 x.1.party, .int .i64 x.1.parcel, .int .i64 x.1.amount, .int .i64 x.1.reason, .int .i64 x.1.known] 63 (0, 0)) ∧
      a' = { tmps := #[.slice a n cap, undef, .slice none 0 0, .pointer (some ⟨w.heap.size, 0, none⟩), .pointer (some ⟨Bx, 0, none⟩), undef, .slice a n cap, .func (.func 120) #[] #[.pointer (some ⟨w.heap.size + 1, 0, none⟩), .pointer (some ⟨w.heap.size + 2, 0, none⟩)], vPo x.1, undef, undef, undef, undef, undef, undef, undef, undef, undef, undef, undef, undef, undef, undef, undef, undef, undef, undef, undef, undef, undef, undef, undef, undef, undef, undef, undef, undef, undef, undef, undef, undef], defers := [] })
    (fun x a' _ X Y row hs hg hr => by
      obtain ⟨Bx, h1, h2, h3⟩ := hs
      refine ⟨Bx, h1, (hg.block Bx (Array.getElem?_eq_some_iff.1 h2).1 (fun e => ?_)).trans h2, h3⟩
      obtain ⟨_, o, ho, hc⟩ := hr Bx e.symm
      rw [h2] at ho; cases ho; cases hc)
    ?assign ?body ?done ?stop
  case assign =>
    rintro l pre x W K ⟨hA1, hB2⟩ hK
    unfold vPo
    gi_wp2
    exact hK _ _ ((KeepsOthers.alloc _ _).from _) (Below.but ((Below.refl _ W).alloc hB2.size _)) ⟨hA1.kept (World.grownBy_alloc _ _ none) (by simp), hB2.alloc (by have := hB2.size; omega) _⟩ ⟨W.heap.size, hA1.lt, heap_alloc_new W _, rfl⟩
  case body =>
    rintro l pre x a' W hl hr ⟨hA1, hB2⟩ ⟨Bx, hBx, bX, rfl⟩ hlt
    have hokl := checkL_okl x.2.2
    have hx := hokl x.1 x.2.1
    unfold okPo at hx
    obtain ⟨k, hk⟩ := Int.eq_ofNat_of_zero_le (show 0 ≤ x.1.party by omega)
    have hk40 : k ≤ 40 := by omega
    have hk1 : (0 : Int) ≤ (k : Int) := by omega
    have hk2 : (k : Int) < 41 := by omega
    have hbd := arrB_bd (pre := pre.map (·.1)) (fun p hp => by
      obtain ⟨y, _, rfl⟩ := List.mem_map.1 hp
      have := hokl y.1 y.2.1
      unfold okPo at this
      omega) (by rw [List.length_map]; omega) k
    have hlen := arrB_length (pre.map (·.1))
    have hS : arrB ((pre ++ [x]).map (·.1)) = addB (arrB (pre.map (·.1))) x.1 := by rw [List.map_append]; exact arrB_snoc _ _
    have q2 : W.cell? ⟨Bx, 2, none⟩ = some (.int .u8 x.1.kind) := by rw [cell_of_row _ _ _ _ _ (0, 0) bX]; rfl
    have q3 : W.cell? ⟨Bx, 3, none⟩ = some (.int .i64 k) := by rw [cell_of_row _ _ _ _ _ (0, 0) bX, ← hk]; rfl
    have q5 : W.cell? ⟨Bx, 5, none⟩ = some (.int .i64 x.1.amount) := by rw [cell_of_row _ _ _ _ _ (0, 0) bX]; rfl
    obtain ⟨p0, p1, p2⟩ := hA1.cell (i := k) (by omega)
    have hf0 := hA1.frozen (k * 3)
    have hxa : 0 ≤ x.1.amount ∧ x.1.amount ≤ 1000000000 := by omega
    have hxk : x.1.kind = 2 ∨ x.1.kind ≠ 2 := by omega
    obtain ⟨y, hy⟩ : ∃ y, atB (arrB (pre.map (·.1))) k = y := ⟨_, rfl⟩
    obtain ⟨all, hall⟩ : ∃ all, arrB (pre.map (·.1)) = all := ⟨_, rfl⟩
    rw [hall] at hA1 hlen hS hy hbd p0 p1 p2
    rw [hy] at hbd p0 p1 p2
    have hyat := atB_at (all := all) (i := k) (by omega)
    rw [hy] at hyat
    have hadd2 : x.1.kind = 2 → addB all x.1 = all.set k ⟨k, y.parcel + x.1.amount, y.amount⟩ := fun e => by
      unfold addB; rw [hk, show (k : Int).toNat = k from rfl, hy, if_pos e]
    have hadd3 : x.1.kind ≠ 2 → addB all x.1 = all.set k ⟨k, y.parcel, y.amount + x.1.amount⟩ := fun e => by
      unfold addB; rw [hk, show (k : Int).toNat = k from rfl, hy, if_neg e]
    have hA2 := hA1.set (j := 0) (x' := ⟨k, y.parcel, y.amount⟩) (v := .int .i64 k) hyat (by omega) rfl
    have hg2 := grownBy_setCell'' W w.heap.size (k * 3 + 0) (.int .i64 k)
    simp only [Nat.add_zero] at hA2 hg2
    have hne : Bx ≠ w.heap.size := by omega
    have Hk := Lib.hid hk
    have HS := Lib.hid hS
    clear hx hokl hk hS hr hl hall hy
    have q5' : (W.setCell ⟨w.heap.size, k * 3, none⟩ (.int .i64 k)).cell? ⟨Bx, 5, none⟩ = some (.int .i64 x.1.amount) := (hg2.cell_far ⟨Bx, 5, none⟩ (World.block_lt_of_cell? _ _ q5) (by simpa using hne)).trans q5
    have q2' : (W.setCell ⟨w.heap.size, k * 3, none⟩ (.int .i64 k)).cell? ⟨Bx, 2, none⟩ = some (.int .u8 x.1.kind) := (hg2.cell_far ⟨Bx, 2, none⟩ (World.block_lt_of_cell? _ _ q2) (by simpa using hne)).trans q2
    obtain ⟨r0, r1, r2⟩ := hA2.cell (i := k) (by rw [List.length_set]; omega)
    have hat : atB (all.set k ⟨k, y.parcel, y.amount⟩) k = ⟨k, y.parcel, y.amount⟩ := by unfold atB; rw [List.getD_eq_getElem?_getD, List.getElem?_set_self (by omega)]; rfl
    rw [hat] at r0 r1 r2
    dsimp only at r0 r1 r2
    have hA1' := Lib.hid hA1
    have HB2 := Lib.hid hB2
    have Hg2 := Lib.hid hg2
    have HA2 := Lib.hid hA2
    have Hadd2 := Lib.hid hadd2
    have Hadd3 := Lib.hid hadd3
    clear hA1 hB2 hg2 hA2 hadd2 hadd3 hat hyat p1 p2
    rcases hxk with hx2 | hx2
    · have e1 : (x.1.kind == 2) = true := by simp [hx2]
      have HX := Lib.hid hx2
      clear hx2
      gi_wp2_with fail
      have hf1 := HA2.out.frozen (k * 3 + 1)
      generalize W.setCell ⟨w.heap.size, k * 3, none⟩ (.int .i64 k) = W1 at *
      have hwr : IntKind.i64.wrap (y.parcel + x.1.amount) = y.parcel + x.1.amount := IntWalk.i64_in _ (by omega)
      have HFA := Lib.hid (show ArrAt (W1.setCell ⟨w.heap.size, k * 3 + 1, none⟩ (.int .i64 (y.parcel + x.1.amount))).drew w.heap.size (arrB ((pre ++ [x]).map (·.1))) from by
        rw [HS.out, Hadd2.out HX.out]
        have h1 := HA2.out.set (j := 1) (x := ⟨k, y.parcel, y.amount⟩) (x' := ⟨k, y.parcel + x.1.amount, y.amount⟩) (v := .int .i64 (y.parcel + x.1.amount)) (List.getElem?_set_self (by omega)) (by omega) rfl
        rw [List.set_set] at h1
        exact h1.same rfl)
      have HGA := Lib.hid (show W.grownBy (W1.setCell ⟨w.heap.size, k * 3 + 1, none⟩ (.int .i64 (y.parcel + x.1.amount))).drew (some w.heap.size) from (Hg2.out.trans (grownBy_setCell'' _ _ _ _)).trans (grown_drewN _ 1 _))
      gi_region
      all_goals gi_wp2
      all_goals exact ⟨(keeps_grown hA1'.out HGA.out).from _, (But.refl _ _ W).grown HGA.out HB2.out.size (fun j e => .inl (by cases e; rfl)), HFA.out, HB2.out.grown HGA.out (by have := HB2.out.size; omega) (fun j e => by cases e; exact Nat.le_refl _)⟩
    · have e1 : (x.1.kind == 2) = false := by simp [hx2]
      have HX := Lib.hid hx2
      clear hx2
      gi_wp2_with fail
      have hf1 := HA2.out.frozen (k * 3 + 2)
      generalize W.setCell ⟨w.heap.size, k * 3, none⟩ (.int .i64 k) = W1 at *
      have hwr : IntKind.i64.wrap (y.amount + x.1.amount) = y.amount + x.1.amount := IntWalk.i64_in _ (by omega)
      have HFA := Lib.hid (show ArrAt (W1.setCell ⟨w.heap.size, k * 3 + 2, none⟩ (.int .i64 (y.amount + x.1.amount))).drew w.heap.size (arrB ((pre ++ [x]).map (·.1))) from by
        rw [HS.out, Hadd3.out HX.out]
        have h1 := HA2.out.set (j := 2) (x := ⟨k, y.parcel, y.amount⟩) (x' := ⟨k, y.parcel, y.amount + x.1.amount⟩) (v := .int .i64 (y.amount + x.1.amount)) (List.getElem?_set_self (by omega)) (by omega) rfl
        rw [List.set_set] at h1
        exact h1.same rfl)
      have HGA := Lib.hid (show W.grownBy (W1.setCell ⟨w.heap.size, k * 3 + 2, none⟩ (.int .i64 (y.amount + x.1.amount))).drew (some w.heap.size) from (Hg2.out.trans (grownBy_setCell'' _ _ _ _)).trans (grown_drewN _ 1 _))
      gi_region
      all_goals gi_wp2
      all_goals exact ⟨(keeps_grown hA1'.out HGA.out).from _, (But.refl _ _ W).grown HGA.out HB2.out.size (fun j e => .inl (by cases e; rfl)), HFA.out, HB2.out.grown HGA.out (by have := HB2.out.size; omega) (fun j e => by cases e; exact Nat.le_refl _)⟩
  case done =>
    rintro D ys W hD hS ⟨hA1, hB2⟩ hK
    have hlen := arrB_length (ys.map (·.1))
    rw [hS] at hA1 hlen
    have hrd := hA1.rd hlen
    have hDW : D < W.heap.size := (Array.getElem?_eq_some_iff.1 hK).1
    gi_wp2_with (first
      | (refine ⟨trivial, ?_⟩; gi_at_call 108; refine (callsIn_wide.2 (cloneBa_any _ 41 41 _ _ hrd (by omega))).mono ?_; rintro e w4 ⟨v4, rfl, hrow4, hB4⟩)
      | (refine ⟨trivial, ?_⟩; gi_at_call 107; refine (callsIn_wide.2 (deleteBa_any 109 #[] (enters_of Tryz.func109 (by kernel_rfl) rfl) (fun b => decide (b.parcel = 0)) W.heap.size v4 (arrB (someL xs noSale)) w4 (by rw [hlen]; exact hrow4) (by omega) (fun W' x hx hg => balances2_any x W'))).mono ?_; rintro e w5 ⟨v5, rfl, hrow5, hg5⟩))
    have hlt4 := hrow4.lt
    have hK5 : w5.heap[D]? = some (.deferred (some [])) := (hg5.block D (Nat.lt_of_lt_of_le hDW hB4.size) (fun e => by have := (hlt4 D e.symm).1; omega)).trans ((hB4.block D hDW).trans hK)
    refine ⟨by simp, .inl ⟨_, _, rfl, run_takeDeferred hK5, ?_⟩⟩
    have hrow' := ownsRow_putObj hrow5 (.deferred none) hK5 rfl
    have hBW : Below w.heap.size w w5 := (hb.trans (hB2.trans (hB4.mono (by have := hB2.size; omega)))).grown hg5 (by have := hB2.size; have := hB4.size; omega) (fun j e => by have := (hlt4 j e).1; have := hB2.size; omega)
    exact ⟨_, results_tmp rfl _ _ _, v5, rfl, ownsRow_mono hrow' (by have := hB2.size; omega), hBW.trans (belowK_b (w := W0) (n₀ := w.heap.size) (by omega) w5 D _ _ hD hK5 rfl rfl)⟩
  case stop =>
    rintro D c pre W _ _ h _
    exact h.elim
theorem balances_any (a : Option Addr) (n cap : Nat) (xs : List Po) (w : World) (h : Rd Po.vals 8 w a n xs) (hn : n ≤ 1000) (hw : ∀ p ∈ xs, p.Wf) :
    Calls Tryz.prog 45 #[.slice a n cap] w (BalPost w (balR xs)) := callsIn_wide.1 (balances_in a n cap xs w h hn hw)
end Go.Proofs.YtehedodogkhmgaaGreat
