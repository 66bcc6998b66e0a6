/- The walks of the references' put and parcels. -/
import Derived.Test.YtehedodogkhmgaaGreatHeld
import Derived.Test.YtehedodogkhmgaaGreatAccL
import Derived.Laws.AppendOwnNone
import Derived.Deep.Cut
set_option linter.unusedSimpArgs false
set_option linter.unusedVariables false
namespace Go.Proofs.YtehedodogkhmgaaGreat
open Go.RowKit Go.Shelf

theorem alloc_at (w : World) (o : Obj) {k : Nat} (h : w.heap.size = k) : (w.alloc o).heap[k]? = some o := by subst h; exact heap_alloc_new w o
theorem mk_row {base : Nat} {e : TypeId} {size : Nat} (w : World) {k : Nat} (hb : base ≤ w.heap.size) (h : w.heap.size = k) : (w.alloc (.cells #[] e)).ownsRow base e size (.slice (some ⟨k, 0, none⟩) 0 0) 0 [] := by
  subst h; exact World.ownsRow_made w #[] 0 hb (Nat.zero_le _) (by simp)
/-- append of a slice that is only read, to a row of the call's own -/
theorem wpList_append_rd {α : Type} {E : α → List Value} {k : Nat} (hk : ∀ x, (E x).length = k) (hone : ∀ ys : List α, ∀ u ∈ ys.flatMap E, u.oneCell' = true) (hk0 : 0 < k) {P : Program} (w : World) {ops : Array Oper} {rest : List Oper} {o : Oper} {a : Act} {Q : Exit → Act → World → Prop} (hgd : o.guard = none) (s x : Operand) (t : TypeId)
    (ho : o.op = .call { callee := .builtin .append, args := #[s, x], argTypes := #[t, t] })
    (base : Nat) (e : TypeId) (i : TypeInfo) (z : Value) (bytes : Nat) (ht : P.underlying t = some (.slice e)) (hi : P.info? e = some i) (hz : i.zero = some z)
    (hsize : i.size = k) (hby : i.bytes = bytes) (hzs : z.cells.size = k) (v : Value) (n0 : Nat) (zs : List Value) (hs : a.eval s = v) (hown : w.ownsRow base e k v n0 zs)
    (ap : Option Addr) (m c : Nat) (ys : List α) (hx : a.eval x = .slice ap m c) (hrd : Rd E k w ap m ys) (hn : ap = none → c = 0) (h63 : n0 + m ≤ 100000) (hb : bytes ≤ 1000) (hbase : base ≤ w.heap.size)
    (h : ∀ v' w', w'.ownsRow base e k v' (n0 + m) (zs ++ ys.flatMap E) → w.grownBy w' v.ownBlock → wpList P ops Q rest (a.put o.dst v') w') : wpList P ops Q (o :: rest) a w := by
  cases ap with
  | none =>
    obtain ⟨rfl, rfl⟩ := hrd.nil_of
    obtain rfl := hn rfl
    exact wpList_append_own_none hgd s x t ho base e i k ht hi v n0 zs hs hown hx (h v w (by simpa using hown) ⟨rfl, rfl, rfl, Nat.le_refl _, fun _ _ _ => rfl⟩)
  | some ad =>
    refine wpList_append_own w hgd s x t ho base e i z k bytes ht hi hz hsize hby hzs hk0 v n0 zs hs hown ad m c (ys.flatMap E) hx (by rw [flat_length hk, hrd.len]) (Rd.news hrd hk) (hone _) (by unfold maxLen; omega)
      (Nat.le_trans (Nat.mul_le_mul h63 hb) (by decide)) hbase fun v' w' h1 h2 _ => h v' w' h1 h2
theorem Rd.drop {α : Type} {E : α → List Value} {k : Nat} {w : World} {b off n : Nat} {xs : List α} (h : Rd E k w (some ⟨b, off, none⟩) n xs) {m : Nat} (hm : m ≤ n) : Rd E k w (some ⟨b, off + m * k, none⟩) (n - m) (xs.drop m) :=
  ⟨by have := h.len; simp; omega, by have := h.cap; omega, fun i hi => by
    obtain ⟨b', off', x, he, hlt, hx, hc⟩ := h.read (m + i) (by omega)
    cases he
    refine ⟨b, off + m * k, x, rfl, hlt, by rw [List.getElem?_drop]; exact hx, fun j hj => ?_⟩
    have := hc j hj
    rw [Nat.add_mul] at this
    rw [← this]
    congr 2
    omega⟩

/-- put into a list that is strictly ascending, by the place -/
theorem putL_at : ∀ (ys : List Int) (m : Nat) (x : Int), m ≤ ys.length → (∀ j y, j < m → ys[j]? = some y → y < x) → (∀ j y, m ≤ j → ys[j]? = some y → x < y) → putL ys x = ys.take m ++ x :: ys.drop m
  | [], m, x, hm, _, _ => by simp [putL]
  | y :: r, 0, x, hm, _, h2 => by
    have := h2 0 y (Nat.le_refl _) rfl
    simp [putL, this]
  | y :: r, m + 1, x, hm, h1, h2 => by
    have hy := h1 0 y (by omega) rfl
    unfold putL
    rw [if_neg (by omega), if_neg (by omega), putL_at r m x (by simp at hm; omega) (fun j z hj hz => h1 (j + 1) z (by omega) (by simpa using hz)) (fun j z hj hz => h2 (j + 1) z (by omega) (by simpa using hz))]
    simp
theorem putL_has : ∀ (ys : List Int) (x : Int), ys.Pairwise (· < ·) → x ∈ ys → putL ys x = ys
  | [], x, _, h => by simp at h
  | y :: r, x, hs, h => by
    rw [List.pairwise_cons] at hs
    unfold putL
    rcases List.mem_cons.1 h with rfl | h
    · rw [if_neg (by omega), if_pos rfl]
    · have := hs.1 x h
      rw [if_neg (by omega), if_neg (by omega), putL_has r x hs.2 h]
theorem sorted_before {ys : List Int} (hs : ys.Pairwise (· < ·)) {i j : Nat} {x y : Int} (hij : i < j) (hi : ys[i]? = some x) (hj : ys[j]? = some y) : x < y := by
  obtain ⟨h1, rfl⟩ := List.getElem?_eq_some_iff.1 hi
  obtain ⟨h2, rfl⟩ := List.getElem?_eq_some_iff.1 hj
  exact List.pairwise_iff_getElem.1 hs i j h1 h2 hij

def PutPost (w : World) (ys : List Int) (e : Ending) (w' : World) : Prop :=
  ∃ a m c, e = .returned (.slice a m c) ∧ Rd ints 1 w' a m ys ∧ m ≤ c ∧ (a = none → c = 0) ∧ (∀ q, a = some q → ∃ b off, q = ⟨b, off, none⟩) ∧ Below w.heap.size w w'
set_option maxRecDepth 100000 in
set_option maxHeartbeats 4000000 in
theorem put_any (a : Option Addr) (n cap : Nat) (ys : List Int) (x : Int) (w : World) (h : Rd ints 1 w a n ys) (hs : ys.Pairwise (· < ·)) (hcap : n ≤ cap) (hz : a = none → cap = 0) (hq : ∀ q, a = some q → ∃ b off, q = ⟨b, off, none⟩) (hn : n ≤ 10000) :
    Calls Tryz.prog 104 #[.slice a n cap, .int .i64 x] w (PutPost w (putL ys x)) := by
  have H := Lib.hid h
  have Hs := Lib.hid hs
  have Hz := Lib.hid hz
  have hl := h.len
  have hm := h.cap
  unfold maxLen at hm
  obtain ⟨i0, hi0, hz0, hz1, hz2⟩ := info_parts info_int
  cases a with
  | none =>
    obtain ⟨rfl, rfl⟩ := h.nil_of
    obtain rfl := hz rfl
    clear h hs hz hq
    go_enter Tryz.func104, Tryz.ntmps104
    go_wp2
    go_loop [5] (fun i => i = .int .i64 0) (fun i => (intOf i).toNat)
    case atStart => rfl
    case round =>
      subst hrel
      go_upto_region 6 with (fail)
      go_upto_region 7 with (at_builtin; (refine wpList_append_own_none rfl _ _ 39 rfl w.heap.size 3 i0 1 Tryz.underlying39 hi0 (.slice (some ⟨w.heap.size, 0, none⟩) 0 0) 0 [] rfl (mk_row w (Nat.le_refl _) rfl) rfl ?_))
      have HB1 := Lib.hid ((Below.refl w.heap.size w).alloc (Nat.le_refl _) (.cells #[] 3))
      have HO1 := Lib.hid (mk_row (e := 3) (size := 1) w (Nat.le_refl w.heap.size) rfl)
      have hsz : (w.alloc (.cells #[] 3)).heap.size = w.heap.size + 1 := by simp
      generalize w.alloc (.cells #[] 3) = w1 at *
      go_upto_region 8 with (at_builtin; (refine wpList_append_own _ rfl _ _ 39 rfl w.heap.size 3 i0 _ 1 8 Tryz.underlying39 hi0 hz0 hz1 hz2 rfl (by decide) _ 0 _ rfl (HO1.out.alloc _) ⟨w.heap.size + 1, 0, none⟩ 1 1 [.int .i64 x] rfl rfl (World.news_of_block (cs := #[.int .i64 x]) (t := 3) (fr := (0, 0)) (alloc_at w1 _ hsz)) (by simp [Value.oneCell']) (by unfold maxLen; omega) (by omega) (Nat.le_trans HB1.out.size (by simp)) ?_; intro v2 w2 hown2 hgrow2 _))
      have HB2 := Lib.hid ((HB1.out.alloc HB1.out.size (.cells #[.int .i64 x] 3)).grown hgrow2 (Nat.le_trans HB1.out.size (by simp)) (fun k e => (HO1.out.lt k e).1))
      have HO2 := Lib.hid hown2
      clear hgrow2 hown2
      go_wp2_with (at_builtin; (refine wpList_append_own_none rfl _ _ 39 rfl w.heap.size 3 i0 1 Tryz.underlying39 hi0 v2 (0 + 1) _ rfl HO2.out rfl ?_))
      have hrow : w2.ownsRow w.heap.size 3 1 v2 1 ((putL [] x).flatMap ints) := by simpa [putL, ints] using HO2.out
      obtain ⟨a3, c3, rfl, hc3, hr3, hl3⟩ := Rd.of_own hrow ints_length (by decide) (by simp [putL]) (by unfold maxLen; omega)
      have HR3 := Lib.hid (show PutPost w (putL [] x) (.returned (.slice a3 1 c3)) w2 from ⟨a3, 1, c3, rfl, hr3, hc3, (fun e => by subst e; rcases hrow.2 with ⟨e, _⟩ | ⟨g, cp, cu, e, _⟩ <;> cases e <;> rfl), (fun q e => by subst e; rcases hrow.2 with ⟨e, _⟩ | ⟨g, cp, cu, e, _⟩ <;> cases e; exact ⟨_, _, rfl⟩), HB2.out⟩)
      clear hrow hr3
      go_wp2_with fail
      go_ret
      exact HR3.out
  | some ad =>
  obtain ⟨b, off, rfl⟩ := hq ad rfl
  clear h hs hz hq
  go_enter Tryz.func104, Tryz.ntmps104
  go_wp2
  go_loop [5] (fun i => ∃ k : Nat, k ≤ n ∧ i = .int .i64 k ∧ ∀ j y, k ≤ j → ys[j]? = some y → x < y) (fun i => (intOf i).toNat)
  case atStart => exact ⟨n, Nat.le_refl _, rfl, fun j y hj hy => absurd ((List.getElem?_eq_some_iff.1 hy).1) (by omega)⟩
  case round =>
    obtain ⟨k, hk, rfl, hgt⟩ := hrel
    have Hgt := Lib.hid hgt
    clear hgt
    have hkc : k ≤ cap := by omega
    have hkc' : (k : Int) ≤ (cap : Int) := by omega
    have hkn' : (k : Int) ≤ (n : Int) := by omega
    have hk0' : (0 : Int) ≤ (k : Int) := by omega
    by_cases hk0 : k = 0
    · have hk1 : ¬ (0 : Int) < (k : Int) := by omega
      have HP := Lib.hid (putL_at ys k x (by omega) (fun j y hj => by omega) Hgt.out)
      clear Hgt hk0
      go_upto_region 6 with (fail)
      go_upto_region 7 with (at_builtin; (refine wpList_append_rd ints_length ints_one (by decide) _ rfl _ _ 39 rfl w.heap.size 3 i0 _ 8 Tryz.underlying39 hi0 hz0 hz1 hz2 rfl (.slice (some ⟨w.heap.size, 0, none⟩) 0 0) 0 [] rfl (mk_row w (Nat.le_refl _) rfl) (some ⟨b, off, none⟩) k cap (ys.take k) rfl ((H.out.take hk).below' ((Below.refl _ w).alloc (Nat.le_refl _) _)) (fun e => by cases e) (by omega) (by omega) (by simp) ?_; intro v1 w1 hown1 hgrow1))
      have hB1 := ((Below.refl w.heap.size w).alloc (Nat.le_refl _) (.cells #[] 3)).grown hgrow1 (by simp) (fun k e => by simp [Value.ownBlock] at e; omega)
      have HB1 := Lib.hid hB1
      have HO1 := Lib.hid hown1
      clear hgrow1 hB1 hown1
      go_upto_region 8 with (at_builtin; (refine wpList_append_own _ rfl _ _ 39 rfl w.heap.size 3 i0 _ 1 8 Tryz.underlying39 hi0 hz0 hz1 hz2 rfl (by decide) v1 (0 + k) _ rfl (HO1.out.alloc _) ⟨w1.heap.size, 0, none⟩ 1 1 [.int .i64 x] rfl rfl (World.news_of_block (cs := #[.int .i64 x]) (t := 3) (fr := (0, 0)) (heap_alloc_new w1 _)) (by simp [Value.oneCell']) (by unfold maxLen; omega) (by omega) (Nat.le_trans HB1.out.size (by simp)) ?_; intro v2 w2 hown2 hgrow2 _))
      have HB2 := Lib.hid ((HB1.out.alloc HB1.out.size (.cells #[.int .i64 x] 3)).grown hgrow2 (Nat.le_trans HB1.out.size (by simp)) (fun k e => (HO1.out.lt k e).1))
      have HO2 := Lib.hid hown2
      clear hgrow2 hown2
      by_cases hkx : k < cap
      · have hkx' : (k : Int) < (cap : Int) := by omega
        have hd := (Rd.drop (H.out.below' HB2.out) hk)
        rw [Nat.mul_one] at hd
        have HD := Lib.hid hd
        clear hd
        go_wp2_with (at_builtin; (refine wpList_append_rd ints_length ints_one (by decide) _ rfl _ _ 39 rfl w.heap.size 3 i0 _ 8 Tryz.underlying39 hi0 hz0 hz1 hz2 rfl v2 (0 + k + 1) _ rfl HO2.out (some ⟨b, off + k, none⟩) (n - k) (cap - k) (ys.drop k) rfl HD.out (fun e => by cases e) (by omega) (by omega) HB2.out.size ?_; intro v3 w3 hown3 hgrow3))
        have HB3 := Lib.hid (HB2.out.grown hgrow3 HB2.out.size (fun k e => (HO2.out.lt k e).1))
        have hrow : w3.ownsRow w.heap.size 3 1 v3 (n + 1) ((putL ys x).flatMap ints) := by
          rw [HP.out, List.flatMap_append, List.flatMap_cons, show n + 1 = 0 + k + 1 + (n - k) by omega]
          first | simpa [ints] using hown3 | simpa [ints, hkn2] using hown3
        obtain ⟨a3, c3, rfl, hc3, hr3, hl3⟩ := Rd.of_own hrow ints_length (by decide) (by rw [HP.out]; simp; omega) (by unfold maxLen; omega)
        have HR3 := Lib.hid (show PutPost w (putL ys x) (.returned (.slice a3 (n + 1) c3)) w3 from ⟨a3, n + 1, c3, rfl, hr3, hc3, (fun e => by subst e; rcases hrow.2 with ⟨e, _⟩ | ⟨g, cp, cu, e, _⟩ <;> cases e <;> rfl), (fun q e => by subst e; rcases hrow.2 with ⟨e, _⟩ | ⟨g, cp, cu, e, _⟩ <;> cases e; exact ⟨_, _, rfl⟩), HB3.out⟩)
        clear hrow hr3 hown3 hgrow3
        go_wp2_with fail
        go_ret
        exact HR3.out
      · have hkx' : (cap : Int) = (k : Int) := by omega
        have hkn : n = k := by omega
        have hd : Rd ints 1 w2 (some ⟨b, off, none⟩) 0 (ys.drop k) := by rw [List.drop_of_length_le (by omega)]; exact Rd.empty _ _
        have HD := Lib.hid hd
        have hce : cap = k := by omega
        have hkn2 : n - k = 0 := by omega
        have HKN := Lib.hid hkn
        have HKE := Lib.hid hce
        clear hd hkn hce
        go_wp2_with (at_builtin; (refine wpList_append_rd ints_length ints_one (by decide) _ rfl _ _ 39 rfl w.heap.size 3 i0 _ 8 Tryz.underlying39 hi0 hz0 hz1 hz2 rfl v2 (0 + k + 1) _ rfl HO2.out (some ⟨b, off, none⟩) _ _ (ys.drop k) rfl (by first | exact HD.out | (rw [hkn2]; exact HD.out)) (fun e => by cases e) (by omega) (by omega) HB2.out.size ?_; intro v3 w3 hown3 hgrow3))
        have HB3 := Lib.hid (HB2.out.grown hgrow3 HB2.out.size (fun k e => (HO2.out.lt k e).1))
        have hrow : w3.ownsRow w.heap.size 3 1 v3 (n + 1) ((putL ys x).flatMap ints) := by
          rw [HP.out, List.flatMap_append, List.flatMap_cons, show n + 1 = 0 + k + 1 + (n - k) by omega]
          first | simpa [ints] using hown3 | simpa [ints, hkn2] using hown3
        obtain ⟨a3, c3, rfl, hc3, hr3, hl3⟩ := Rd.of_own hrow ints_length (by decide) (by rw [HP.out]; simp; omega) (by unfold maxLen; omega)
        have HR3 := Lib.hid (show PutPost w (putL ys x) (.returned (.slice a3 (n + 1) c3)) w3 from ⟨a3, n + 1, c3, rfl, hr3, hc3, (fun e => by subst e; rcases hrow.2 with ⟨e, _⟩ | ⟨g, cp, cu, e, _⟩ <;> cases e <;> rfl), (fun q e => by subst e; rcases hrow.2 with ⟨e, _⟩ | ⟨g, cp, cu, e, _⟩ <;> cases e; exact ⟨_, _, rfl⟩), HB3.out⟩)
        clear hrow hr3 hown3 hgrow3
        go_wp2_with fail
        go_ret
        exact HR3.out
    have hk1 : (0 : Int) < (k : Int) := by omega
    obtain ⟨b', off', y, he, hb, hy, y0⟩ := H.out.int (show k - 1 < n by omega)
    cases he
    have Hy := Lib.hid hy
    have hsub : (k : Int) - 1 = ((k - 1 : Nat) : Int) := by omega
    have hkk : ((k - 1 : Nat) : Int) < (n : Int) := by omega
    have hkk' : k - 1 < n := by omega
    clear hy
    by_cases h1 : x < y
    · go_wp2_with fail
      refine ⟨⟨k - 1, by omega, by go_num, fun j z hj hz => ?_⟩, by simp [intOf]; omega⟩
      by_cases e : j = k - 1
      · subst e
        have := Hy.out
        rw [hz] at this
        cases this; exact h1
      · exact Hgt.out j z (by omega) hz
    · by_cases h2 : y = x
      · have HP := Lib.hid (putL_has ys x Hs.out (by rw [← h2]; exact List.mem_of_getElem? Hy.out))
        go_wp2_with fail
        go_ret
        exact ⟨_, n, cap, rfl, by rw [HP.out]; exact H.out, hcap, (fun e => by cases e), (fun q e => by cases e; exact ⟨_, _, rfl⟩), Below.refl _ _⟩
      · have HP := Lib.hid (putL_at ys k x (by omega) (fun j z hj hz => by
          by_cases e : j = k - 1
          · subst e
            have := Hy.out
            rw [hz] at this
            cases this; omega
          · have := sorted_before Hs.out (show j < k - 1 by omega) hz Hy.out
            omega) Hgt.out)
        have h2' : (y == x) = false := by simp [h2]
        clear Hgt Hy
        go_upto_region 6 with (fail)
        go_upto_region 7 with (at_builtin; (refine wpList_append_rd ints_length ints_one (by decide) _ rfl _ _ 39 rfl w.heap.size 3 i0 _ 8 Tryz.underlying39 hi0 hz0 hz1 hz2 rfl (.slice (some ⟨w.heap.size, 0, none⟩) 0 0) 0 [] rfl (mk_row w (Nat.le_refl _) rfl) (some ⟨b, off, none⟩) k cap (ys.take k) rfl ((H.out.take hk).below' ((Below.refl _ w).alloc (Nat.le_refl _) _)) (fun e => by cases e) (by omega) (by omega) (by simp) ?_; intro v1 w1 hown1 hgrow1))
        have hB1 := ((Below.refl w.heap.size w).alloc (Nat.le_refl _) (.cells #[] 3)).grown hgrow1 (by simp) (fun k e => by simp [Value.ownBlock] at e; omega)
        have HB1 := Lib.hid hB1
        have HO1 := Lib.hid hown1
        clear hgrow1 hB1 hown1
        go_upto_region 8 with (at_builtin; (refine wpList_append_own _ rfl _ _ 39 rfl w.heap.size 3 i0 _ 1 8 Tryz.underlying39 hi0 hz0 hz1 hz2 rfl (by decide) v1 (0 + k) _ rfl (HO1.out.alloc _) ⟨w1.heap.size, 0, none⟩ 1 1 [.int .i64 x] rfl rfl (World.news_of_block (cs := #[.int .i64 x]) (t := 3) (fr := (0, 0)) (heap_alloc_new w1 _)) (by simp [Value.oneCell']) (by unfold maxLen; omega) (by omega) (Nat.le_trans HB1.out.size (by simp)) ?_; intro v2 w2 hown2 hgrow2 _))
        have HB2 := Lib.hid ((HB1.out.alloc HB1.out.size (.cells #[.int .i64 x] 3)).grown hgrow2 (Nat.le_trans HB1.out.size (by simp)) (fun k e => (HO1.out.lt k e).1))
        have HO2 := Lib.hid hown2
        clear hgrow2 hown2
        by_cases hkx : k < cap
        · have hkx' : (k : Int) < (cap : Int) := by omega
          have hd := (Rd.drop (H.out.below' HB2.out) hk)
          rw [Nat.mul_one] at hd
          have HD := Lib.hid hd
          clear hd
          go_wp2_with (at_builtin; (refine wpList_append_rd ints_length ints_one (by decide) _ rfl _ _ 39 rfl w.heap.size 3 i0 _ 8 Tryz.underlying39 hi0 hz0 hz1 hz2 rfl v2 (0 + k + 1) _ rfl HO2.out (some ⟨b, off + k, none⟩) (n - k) (cap - k) (ys.drop k) rfl HD.out (fun e => by cases e) (by omega) (by omega) HB2.out.size ?_; intro v3 w3 hown3 hgrow3))
          have HB3 := Lib.hid (HB2.out.grown hgrow3 HB2.out.size (fun k e => (HO2.out.lt k e).1))
          have hrow : w3.ownsRow w.heap.size 3 1 v3 (n + 1) ((putL ys x).flatMap ints) := by
            rw [HP.out, List.flatMap_append, List.flatMap_cons, show n + 1 = 0 + k + 1 + (n - k) by omega]
            first | simpa [ints] using hown3 | simpa [ints, hkn2] using hown3
          obtain ⟨a3, c3, rfl, hc3, hr3, hl3⟩ := Rd.of_own hrow ints_length (by decide) (by rw [HP.out]; simp; omega) (by unfold maxLen; omega)
          have HR3 := Lib.hid (show PutPost w (putL ys x) (.returned (.slice a3 (n + 1) c3)) w3 from ⟨a3, n + 1, c3, rfl, hr3, hc3, (fun e => by subst e; rcases hrow.2 with ⟨e, _⟩ | ⟨g, cp, cu, e, _⟩ <;> cases e <;> rfl), (fun q e => by subst e; rcases hrow.2 with ⟨e, _⟩ | ⟨g, cp, cu, e, _⟩ <;> cases e; exact ⟨_, _, rfl⟩), HB3.out⟩)
          clear hrow hr3 hown3 hgrow3
          go_wp2_with fail
          go_ret
          exact HR3.out
        · have hkx' : (cap : Int) = (k : Int) := by omega
          have hkn : n = k := by omega
          have hd : Rd ints 1 w2 (some ⟨b, off, none⟩) 0 (ys.drop k) := by rw [List.drop_of_length_le (by omega)]; exact Rd.empty _ _
          have HD := Lib.hid hd
          have hce : cap = k := by omega
          have hkn2 : n - k = 0 := by omega
          have HKN := Lib.hid hkn
          have HKE := Lib.hid hce
          clear hd hkn hce
          go_wp2_with (at_builtin; (refine wpList_append_rd ints_length ints_one (by decide) _ rfl _ _ 39 rfl w.heap.size 3 i0 _ 8 Tryz.underlying39 hi0 hz0 hz1 hz2 rfl v2 (0 + k + 1) _ rfl HO2.out (some ⟨b, off, none⟩) _ _ (ys.drop k) rfl (by first | exact HD.out | (rw [hkn2]; exact HD.out)) (fun e => by cases e) (by omega) (by omega) HB2.out.size ?_; intro v3 w3 hown3 hgrow3))
          have HB3 := Lib.hid (HB2.out.grown hgrow3 HB2.out.size (fun k e => (HO2.out.lt k e).1))
          have hrow : w3.ownsRow w.heap.size 3 1 v3 (n + 1) ((putL ys x).flatMap ints) := by
            rw [HP.out, List.flatMap_append, List.flatMap_cons, show n + 1 = 0 + k + 1 + (n - k) by omega]
            first | simpa [ints] using hown3 | simpa [ints, hkn2] using hown3
          obtain ⟨a3, c3, rfl, hc3, hr3, hl3⟩ := Rd.of_own hrow ints_length (by decide) (by rw [HP.out]; simp; omega) (by unfold maxLen; omega)
          have HR3 := Lib.hid (show PutPost w (putL ys x) (.returned (.slice a3 (n + 1) c3)) w3 from ⟨a3, n + 1, c3, rfl, hr3, hc3, (fun e => by subst e; rcases hrow.2 with ⟨e, _⟩ | ⟨g, cp, cu, e, _⟩ <;> cases e <;> rfl), (fun q e => by subst e; rcases hrow.2 with ⟨e, _⟩ | ⟨g, cp, cu, e, _⟩ <;> cases e; exact ⟨_, _, rfl⟩), HB3.out⟩)
          clear hrow hr3 hown3 hgrow3
          go_wp2_with fail
          go_ret
          exact HR3.out
end Go.Proofs.YtehedodogkhmgaaGreat
