/- The walks of the reference's Digits, Row, Words and Number. -/
import Derived.Test.YtpgojnofdgibeaaGreatDoorCTextP
import Derived.Lib.ItoaNum
import Derived.Laws.IdiomStrings
set_option linter.unusedSimpArgs false
set_option linter.unusedVariables false
namespace Go.Proofs.YtpgojnofdgibeaaGreatDoor
open Go.RowKit Go.Shelf

/-- a string of these bytes -/
abbrev str (l : List UInt8) : Value := .string ⟨l.toArray⟩
set_option maxRecDepth 100000 in
set_option maxHeartbeats 2000000 in
theorem rdigits_small (n : Int) (h0 : 0 ≤ n) (h1 : n < 10) (w : World) :
    Calls Tryz.prog 59 #[.int .i64 n] w fun e w' => e = .returned (str (Lib.decDigits n.toNat)) ∧ Below w.heap.size w w' := by
  have hw : IntKind.u8.wrap (48 + n) = 48 + n := by unfold IntKind.wrap; simp [IntKind.bits, IntKind.signed]; omega
  have hconv : (convert 120 9 (.slice (some ⟨w.heap.size, 0, none⟩) 1 1)).run Tryz.prog (w.alloc (.cells #[.int .u8 (48 + n)] 5)) = .ok (str (Lib.decDigits n.toNat)) (w.alloc (.cells #[.int .u8 (48 + n)] 5)) := by
    have := run_convert_bytes_back (P := Tryz.prog) (w.alloc (.cells #[.int .u8 (48 + n)] 5)) 120 9 5 ⟨w.heap.size, 0, none⟩ 1 [UInt8.ofNat (48 + n.toNat)] Tryz.underlying120 Tryz.underlying5 Tryz.underlying9 (fun j hj => by
      have hj0 : j = 0 := by have : j < 1 := hj; omega
      subst hj0
      have e : ((UInt8.ofNat (48 + n.toNat)).toNat : Int) = 48 + n := by rw [UInt8.toNat_ofNat']; omega
      show (World.alloc _ _).cell? _ = some (Value.int .u8 ((UInt8.ofNat (48 + n.toNat)).toNat : Int))
      rw [e]
      simp [Addr.add])
    rw [Lib.decDigits_one (by omega)]
    exact this
  have hb := (Below.refl w.heap.size w).alloc (Nat.le_refl _) (.cells #[.int .u8 (48 + n)] 5)
  have HB := Lib.hid hb
  clear hb
  go_enter Tryz.func59, Tryz.ntmps59
  go_wp2_with fail
  go_ret
  exact ⟨rfl, HB.out⟩
set_option maxRecDepth 100000 in
set_option maxHeartbeats 2000000 in
theorem rdigits_all : ∀ (m : Nat) (n : Int) (w : World), n.toNat ≤ m → 0 ≤ n → n ≤ 1000000000000 →
    Calls Tryz.prog 59 #[.int .i64 n] w fun e w' => e = .returned (str (Lib.decDigits n.toNat)) ∧ Below w.heap.size w w'
  | m, n, w, hm, h0, h2 => by
    by_cases h1 : n < 10
    · exact rdigits_small n h0 h1 w
    · obtain ⟨u, rfl⟩ := Int.eq_ofNat_of_zero_le h0
      have hu : ¬ u < 10 := by omega
      have e1 : ((u : Int) / 10).toNat = u / 10 := by omega
      have e2 : ((u : Int) % 10).toNat = u % 10 := by omega
      have l1 := decDigits_le 12 (u / 10) (by omega)
      have l2 := decDigits_le 0 (u % 10) (by omega)
      have C1 := rdigits_all (m - 1) ((u : Int) / 10) w (by omega) (by omega) (by omega)
      rw [e1] at C1
      have C2 := fun W => rdigits_small ((u : Int) % 10) (by omega) (by omega) W
      rw [e2] at C2
      have HS := Lib.hid (decDigits_step hu)
      obtain ⟨A, hA⟩ : ∃ A, Lib.decDigits (u / 10) = A := ⟨_, rfl⟩
      obtain ⟨B, hB⟩ : ∃ B, Lib.decDigits (u % 10) = B := ⟨_, rfl⟩
      rw [hA] at C1 HS l1
      rw [hB] at C2 HS l2
      have hadd : A.length + B.length ≤ 9223372036854775807 := by omega
      have hn : ¬ 9223372036854775807 < A.length + B.length := by omega
      have happ := str_append A B
      clear hA hB e1 e2
      go_enter Tryz.func59, Tryz.ntmps59
      go_wp2_with fail
      refine C1.mono ?_
      rintro e w1 ⟨rfl, hB⟩
      have HB := Lib.hid hB
      clear hB C1
      go_wp2_with fail
      refine (C2 w1).mono ?_
      rintro e w2 ⟨rfl, hB⟩
      have HB2 := Lib.hid (below_then HB.out hB (Nat.le_refl _))
      clear hB C2
      go_wp2_with fail
      go_ret
      exact ⟨by show _ = Ending.returned (str (Lib.decDigits u)); rw [HS.out]; rfl, HB2.out⟩
theorem rdigits_any {n : Int} (h0 : 0 ≤ n) (h1 : n ≤ 1000000000000) (w : World) : Calls Tryz.prog 59 #[.int .i64 n] w fun e w' => e = .returned (.string ⟨(dig n).toArray⟩) ∧ Below w.heap.size w w' :=
  rdigits_all _ n w (Nat.le_refl _) h0 h1
/-- numbers, each behind a blank -/
def rowL (xs : List Int) : List UInt8 := xs.flatMap (fun x => 32 :: dig x)
theorem rowL_snoc (l : List Int) (x : Int) : rowL (l ++ [x]) = rowL l ++ [32] ++ dig x := by
  unfold rowL; rw [List.flatMap_append]; simp
theorem rowL_len : ∀ (xs : List Int), (∀ x ∈ xs, 0 ≤ x ∧ x ≤ 1000000000000) → (rowL xs).length ≤ xs.length * 14
  | [], _ => by simp [rowL]
  | x :: r, h => by
    have ih := rowL_len r (fun y hy => h y (List.mem_cons_of_mem _ hy))
    have := dig_le (h x (by simp)).2
    unfold rowL at ih ⊢
    rw [List.flatMap_cons, List.length_append, List.length_cons, List.length_cons]
    omega
set_option maxRecDepth 100000 in
set_option maxHeartbeats 4000000 in
theorem row_any (l : List UInt8) (a : Option Addr) (n cap : Nat) (xs : List Int) (hx : ∀ x ∈ xs, 0 ≤ x ∧ x ≤ 1000000000000) (w : World) (h : Rd ints 1 w a n xs) (hn : n ≤ 100) (hl : l.length ≤ 100000) :
    Calls Tryz.prog 58 #[.string ⟨l.toArray⟩, .slice a n cap] w fun e w' => e = .returned (.string ⟨(l ++ rowL xs).toArray⟩) ∧ Below w.heap.size w w' := by
  have HR := Lib.hid h
  have Hl := Lib.hid h.len
  have HXs := Lib.hid hx
  have e0 : (⟨l.toArray⟩ : ByteArray) = ⟨(l ++ rowL (xs.take 0)).toArray⟩ := by simp [rowL]
  have HE0 := Lib.hid e0
  clear h hx e0
  go_enter Tryz.func58, Tryz.ntmps58
  go_wp2_with fail
  go_loopw [0, 5] (fun s i wr => ∃ k : Nat, k ≤ n ∧ i = .int .i64 k ∧ s = .string ⟨(l ++ rowL (xs.take k)).toArray⟩ ∧ Below w.heap.size w wr) (fun _ i _ => n - (intOf i).toNat)
  case atStart => exact ⟨0, Nat.zero_le _, rfl, by rw [← HE0.out], Below.refl _ _⟩
  case round =>
    obtain ⟨k, hk, rfl, rfl, hB⟩ := hrel
    have h1 := HR.out.below' hB
    have HB := Lib.hid hB
    clear hB
    by_cases hlt : k < n
    · have hlt' : (k : Int) < (n : Int) := by omega
      obtain ⟨b, off, x, hpa, hb, hx, c0⟩ := h1.int hlt
      subst hpa
      have hxb := HXs.out x (List.mem_of_getElem? hx)
      have hrl := rowL_len (xs.take k) (fun y hy => HXs.out y (List.mem_of_mem_take hy))
      have htl : (xs.take k).length ≤ k := List.length_take_le _ _
      have HN := Lib.hid (show l ++ rowL (xs.take (k + 1)) = l ++ rowL (xs.take k) ++ [32] ++ dig x from by rw [take_succ_snoc hx, rowL_snoc]; simp)
      have hdl := dig_le hxb.2
      obtain ⟨T, hT⟩ : ∃ T, l ++ rowL (xs.take k) = T := ⟨_, rfl⟩
      have hTl : T.length ≤ 200000 := by rw [← hT, List.length_append]; omega
      rw [hT] at HN ⊢
      obtain ⟨A, hA⟩ : ∃ A, (⟨T.toArray⟩ : ByteArray) = A := ⟨_, rfl⟩
      obtain ⟨A1, hA1⟩ : ∃ A, (⟨(T ++ [32]).toArray⟩ : ByteArray) = A := ⟨_, rfl⟩
      obtain ⟨D, hD⟩ : ∃ A, (⟨(dig x).toArray⟩ : ByteArray) = A := ⟨_, rfl⟩
      obtain ⟨A2, hA2⟩ : ∃ A, (⟨(T ++ [32] ++ dig x).toArray⟩ : ByteArray) = A := ⟨_, rfl⟩
      obtain ⟨k1, _, e1⟩ := add_facts (A := A) (B := ⟨#[32]⟩) (C := A1) T [32] hA rfl hA1 (by simp only [List.length_cons, List.length_nil]; omega)
      obtain ⟨k2, k2', e2⟩ := add_facts (A := A1) (B := D) (C := A2) (T ++ [32]) (dig x) hA1 hD hA2 (by simp only [List.length_append, List.length_cons, List.length_nil]; omega)
      simp only [List.length_cons, List.length_nil] at k1
      have CD := Lib.hid (fun W => rdigits_any hxb.1 hxb.2 W)
      rw [hD] at CD
      have HA2 := Lib.hid hA2
      rw [hA]
      clear hT hTl hrl htl hdl hxb hx hA hA1 hA2 hD h1
      go_wp2_with fail
      refine (CD.out _).mono ?_
      rintro e w2 ⟨rfl, hS⟩
      have HB2 := Lib.hid (below_on HB.out hS (Nat.le_refl _))
      clear hS CD
      go_wp2_with fail
      exact ⟨⟨k + 1, by omega, by go_num, by rw [HN.out, HA2.out], HB2.out⟩, by simp [intOf]; omega⟩
    · have hltg : ¬ (k : Int) < (n : Int) := by omega
      have HE := Lib.hid (show l ++ rowL (xs.take k) = l ++ rowL xs from by rw [List.take_of_length_le (by rw [Hl.out]; omega)])
      clear hlt h1
      rw [HE.out]
      go_wp2_with fail
      go_ret
      exact ⟨rfl, HB.out⟩

/-! words -/
/-- what the split loop has cut off behind k bytes -/
def cutInv (l : List UInt8) (k f : Nat) (ws : List (List UInt8)) : Prop :=
  f ≤ k ∧ ws.length ≤ k ∧ ((k ≤ l.length ∧ ws ++ cutL ((l.take k).drop f) (l.drop k) = spl l) ∨ (k = l.length + 1 ∧ ws = spl l))
theorem cutInv_0 (l : List UInt8) : cutInv l 0 0 [] := ⟨Nat.le_refl _, by simp, .inl ⟨Nat.zero_le _, by simp [cut_is]⟩⟩
theorem cutInv_end {l : List UInt8} {k f : Nat} {ws : List (List UInt8)} (h : cutInv l k f ws) (hk : k = l.length) : cutInv l (k + 1) (k + 1) (ws ++ [(l.take k).drop f]) := by
  obtain ⟨h1, h2, h3⟩ := h
  refine ⟨Nat.le_refl _, by simp; omega, .inr ⟨by omega, ?_⟩⟩
  rcases h3 with ⟨_, h3⟩ | ⟨h4, _⟩
  · rw [← h3, List.drop_eq_nil_of_le (by omega : l.length ≤ k), cutL]
  · omega
theorem cutDrop {l : List UInt8} {k : Nat} {c : UInt8} (h : l[k]? = some c) : l.drop k = c :: l.drop (k + 1) := by
  obtain ⟨h1, h2⟩ := List.getElem?_eq_some_iff.1 h
  rw [List.drop_eq_getElem_cons h1, h2]
theorem cutInv_sp {l : List UInt8} {k f : Nat} {ws : List (List UInt8)} (h : cutInv l k f ws) (hk : l[k]? = some 32) : cutInv l (k + 1) (k + 1) (ws ++ [(l.take k).drop f]) := by
  have hl := (List.getElem?_eq_some_iff.1 hk).1
  obtain ⟨h1, h2, h3⟩ := h
  refine ⟨Nat.le_refl _, by simp; omega, .inl ⟨by omega, ?_⟩⟩
  rcases h3 with ⟨_, h3⟩ | ⟨h4, _⟩
  · rw [← h3, cutDrop hk, cutL, if_pos rfl, List.drop_eq_nil_of_le (by rw [List.length_take]; omega : (l.take (k + 1)).length ≤ k + 1)]
    simp
  · omega
theorem cutInv_on {l : List UInt8} {k f : Nat} {ws : List (List UInt8)} {c : UInt8} (h : cutInv l k f ws) (hk : l[k]? = some c) (hc : ¬ c = 32) : cutInv l (k + 1) f ws := by
  have hl := (List.getElem?_eq_some_iff.1 hk).1
  obtain ⟨h1, h2, h3⟩ := h
  refine ⟨by omega, by omega, .inl ⟨by omega, ?_⟩⟩
  rcases h3 with ⟨_, h3⟩ | ⟨h4, _⟩
  · rw [← h3, cutDrop hk, cutL, if_neg hc, take_succ_snoc hk, List.drop_append_of_le_length (by rw [List.length_take]; omega)]
  · omega
theorem cutInv_done {l : List UInt8} {k f : Nat} {ws : List (List UInt8)} (h : cutInv l k f ws) (hk : ¬ k ≤ l.length) : ws = spl l := by
  rcases h.2.2 with ⟨h3, _⟩ | ⟨_, h4⟩
  · exact absurd h3 hk
  · exact h4
theorem cutInv_le {l : List UInt8} {k f : Nat} {ws : List (List UInt8)} (h : cutInv l k f ws) : k ≤ l.length + 1 := by
  rcases h.2.2 with ⟨h3, _⟩ | ⟨h4, _⟩ <;> omega
theorem ext_is (l : List UInt8) (f k : Nat) : (⟨l.toArray⟩ : ByteArray).extract f k = ⟨((l.take k).drop f).toArray⟩ := by
  apply ByteArray.ext
  rw [ByteArray.data_extract]
  simp [List.extract_eq_take_drop, List.drop_take]
def WordsPost (w : World) (l : List UInt8) (e : Ending) (w' : World) : Prop := ∃ a c, e = .returned (.slice a (spl l).length c) ∧ Rd strs 1 w' a (spl l).length (spl l) ∧ Below w.heap.size w w'
set_option maxRecDepth 100000 in
set_option maxHeartbeats 4000000 in
theorem words_r (l : List UInt8) (hl : l.length ≤ 1000) (w : World) :
    Calls Tryz.prog 62 #[.string ⟨l.toArray⟩] w (WordsPost w l) := by
  obtain ⟨i0, hi0, hz0, hz1, hz2⟩ := info_parts info_str
  go_enter Tryz.func62, Tryz.ntmps62
  go_wp2_with fail
  go_loopw [3, 4, 5] (fun v fr i wr => ∃ (k f : Nat) (ws : List (List UInt8)), i = .int .i64 k ∧ fr = .int .i64 f ∧ cutInv l k f ws ∧ wr.ownsRow w.heap.size 9 1 v ws.length (ws.flatMap strs) ∧ Below w.heap.size w wr) (fun _ _ i _ => l.length + 1 - (intOf i).toNat)
  case atStart => exact ⟨0, 0, [], rfl, rfl, cutInv_0 l, World.ownsRow_nil _ _ _ _, Below.refl _ _⟩
  case round =>
    obtain ⟨k, f, ws, rfl, rfl, hI, hrow, hB⟩ := hrel
    have hfk := hI.1
    have hkl := cutInv_le hI
    have hwk := hI.2.1
    have HI := Lib.hid hI
    have HR := Lib.hid hrow
    have HB := Lib.hid hB
    clear hI hrow hB
    by_cases hk : k ≤ l.length
    · have hk' : (k : Int) ≤ (l.length : Int) := by omega
      by_cases he : k = l.length
      · have e1 : ((k : Int) == (l.length : Int)) = true := by simp [he]
        have HK := Lib.hid (cutInv_end HI.out he)
        obtain ⟨x, hxd⟩ : ∃ x, (l.take k).drop f = x := ⟨_, rfl⟩
        have hx := ext_is l f k
        rw [hxd] at hx
        have HK := Lib.hid (cutInv_end HI.out he)
        rw [hxd] at HK
        clear hxd he
        go_wp2_with (at_builtin; go_loud (refine wpList_append_own _ rfl _ _ 65 rfl w.heap.size 9 i0 _ 1 16 Tryz.underlying65 hi0 hz0 hz1 hz2 rfl (by decide) _ _ _ rfl (HR.out.alloc _) ⟨wr.heap.size, 0, none⟩ 1 1 (strs x) rfl rfl (cell_one_new _ _ _) (by simp [strs, Value.oneCell']) (by unfold maxLen; omega) (by omega) (Nat.le_trans HB.out.size (by simp)) ?_; intro v2 w2 hown2 hgrow2 _))
        have HB2 := Lib.hid ((HB.out.alloc HB.out.size (.cells #[.string ⟨x.toArray⟩] 9)).grown hgrow2 (Nat.le_trans HB.out.size (by simp)) (fun k e => (HR.out.lt k e).1))
        have HO2 := Lib.hid (own_str_next hown2)
        clear hgrow2 hown2 hx
        go_wp2_with fail
        exact ⟨⟨k + 1, k + 1, _, by go_num, by go_num, HK.out, HO2.out, HB2.out⟩, by simp [intOf]; omega⟩
      · have hlt : k < l.length := by omega
        have hlt' : (k : Int) < (l.length : Int) := by omega
        have e1 : ((k : Int) == (l.length : Int)) = false := by simp; omega
        obtain ⟨c, hc⟩ : ∃ c, l[k]? = some c := ⟨_, List.getElem?_eq_getElem hlt⟩
        by_cases h32 : c = 32
        · subst h32
          have hi : ∀ h, (⟨l.toArray⟩ : ByteArray)[k]'h = 32 := fun h => (List.getElem?_eq_some_iff.1 hc).2
          obtain ⟨x, hxd⟩ : ∃ x, (l.take k).drop f = x := ⟨_, rfl⟩
          have hx := ext_is l f k
          rw [hxd] at hx
          have HK := Lib.hid (cutInv_sp HI.out hc)
          rw [hxd] at HK
          clear hxd he hc
          go_wp2_with (at_builtin; go_loud (refine wpList_append_own _ rfl _ _ 65 rfl w.heap.size 9 i0 _ 1 16 Tryz.underlying65 hi0 hz0 hz1 hz2 rfl (by decide) _ _ _ rfl (HR.out.alloc _) ⟨wr.heap.size, 0, none⟩ 1 1 (strs x) rfl rfl (cell_one_new _ _ _) (by simp [strs, Value.oneCell']) (by unfold maxLen; omega) (by omega) (Nat.le_trans HB.out.size (by simp)) ?_; intro v2 w2 hown2 hgrow2 _))
          have HB2 := Lib.hid ((HB.out.alloc HB.out.size (.cells #[.string ⟨x.toArray⟩] 9)).grown hgrow2 (Nat.le_trans HB.out.size (by simp)) (fun k e => (HR.out.lt k e).1))
          have HO2 := Lib.hid (own_str_next hown2)
          clear hgrow2 hown2 hx
          go_wp2_with fail
          exact ⟨⟨k + 1, k + 1, _, by go_num, by go_num, HK.out, HO2.out, HB2.out⟩, by simp [intOf]; omega⟩
        · have HK := Lib.hid (cutInv_on HI.out hc h32)
          have hi : ∀ h, (⟨l.toArray⟩ : ByteArray)[k]'h = c := fun h => (List.getElem?_eq_some_iff.1 hc).2
          have hc2 : ((c.toNat : Int) == 32) = false := by
            have : ¬ c.toNat = 32 := fun e => h32 (UInt8.toNat_inj.1 (by rw [e]; rfl))
            simp; omega
          clear he hc h32
          go_wp2_with fail
          exact ⟨⟨k + 1, f, ws, by go_num, by go_num, HK.out, HR.out, HB.out⟩, by simp [intOf]; omega⟩
    · have hkg : ¬ (k : Int) ≤ (l.length : Int) := by omega
      have HWS := Lib.hid (cutInv_done HI.out hk)
      obtain ⟨a, cap, rfl, hcap, hrd, hblk⟩ := Rd.of_own HR.out strs_length (by decide) rfl (by unfold maxLen; omega)
      have HRD := Lib.hid hrd
      clear hrd hblk HR hfk hkl hwk hk
      go_wp2_with fail
      go_ret
      have hws := HWS.out
      subst hws
      exact ⟨a, cap, rfl, HRD.out, HB.out⟩

/-! numbers -/
theorem valL_snoc (x : List UInt8) (c : UInt8) : valL (x ++ [c]) = 10 * valL x + ((c.toNat : Int) - 48) := by simp [valL, List.foldl_append]
theorem valL_bd (n : Nat) : ∀ x : List UInt8, x.length = n → x.all digC = true → 0 ≤ valL x ∧ valL x < (10 : Int) ^ n := by
  induction n with
  | zero => intro x hx _; obtain rfl : x = [] := List.eq_nil_of_length_eq_zero hx; simp [valL]
  | succ n ih =>
    intro x hx hd
    have hne : x ≠ [] := fun e => by subst e; simp at hx
    have e := List.dropLast_concat_getLast hne
    have hd' := List.all_eq_true.1 hd
    have h1 := ih x.dropLast (by rw [List.length_dropLast]; omega) (List.all_eq_true.2 fun c hc => hd' c (List.dropLast_subset _ hc))
    have h2 := hd' (x.getLast hne) (List.getLast_mem hne)
    unfold digC at h2
    simp only [decide_eq_true_eq] at h2
    rw [← e, valL_snoc, Int.pow_succ]
    omega
theorem valL_max {x : List UInt8} (h : x.length ≤ 13) (hd : x.all digC = true) : 0 ≤ valL x ∧ valL x ≤ 9999999999999 := by
  have h1 := valL_bd x.length x rfl hd
  have h2 : x.length = 0 ∨ x.length = 1 ∨ x.length = 2 ∨ x.length = 3 ∨ x.length = 4 ∨ x.length = 5 ∨ x.length = 6 ∨ x.length = 7 ∨ x.length = 8 ∨ x.length = 9 ∨ x.length = 10 ∨ x.length = 11 ∨ x.length = 12 ∨ x.length = 13 := by omega
  refine ⟨h1.1, ?_⟩
  have h3 := h1.2
  rcases h2 with e | e | e | e | e | e | e | e | e | e | e | e | e | e <;> rw [e] at h3 <;> simp at h3 <;> omega
set_option maxHeartbeats 4000000 in
theorem number_r (s : List UInt8) (hs : s.length ≤ 100000) (w : World) :
    Calls Tryz.prog 63 #[.string ⟨s.toArray⟩] w fun e w' => e = .returned (.int .i64 (numR s)) ∧ w' = w := by
  by_cases hbig : 13 < s.length
  · have HE := Lib.hid (show numR s = 0 from by unfold numR; rw [if_neg (by omega)])
    have g1 : (13 : Int) < (s.length : Int) := by omega
    have g0 : (0 : Int) < (s.length : Int) := by omega
    go_enter Tryz.func63, Tryz.ntmps63
    clear hbig
    go_wp2_with fail
    go_loopw [3, 4] (fun n i wr => n = .int .i64 0 ∧ i = .int .i64 0 ∧ wr = w) (fun _ i _ => s.length - (intOf i).toNat)
    case atStart => exact ⟨rfl, rfl, rfl⟩
    case round =>
      obtain ⟨rfl, rfl, rfl⟩ := hrel
      go_wp2_with fail
      go_ret
      exact ⟨by rw [HE.out] <;> rfl, by first | rfl | trivial⟩
  have g1 : ¬ (13 : Int) < (s.length : Int) := by omega
  have hs13 : s.length ≤ 13 := by omega
  clear hbig
  go_enter Tryz.func63, Tryz.ntmps63
  go_wp2_with fail
  go_loopw [3, 4] (fun n i wr => ∃ k : Nat, k ≤ s.length ∧ i = .int .i64 k ∧ n = .int .i64 (valL (s.take k)) ∧ (s.take k).all digC = true ∧ wr = w) (fun _ i _ => s.length - (intOf i).toNat)
  case atStart => exact ⟨0, Nat.zero_le _, rfl, rfl, rfl, rfl⟩
  case round =>
    obtain ⟨k, hk, rfl, rfl, hall, rfl⟩ := hrel
    have hv := valL_max (x := s.take k) (by rw [List.length_take]; omega) hall
    have HA := Lib.hid hall
    clear hall
    by_cases hlt : k < s.length
    · have hlt' : (k : Int) < (s.length : Int) := by omega
      obtain ⟨c, hc⟩ : ∃ c, s[k]? = some c := ⟨_, List.getElem?_eq_getElem hlt⟩
      have hi : ∀ h, (⟨s.toArray⟩ : ByteArray)[k]'h = c := fun h => (List.getElem?_eq_some_iff.1 hc).2
      have HC := Lib.hid hc
      have HV := Lib.hid (show valL (s.take (k + 1)) = 10 * valL (s.take k) + (c.toNat : Int) - 48 from by rw [take_succ_snoc hc, valL_snoc]; omega)
      have HNo := Lib.hid (show digC c = false → numR s = 0 from fun h => by unfold numR; rw [if_neg (fun e => by have := all_no (p := digC) hc h; rw [this] at e; exact absurd e.2 (by decide))])
      have hcl : c.toNat < 256 := c.toNat_lt
      have HS := Lib.hid (show digC c = true → (s.take (k + 1)).all digC = true from fun h => take_all_snoc hc HA.out h)
      have HDc := Lib.hid (show digC c = decide (48 ≤ c.toNat ∧ c.toNat ≤ 57) from rfl)
      obtain ⟨V, hV⟩ : ∃ V, valL (s.take k) = V := ⟨_, rfl⟩
      rw [hV] at hv HV ⊢
      obtain ⟨hv0, hv1⟩ := hv
      obtain ⟨u, hu⟩ : ∃ u, c.toNat = u := ⟨_, rfl⟩
      rw [hu] at hcl HV HDc
      have Hu := Lib.hid hu
      clear hc hV HC
      by_cases h1 : u < 48
      · have h1' : ((c.toNat : Nat) : Int) < 48 := by rw [hu]; omega
        have HE := Lib.hid (HNo.out (by rw [HDc.out, decide_eq_false (by omega)]))
        clear h1 hu
        go_wp2_with fail
        go_ret
        exact ⟨by rw [HE.out] <;> rfl, by first | rfl | trivial⟩
      · have h1' : ¬ ((c.toNat : Nat) : Int) < 48 := by rw [hu]; omega
        by_cases h2 : 57 < u
        · have h2' : (57 : Int) < ((c.toNat : Nat) : Int) := by rw [hu]; omega
          have HE := Lib.hid (HNo.out (by rw [HDc.out, decide_eq_false (by omega)]))
          clear h1 h2 hu
          go_wp2_with fail
          go_ret
          exact ⟨by rw [HE.out] <;> rfl, by first | rfl | trivial⟩
        · have h2' : ¬ (57 : Int) < ((c.toNat : Nat) : Int) := by rw [hu]; omega
          have HS2 := Lib.hid (HS.out (by rw [HDc.out, decide_eq_true (by omega)]))
          have hc0 : (48 : Int) ≤ (c.toNat : Int) := by rw [hu]; omega
          have hc1 : (c.toNat : Int) ≤ 57 := by rw [hu]; omega
          rw [← hu] at HV
          clear h1 h2 hu hcl
          go_wp2_with fail
          exact ⟨⟨k + 1, by omega, by go_num, by rw [HV.out], HS2.out, by first | rfl | trivial⟩, by simp [intOf]; omega⟩
    · have hltg : ¬ (k : Int) < (s.length : Int) := by omega
      have HE := Lib.hid (show valL (s.take k) = numR s from by
        have h1 := HA.out
        rw [List.take_of_length_le (by omega)] at h1 ⊢
        unfold numR
        rw [if_pos ⟨hs13, h1⟩])
      clear hlt
      rw [HE.out]
      go_wp2_with fail
      go_ret
      exact ⟨rfl, by first | rfl | trivial⟩
end Go.Proofs.YtpgojnofdgibeaaGreatDoor
