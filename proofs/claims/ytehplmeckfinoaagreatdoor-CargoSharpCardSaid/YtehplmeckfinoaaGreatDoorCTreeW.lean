/- The walk of the closure that grows a tree. -/
import Derived.Test.YtehplmeckfinoaaGreatDoorCGrowM
set_option linter.unusedSimpArgs false
set_option linter.unusedVariables false
namespace Go.Proofs.YtehplmeckfinoaaGreatDoor
open Go.RowKit Go.Shelf
set_option maxRecDepth 100000 in
set_option maxHeartbeats 8000000 in
theorem grow_all (G : GLay) (ps ts : List Pa) (ids : List Int) (hp : Packs ps) (hts : ∀ x ∈ ts, 0 ≤ x.count ∧ x.count ≤ 1000) (hlen : ps.length ≤ 1000) : ∀ (d : Nat) (pack oL oH : Int) (c : List Int) (B : Nat) (m : Int) (w : World),
 Chain ps (pack :: c) → (pack :: c).length + d = ps.length + 2 → IntKind.i64.wrap m = m → GEnv w G ps ts ids → ManyAt w G m → NewNode w B oL oH → G.Bg < B →
 Calls Tryz.prog 99 #[.pointer (some ⟨B, 0, none⟩), .int .i64 pack, .pointer (some ⟨G.Bm, 0, none⟩), .pointer (some ⟨G.Ball, 0, none⟩), .pointer (some ⟨G.Bids, 0, none⟩), .pointer (some ⟨G.Bmany, 0, none⟩), .pointer (some ⟨G.Bg, 0, none⟩)] w
  (GrowPost w G ps ts ids d pack oL oH B m) := by
 intro d
 induction d with
 | zero =>
   intro pack oL oH c B m w hc hl hmw
   have := hc.len hp
   simp only [List.length_cons] at this hl
   omega
 | succ d ih =>
   intro pack oL oH c B m w hc hl hmw hE hM hN hB
   obtain ⟨j0, hj0, hy0, hy1, hy2⟩ := info_parts info_ptr
   obtain ⟨o1, o2, o3, o4, p1, p2, p3⟩ := hE.ok
   have hN0 := hN.n
   have h15 := hN.c15
   obtain ⟨nl, nf, c0, c16, c17, c18, c19, c20, c21, c22, c23, c24⟩ := hN0
   have hBm : B ≠ G.Bmany := by omega
   have HE := Hd hE
   have HM := Hd hM
   have HN := Hd hN
   have HC := Hd hc
   have HL := Hd hl
   have HMw := Hd hmw
   have IH := Hd ih
   have HOrd := Hd (show G.Bm < G.Bmany ∧ G.Bids < G.Bmany ∧ G.Ball < G.Bmany ∧ G.Bmany < G.Bg ∧ G.Bg < B ∧ B < w.heap.size from ⟨o1, o2, o3, o4, hB, nl⟩)
   clear hE hM hN hc hl hmw ih p1 p2 p3
   go_enter Tryz.func99, Tryz.ntmps99
   go_upto_region 2 with (fail)
   have hk1 : Keeps [B] w (((w.setCell ⟨B, 0, none⟩ (.int .i64 pack)).setCell ⟨B, 19, none⟩ (.int .i64 0)).setCell ⟨B, 20, none⟩ (.int .i64 1099511627776)) := ((Keeps.setCell w ⟨B, 0, none⟩ _).then_set ⟨B, 19, none⟩ _ (.inl (by simp))).then_set ⟨B, 20, none⟩ _ (.inl (by simp))
   have hn1 : NodeAt (((w.setCell ⟨B, 0, none⟩ (.int .i64 pack)).setCell ⟨B, 19, none⟩ (.int .i64 0)).setCell ⟨B, 20, none⟩ (.int .i64 1099511627776)) B ⟨pack, oL, oH, 0, 1099511627776, 0, 0, 0, 0⟩ none 0 0 := ((HN.out.n.set_pack pack).set_sumL 0).set_sumH 1099511627776
   have h15' : (((w.setCell ⟨B, 0, none⟩ (.int .i64 pack)).setCell ⟨B, 19, none⟩ (.int .i64 0)).setCell ⟨B, 20, none⟩ (.int .i64 1099511627776)).cell? ⟨B, 15, none⟩ = some (.pointer none) := cell_off' (cell_off' (cell_off' h15 (by decide)) (by decide)) (by decide)
   clear c0 c16 c17 c18 c19 c20 c21 c22 c23 c24 nf h15
   generalize (((w.setCell ⟨B, 0, none⟩ (.int .i64 pack)).setCell ⟨B, 19, none⟩ (.int .i64 0)).setCell ⟨B, 20, none⟩ (.int .i64 1099511627776)) = w1 at *
   have hE1 := HE.out.keeps hk1 (fun x hx => .inr (by rw [List.mem_singleton.1 hx]; exact HOrd.out.2.2.2.2.1))
   have HE1 := Hd hE1
   have HK1 := Hd hk1
   have HN1 := Hd hn1
   have H15 := Hd h15'
   have e0 := hE1.m0
   have e1 := hE1.m1
   obtain ⟨o, ho⟩ : ∃ o, ofL ts pack = o := ⟨_, rfl⟩
   have CT := Hd (show ∀ W, Rd Pa.vals 14 W G.ta G.tn ts → _ from fun W hW => total_any G.pa G.pn G.pc G.ta G.tn G.tc ts pack W hW)
   rw [ho] at CT
   have HO := Hd (show ofI ts pack = o from ho)
   have nl1 := hn1.lt
   clear hk1 hn1 h15' hE1 ho
   obtain ⟨x, hx⟩ : ∃ x, ofV o = x := ⟨_, rfl⟩
   obtain ⟨bs, hbs⟩ : ∃ b, o.isSome = b := ⟨_, rfl⟩
   have HX := Hd (And.intro hx hbs)
   rw [hx, hbs] at CT
   clear hx hbs
   go_upto_if 31 with (first | (go_at_call 58; refine (CT.out _ HE1.out.rt).mono ?_; rintro e w2 ⟨rfl, hB2⟩))
   have hbx := BoxG.made w2 x.vals 42
   simp only [Pa.vals] at hbx
   have hB3 := hB2.trans ((al' (Below.refl w2.heap.size w2) (.cells #[.int .i64 x.id, .int .i64 x.known, .int .u8 x.kind, .int .i64 x.loss, .int .i64 x.pack, .int .i64 x.inn, .string ⟨x.mark.toArray⟩, .string ⟨x.goods.toArray⟩, .int .i64 x.low, .int .i64 x.high, .int .i64 x.pieces, .int .i64 x.owner, .int .i64 x.count, .int .i64 x.of] 42)).mono hB2.size)
   have hz := hB2.size
   clear e0 e1 hB2
   generalize w2.alloc (.cells #[.int .i64 x.id, .int .i64 x.known, .int .u8 x.kind, .int .i64 x.loss, .int .i64 x.pack, .int .i64 x.inn, .string ⟨x.mark.toArray⟩, .string ⟨x.goods.toArray⟩, .int .i64 x.low, .int .i64 x.high, .int .i64 x.pieces, .int .i64 x.owner, .int .i64 x.count, .int .i64 x.of] 42) = w3 at *
   obtain ⟨Bx, hBx⟩ : ∃ B, w2.heap.size = B := ⟨_, rfl⟩
   rw [hBx] at hbx hz ⊢
   have HBX := Hd hbx
   have hKx := HK1.out.size
   have HK3 := Hd (HK1.out.then_below hB3)
   have HN3 := Hd (HN1.out.keeps (S := []) (Keeps.of_below hB3) (by simp))
   have H15b := Hd (cell_stays H15.out hB3)
   have HE3 := Hd (HE1.out.below' hB3)
   have hwx : w.heap.size ≤ Bx := by omega
   have HBxB := Hd (show B ≠ Bx from fun e => by have := HOrd.out; omega)
   clear hbx hBx hB3 H15 HN1 HE1 HK1 CT nl1 hz hKx
   go_cut [9] from 17 (fun s9 wx => s9 = .bool false ∧ Keeps [B] w wx ∧ NodeAt wx B ⟨pack, oL, oH, (sumsOf (hasB G.all ids) o).1, (sumsOf (hasB G.all ids) o).2, 0, 0, 0, 0⟩ none 0 0 ∧ TotAt wx w.heap.size wx.heap.size B o)
   case first =>
    cases o with
    | none =>
      obtain rfl : bs = false := HX.out.2.symm
      go_wp2_with fail
      go_meet
      exact ⟨rfl, HK3.out, HN3.out, H15b.out⟩
    | some y =>
      obtain rfl : bs = true := HX.out.2.symm
      obtain rfl : y = x := HX.out.1
      obtain ⟨nl, nf, c0, c16, c17, c18, c19, c20, c21, c22, c23, c24⟩ := HN3.out
      have c15 := H15b.out
      go_upto_region 5 with (fail)
      have hK4 : Keeps [B] w3 (((w3.setCell ⟨B, 15, none⟩ (.pointer (some ⟨Bx, 0, none⟩))).setCell ⟨B, 19, none⟩ (.int .i64 0)).setCell ⟨B, 20, none⟩ (.int .i64 10000000)) := ((Keeps.setCell w3 ⟨B, 15, none⟩ _).then_set ⟨B, 19, none⟩ _ (.inl (by simp))).then_set ⟨B, 20, none⟩ _ (.inl (by simp))
      have hN4 : NodeAt (((w3.setCell ⟨B, 15, none⟩ (.pointer (some ⟨Bx, 0, none⟩))).setCell ⟨B, 19, none⟩ (.int .i64 0)).setCell ⟨B, 20, none⟩ (.int .i64 10000000)) B ⟨pack, oL, oH, 0, 10000000, 0, 0, 0, 0⟩ none 0 0 := ((HN3.out.set_tot (.pointer (some ⟨Bx, 0, none⟩))).set_sumL 0).set_sumH 10000000
      have h15 : (((w3.setCell ⟨B, 15, none⟩ (.pointer (some ⟨Bx, 0, none⟩))).setCell ⟨B, 19, none⟩ (.int .i64 0)).setCell ⟨B, 20, none⟩ (.int .i64 10000000)).cell? ⟨B, 15, none⟩ = some (.pointer (some ⟨Bx, 0, none⟩)) := cell_off' (cell_off' (cell_on' c15) (by decide)) (by decide)
      clear c0 c16 c17 c18 c19 c20 c21 c22 c23 c24 nf nl c15
      generalize (((w3.setCell ⟨B, 15, none⟩ (.pointer (some ⟨Bx, 0, none⟩))).setCell ⟨B, 19, none⟩ (.int .i64 0)).setCell ⟨B, 20, none⟩ (.int .i64 10000000)) = w4 at *
      have HK4 := Hd (HK3.out.trans hK4)
      have HE4 := Hd (HE3.out.keeps hK4 (fun x hx => .inr (by rw [List.mem_singleton.1 hx]; exact HOrd.out.2.2.2.2.1)))
      have hb4 : BoxG w4 Bx y.vals := ⟨Nat.lt_of_lt_of_le HBX.out.1 hK4.size, fun j => (hK4.frozen (a := ⟨Bx, j, none⟩) HBX.out.1 (fun e => HBxB.out (List.mem_singleton.1 e).symm)).trans (HBX.out.2.1 j), fun j hj => (hK4.cell? (a := ⟨Bx, j, none⟩) HBX.out.1 (fun e => HBxB.out (List.mem_singleton.1 e).symm)).trans (HBX.out.2.2 j hj)⟩
      have HTo := Hd (show ∀ W, Below w4.heap.size w4 W → TotAt W w.heap.size w4.heap.size B (some y) from fun W hW => by
       obtain ⟨r0, r1, r2, r3, r4, r5, r6, r7, r8, r9, r10, r11, r12, r13⟩ := hb4.pa
       exact ⟨Bx, hwx, World.block_lt_of_cell? _ _ r12, cell_stays h15 hW, cell_stays r12 hW⟩)
      have HN4 := Hd hN4
      obtain ⟨r0, r1, r2, r3, r4, r5, r6, r7, r8, r9, r10, r11, r12, r13⟩ := hb4.pa
      have e2 := HE4.out.al
      have e3 := HE4.out.id
      have bl := hb4.1
      clear hK4 hN4 h15 hb4 HE3 HN3 HK3 H15b HBX
      obtain ⟨al, hal⟩ : ∃ b, G.all = b := ⟨_, rfl⟩
      obtain ⟨ci, hci⟩ : ∃ b, ids.contains y.id = b := ⟨_, rfl⟩
      have HAl := Hd (show hasB G.all ids y.id = (al || ci) from by unfold hasB; rw [hal, hci])
      have CC := Hd (contains_any G.ia G.inn G.ic ids y.id w4 HE4.out.ri)
      rw [hci] at CC
      rw [hal] at e2
      clear hal hci
      go_cut [45] from 46 (fun s45 wx => s45 = .bool (al || ci) ∧ wx = w4)
      case first =>
       cases al with
       | true =>
         go_wp2_with fail
         go_meet
         exact ⟨rfl, rfl⟩
       | false =>
         go_wp2_with (first | (go_at_call 100; refine CC.out.mono ?_; rintro e w5 ⟨rfl, rfl⟩))
         go_meet
         exact ⟨by simp, rfl⟩
      case rest =>
      obtain ⟨rfl, hwc⟩ := hcut
      obtain rfl : w4 = wc := hwc.symm
      clear e2 e3 CC hwc
      obtain ⟨nl, nf, c0, c16, c17, c18, c19, c20, c21, c22, c23, c24⟩ := HN4.out
      cases hac : (al || ci) with
      | true =>
        rw [hac] at HAl
        clear hac
        go_wp2_with fail
        go_meet
        refine ⟨rfl, (HK4.out.then_set ⟨B, 19, none⟩ _ (.inl (by simp))).then_set ⟨B, 20, none⟩ _ (.inl (by simp)), ?_, ?_⟩
        · simp only [sumsOf, HAl.out, if_true]; exact (HN4.out.set_sumL _).set_sumH _
        · exact (((HTo.out w4 (Below.refl _ _)).set (by decide) HOrd.out.2.2.2.2.2).set (by decide) HOrd.out.2.2.2.2.2).mono (by simp [World.setCell])
      | false =>
        rw [hac] at HAl
        clear hac
        go_wp2_with fail
        go_meet
        refine ⟨rfl, HK4.out, ?_, HTo.out w4 (Below.refl _ _)⟩
        simp only [sumsOf, HAl.out, if_false]; exact HN4.out
   case rest =>
   obtain ⟨rfl, hk4, hn4, ht4⟩ := hcut
   clear HK3 HN3 H15b HE3 HBX HX hwx HBxB
   generalize wc = w4 at *
   have HE4 := Hd (HE.out.keeps hk4 (fun x hx => .inr (by rw [List.mem_singleton.1 hx]; exact HOrd.out.2.2.2.2.1)))
   have HM4 := Hd (HM.out.keeps hk4 (fun e => hBm (List.mem_singleton.1 e).symm))
   have HK4 := Hd hk4
   have HN4 := Hd hn4
   have HT4 := Hd ht4
   obtain ⟨sL, hsL⟩ : ∃ x, (sumsOf (hasB G.all ids) o).1 = x := ⟨_, rfl⟩
   obtain ⟨sH, hsH⟩ : ∃ x, (sumsOf (hasB G.all ids) o).2 = x := ⟨_, rfl⟩
   rw [hsL, hsH] at HN4
   have HS := Hd (And.intro hsL hsH)
   have e0 := HE4.out.m0
   have e1 := HE4.out.m1
   clear hk4 hn4 ht4 HE HM HN hsL hsH
   obtain ⟨ins, hins⟩ : ∃ l, insideL ps pack = l := ⟨_, rfl⟩
   have CI := Hd (show ∀ W, Rd Pa.vals 14 W G.pa G.pn ps → _ from fun W hW => inside_any G.pa G.pn G.pc G.ta G.tn G.tc ps pack W hW (by rw [← hW.len]; exact hlen))
   rw [hins] at CI
   have HI := Hd (show insideI ps pack = ins from hins)
   have hil : ins.length ≤ 1000 := by rw [← hins]; exact Nat.le_trans (insideL_len _ _) hlen
   clear hins
   go_upto_region 7 with (fail)
   go_wp2_with (first | (go_at_call 59; refine (CI.out _ HE4.out.rp).mono ?_; rintro e w5 ⟨v, rfl, hrow, hB5⟩; obtain ⟨ia, icap, rfl, hicap, hird, hibl⟩ := Rd.of_own hrow ints_length (by decide) rfl (by unfold maxLen; omega)))
   have HB5 := Hd hB5
   have HIr := Hd hird
   have HIb := Hd (show ∀ q, ia = some q → w4.heap.size ≤ q.block ∧ q.block < w5.heap.size from hibl)
   have HE5 := Hd (HE4.out.below' hB5)
   have HM5 := Hd (HM4.out.below' hB5)
   have HN5 := Hd (HN4.out.keeps (S := []) (Keeps.of_below hB5) (by simp))
   have HT5 := Hd ((HT4.out.mono hB5.size).keeps (S := []) (Keeps.of_below hB5) (by simp) (by simp))
   have HK5 := Hd (HK4.out.then_below hB5)
   have hsz5 : w.heap.size ≤ w5.heap.size := HK5.out.size
   have hsz45 : w4.heap.size ≤ w5.heap.size ∧ w.heap.size ≤ w4.heap.size := ⟨hB5.size, HK4.out.size⟩
   have HSz := Hd (And.intro hsz5 hsz45)
   clear hB5 hird hibl hrow e0 e1 HE4 HM4 HN4 HT4 HK4 CI hsz5 hsz45
   go_loopw [55] (fun i wr => ∃ (k : Nat) (ks : List Tr) (ka : Option Addr) (kcap : Nat), k ≤ ins.length ∧ i = .int .i64 k ∧ ks.length = k ∧
    mapO (fun p => growT ps ts (hasB G.all ids) d p (ownOf (hasB G.all ids) ((ofI ps p).getD pa0)).1 (ownOf (hasB G.all ids) ((ofI ps p).getD pa0)).2) (ins.take k) = some (ks.map Tr.sh) ∧
    GLoop w5 wr w.heap.size G B ⟨pack, oL, oH, sL, sH, 0, 0, 0, 0⟩ o ks m ka kcap) (fun i _ => ins.length - (intOf i).toNat)
   case atStart =>
    exact ⟨0, [], none, 0, Nat.zero_le _, rfl, rfl, rfl, Keeps.refl _ _, by simp only [preL, List.length_nil]; rw [show m + ((0 : Nat) : Int) = m from by omega, HMw.out]; exact HM5.out, HN5.out, World.ownsRow_nil _ _ _ _, by simp [rs], HT5.out, by simp [bsL], by simp [bsL], by simp⟩
   case round =>
    obtain ⟨k, ks, ka, kcap, hk, rfl, hkl, hmap, hg⟩ := hrel
    subst hkl
    have HG := Hd hg
    have HMap := Hd hmap
    clear hg hmap
    by_cases hlt : ks.length < ins.length
    · have hlt' : (ks.length : Int) < (ins.length : Int) := by omega
      have hi1 := HG.out.kp.rd HIr.out (fun _ q e hm => by
       have h1 := (HIb.out q e).1
       have h2 := HSz.out
       have h3 := HOrd.out
       simp only [List.mem_cons, List.not_mem_nil, or_false] at hm
       omega)
      obtain ⟨ib, ioff, p, rfl, hib, hpx, hicell⟩ := hi1.int hlt
      have HPx := Hd hpx
      have hpm : p ∈ insideI ps pack := by rw [HI.out]; exact List.mem_of_getElem? hpx
      obtain ⟨x, hxps, hxin, hxp⟩ := inside_mem hpm
      have hof := hp.find hxps
      rw [hxp] at hof
      have HX := Hd (And.intro hxps (And.intro hxin hxp))
      have CP := Hd (show ∀ W, Rd Pa.vals 14 W G.pa G.pn ps → _ from fun W hW => paper_any G.pa G.pn G.pc G.ta G.tn G.tc ps p W hW)
      rw [show ofL ps p = some x from hof] at CP
      simp only [show ofV (some x) = x from rfl, Option.isSome_some] at CP
      have HOf := Hd hof
      have HEr := Hd (HE5.out.keeps HG.out.kp (fun y hy => by
       simp only [List.mem_cons, List.not_mem_nil, or_false] at hy
       have := HOrd.out
       omega))
      have g0 := HEr.out.m0
      have g1 := HEr.out.m1
      clear hi1 hpx hpm hxps hxin hxp hof
      go_upto_region 12 with (first | (go_at_call 48; refine (CP.out _ HEr.out.rp).mono ?_; rintro e w6 ⟨rfl, hB6⟩))
      have hbx := BoxG.made w6 x.vals 42
      simp only [Pa.vals] at hbx
      have hnk := made_node (w6.alloc (.cells #[.int .i64 x.id, .int .i64 x.known, .int .u8 x.kind, .int .i64 x.loss, .int .i64 x.pack, .int .i64 x.inn, .string ⟨x.mark.toArray⟩, .string ⟨x.goods.toArray⟩, .int .i64 x.low, .int .i64 x.high, .int .i64 x.pieces, .int .i64 x.owner, .int .i64 x.count, .int .i64 x.of] 42)) x
      have hB8 : Below wr.heap.size wr ((w6.alloc (.cells #[.int .i64 x.id, .int .i64 x.known, .int .u8 x.kind, .int .i64 x.loss, .int .i64 x.pack, .int .i64 x.inn, .string ⟨x.mark.toArray⟩, .string ⟨x.goods.toArray⟩, .int .i64 x.low, .int .i64 x.high, .int .i64 x.pieces, .int .i64 x.owner, .int .i64 x.count, .int .i64 x.of] 42)).alloc (.cells #[.int .i64 0, .int .i64 x.id, .int .i64 x.known, .int .u8 x.kind, .int .i64 x.loss, .int .i64 x.pack, .int .i64 x.inn, .string ⟨x.mark.toArray⟩, .string ⟨x.goods.toArray⟩, .int .i64 x.low, .int .i64 x.high, .int .i64 x.pieces, .int .i64 x.owner, .int .i64 x.count, .int .i64 x.of, .pointer none, .slice none 0 0, .int .i64 1, .int .i64 100000, .int .i64 0, .int .i64 0, .int .i64 0, .int .i64 0, .int .i64 0, .int .i64 0] 80)) := (hB6.alloc hB6.size _).alloc (Nat.le_trans hB6.size (by simp)) _
      have hbx8 := BoxG.below' hbx (al' (Below.refl _ _) (.cells #[.int .i64 0, .int .i64 x.id, .int .i64 x.known, .int .u8 x.kind, .int .i64 x.loss, .int .i64 x.pack, .int .i64 x.inn, .string ⟨x.mark.toArray⟩, .string ⟨x.goods.toArray⟩, .int .i64 x.low, .int .i64 x.high, .int .i64 x.pieces, .int .i64 x.owner, .int .i64 x.count, .int .i64 x.of, .pointer none, .slice none 0 0, .int .i64 1, .int .i64 100000, .int .i64 0, .int .i64 0, .int .i64 0, .int .i64 0, .int .i64 0, .int .i64 0] 80))
      have hsz : (w6.alloc (.cells #[.int .i64 x.id, .int .i64 x.known, .int .u8 x.kind, .int .i64 x.loss, .int .i64 x.pack, .int .i64 x.inn, .string ⟨x.mark.toArray⟩, .string ⟨x.goods.toArray⟩, .int .i64 x.low, .int .i64 x.high, .int .i64 x.pieces, .int .i64 x.owner, .int .i64 x.count, .int .i64 x.of] 42)).heap.size = w6.heap.size + 1 := by simp
      rw [hsz] at hnk
      clear hbx g0 g1
      generalize (w6.alloc (.cells #[.int .i64 x.id, .int .i64 x.known, .int .u8 x.kind, .int .i64 x.loss, .int .i64 x.pack, .int .i64 x.inn, .string ⟨x.mark.toArray⟩, .string ⟨x.goods.toArray⟩, .int .i64 x.low, .int .i64 x.high, .int .i64 x.pieces, .int .i64 x.owner, .int .i64 x.count, .int .i64 x.of] 42)).alloc (.cells #[.int .i64 0, .int .i64 x.id, .int .i64 x.known, .int .u8 x.kind, .int .i64 x.loss, .int .i64 x.pack, .int .i64 x.inn, .string ⟨x.mark.toArray⟩, .string ⟨x.goods.toArray⟩, .int .i64 x.low, .int .i64 x.high, .int .i64 x.pieces, .int .i64 x.owner, .int .i64 x.count, .int .i64 x.of, .pointer none, .slice none 0 0, .int .i64 1, .int .i64 100000, .int .i64 0, .int .i64 0, .int .i64 0, .int .i64 0, .int .i64 0, .int .i64 0] 80) = w8 at *
      obtain ⟨Bx, hBx⟩ : ∃ B, w6.heap.size = B := ⟨_, rfl⟩
      obtain ⟨Bk, hBk⟩ : ∃ B, w6.heap.size + 1 = B := ⟨_, rfl⟩
      have HBk := Hd (show wr.heap.size ≤ Bk ∧ wr.heap.size ≤ Bx from by have := hB6.size; omega)
      rw [hBk] at hnk ⊢
      rw [hBx] at hbx8 ⊢
      clear hBx hBk hsz hB6
      obtain ⟨r0, r1, r2, r3, r4, r5, r6, r7, r8, r9, r10, r11, r12, r13⟩ := BoxG.pa (x := x) hbx8
      have bl := hbx8.1
      have HE8 := Hd (HEr.out.below' hB8)
      have HB8 := Hd hB8
      have HNk := Hd hnk
      have e2 := HE8.out.al
      have e3 := HE8.out.id
      have hnk' := hnk.n
      clear hbx8 hB8 hnk CP HEr
      obtain ⟨al, hal⟩ : ∃ b, G.all = b := ⟨_, rfl⟩
      obtain ⟨ci, hci⟩ : ∃ b, ids.contains x.id = b := ⟨_, rfl⟩
      have HAl := Hd (show hasB G.all ids x.id = (al || ci) from by unfold hasB; rw [hal, hci])
      have CC := Hd (contains_any G.ia G.inn G.ic ids x.id w8 HE8.out.ri)
      rw [hci] at CC
      rw [hal] at e2
      clear hal hci
      obtain ⟨kl, kf, k0, k16, k17, k18, k19, k20, k21, k22, k23, k24⟩ := hnk'
      clear hicell
      go_cut [75] from 76 to 97 (fun s75 wx => s75 = .bool (al || ci) ∧ wx = w8)
      case first =>
       cases al with
       | true =>
         go_wp2_with fail
         go_meet
         exact ⟨rfl, rfl⟩
       | false =>
         go_wp2_with (first | (go_at_call 100; refine CC.out.mono ?_; rintro e w9 ⟨rfl, rfl⟩))
         go_meet
         exact ⟨by simp, rfl⟩
      case rest =>
      obtain ⟨rfl, hwc⟩ := hcut
      obtain rfl : w8 = wc := hwc.symm
      clear e2 e3 CC hwc
      obtain ⟨oLk, hoL⟩ : ∃ y, (ownOf (hasB G.all ids) x).1 = y := ⟨_, rfl⟩
      obtain ⟨oHk, hoH⟩ : ∃ y, (ownOf (hasB G.all ids) x).2 = y := ⟨_, rfl⟩
      have HOk := Hd (And.intro hoL hoH)
      clear hoL hoH
      go_upto_if 75 with (fail)
      go_cut [13, 16] from 57 to 97 (fun s13 s16 wx => s13 = .int .i64 p ∧ s16 = .pointer (some ⟨Bk, 0, none⟩) ∧ Below wr.heap.size wr wx ∧ NewNode wx Bk oLk oHk)
      case first =>
       cases hac : (al || ci) with
       | true =>
         rw [hac] at HAl
         clear hac
         go_wp2_with fail
         go_meet
         have h1 := HOk.out
         simp only [ownOf, HAl.out, if_true] at h1
         refine ⟨rfl, rfl, ((Keeps.of_below (S := []) HB8.out).then_set ⟨Bk, 17, none⟩ _ (.inr HBk.out.1) |>.then_set ⟨Bk, 18, none⟩ _ (.inr HBk.out.1)).none, ?_⟩
         rw [← h1.1, ← h1.2]
         exact ⟨(HNk.out.n.set_ownL x.low).set_ownH x.high, cell_off' (cell_off' HNk.out.c15 (by decide)) (by decide)⟩
       | false =>
         rw [hac] at HAl
         clear hac
         go_wp2_with fail
         go_meet
         have h1 := HOk.out
         simp only [ownOf, HAl.out, if_false] at h1
         refine ⟨rfl, rfl, HB8.out, ?_⟩
         rw [← h1.1, ← h1.2]
         exact HNk.out
      case rest =>
      obtain ⟨rfl, rfl, hB9, hnk9⟩ := hcut
      clear HE8 HB8 HNk r0 r1 r2 r3 r4 r5 r6 r7 r8 r9 r10 r11 r12 r13 bl kl kf k0 k16 k17 k18 k19 k20 k21 k22 k23 k24
      generalize wc = w9 at *
      have HB9 := Hd hB9
      have HNk := Hd hnk9
      have hm9 := HG.out.mn.below' hB9
      obtain ⟨mc, mf⟩ := hm9
      clear hB9 hnk9
      obtain ⟨mv, hmv⟩ : ∃ y, IntKind.i64.wrap (m + (preL ks).length + 1) = y := ⟨_, rfl⟩
      obtain ⟨mu, hmu⟩ : ∃ y, IntKind.i64.wrap (m + (preL ks).length) = y := ⟨_, rfl⟩
      rw [hmu] at mc
      have hadd : IntKind.i64.wrap (mu + 1) = mv := by rw [← hmu, wrap_wrap, hmv]
      have HMv := Hd hmv
      have ml := World.block_lt_of_cell? _ _ mc
      clear hmv hmu
      go_upto_region 15 with (fail)
      have hk10 : Keeps [G.Bmany] w9 (w9.setCell ⟨G.Bmany, 0, none⟩ (.int .i64 mv)) := Keeps.setCell w9 ⟨G.Bmany, 0, none⟩ _
      have hm10 : ManyAt (w9.setCell ⟨G.Bmany, 0, none⟩ (.int .i64 mv)) G mv := ⟨cell_on' mc, by rw [World.frozen?_setCell]; exact mf⟩
      have hnB := HG.out.nd
      have hrow := HG.out.ow
      have hBk1 : G.Bmany ≠ Bk ∧ G.Bmany ≠ B ∧ G.Bmany < w5.heap.size := by
       have h1 := HBk.out; have h2 := HOrd.out; have h3 := HSz.out; have h4 := HG.out.kp.size; omega
      have hrow10 := hk10.own (own_later' hrow HB9.out) (fun r e hm => by
       have := (own_later' hrow HB9.out).lt r e
       rw [List.mem_singleton.1 hm] at this
       omega)
      have hnB10 := (hnB.keeps (S := []) (Keeps.of_below HB9.out) (by simp)).keeps hk10 (fun e => hBk1.2.1 (List.mem_singleton.1 e).symm)
      have hnk10 : NewNode (w9.setCell ⟨G.Bmany, 0, none⟩ (.int .i64 mv)) Bk oLk oHk := ⟨HNk.out.n.keeps hk10 (fun e => hBk1.1 (List.mem_singleton.1 e).symm), hk10.cell HNk.out.c15 (fun e => hBk1.1 (List.mem_singleton.1 e).symm)⟩
      have hkr : Keeps [B, G.Bmany] wr (w9.setCell ⟨G.Bmany, 0, none⟩ (.int .i64 mv)) := (Keeps.of_below HB9.out).trans (hk10.mono (fun y hy => by rw [List.mem_singleton.1 hy]; simp))
      have htt10 := (HG.out.tt.keeps (S := []) (Keeps.of_below HB9.out) (by simp) (by simp)).keeps hk10 (fun e => hBk1.2.1 (List.mem_singleton.1 e).symm) (fun y hy => by rw [List.mem_singleton.1 hy]; have := HOrd.out; omega)
      generalize w9.setCell ⟨G.Bmany, 0, none⟩ (.int .i64 mv) = w10 at *
      have HKr := Hd hkr
      have HM10 := Hd hm10
      have HRow10 := Hd hrow10
      have HNB10 := Hd hnB10
      have HNk10 := Hd hnk10
      have HTt10 := Hd htt10
      have HBk1 := Hd hBk1
      have hkbd : ks.length ≤ 1000 := by omega
      have hw510 : w5.heap.size ≤ w10.heap.size := Nat.le_trans HG.out.kp.size hkr.size
      have b16 := hnB10.c16
      have bl := hnB10.lt
      have bf := hnB10.fr 16
      clear hkr hm10 hrow10 hnB10 hnk10 htt10 hBk1 hk10 hnB hrow mc mf ml hadd HB9 HNk
      go_upto_region 16 with (at_builtin; go_loud (refine wpList_append_own_at _ rfl _ _ 78 rfl w5.heap.size 63 j0 _ 1 8 Tryz.underlying78 hj0 hy0 hy1 hy2 rfl (by decide) (.slice ka ks.length kcap) _ _ rfl (HRow10.out.alloc _) ⟨w10.heap.size, 0, none⟩ 1 1 (ptrs Bk) rfl rfl (cell_one_new _ _ _) (by simp [ptrs, Value.oneCell']) (by unfold maxLen; omega) (by omega) (Nat.le_trans hw510 (by simp)) ?_; intro v11 w11 hown11 hgrow11 _ hat11; have hown12 := own_ptr_next hown11; obtain ⟨a11, cap11, rfl, hcap11, hrd11, hbl11⟩ := Rd.of_own hown12 ptrs_length (by decide) (by simp) (by unfold maxLen; omega); have HO11 := Hd hown12; have HG11 := Hd hgrow11; have HA11 := Hd hat11; have bl11 : B < w11.heap.size := Nat.lt_of_lt_of_le bl (Nat.le_trans (by simp) hgrow11.size); have b16b := (hgrow11.cell_far ⟨B, 16, none⟩ (by simp; omega) (fun e => by have h1 := (HRow10.out.lt B e.symm).1; have h2 := HOrd.out; have h3 := HSz.out; omega)).trans (cell_stays b16 (al' (Below.refl _ _) _)); have bfb := (hgrow11.frozen_far ⟨B, 16, none⟩ (by simp; omega) (fun e => by have h1 := (HRow10.out.lt B e.symm).1; have h2 := HOrd.out; have h3 := HSz.out; omega)).trans (((al' (Below.refl _ _) _).frozen (p := ⟨B, 16, none⟩) bl).trans bf); clear hown11 hown12 hgrow11 hat11 hrd11 hbl11))
      have HMid := Hd (HG.out.mid HOrd.out.2.2.2.2.2 HSz.out.1 (Nat.lt_trans HOrd.out.2.2.2.1 HOrd.out.2.2.2.2.1) HBk.out.1 HKr.out HM10.out HNB10.out HNk10.out HTt10.out HG11.out HA11.out HO11.out)
      clear HKr HM10 HRow10 HNB10 HNk10 HTt10 HG11 HA11 HO11 b16 bl bf bl11 b16b bfb hw510
      generalize w11.setCell ⟨B, 16, none⟩ (.slice a11 (ks.length + 1) cap11) = w12 at *
      have HE12 := Hd (HE5.out.keeps HMid.out.k5 (fun y hy => by
       have := HOrd.out
       simp only [List.mem_cons, List.not_mem_nil, or_false] at hy; omega))
      have g5 := HE12.out.g
      unfold GLay.fn at g5
      have CK := Hd (IH.out p oLk oHk (pack :: c) Bk mv w12 (by
       obtain ⟨q1, q2, q3⟩ := HX.out
       rw [← q3]
       have := HC.out
       rw [← q2] at this ⊢
       exact .step q1 this) (by have := HL.out; simp only [List.length_cons] at this ⊢; omega) (by rw [← HMv.out, wrap_self]) HE12.out HMid.out.mn HMid.out.nk (by have h1 := HBk.out; have h2 := HOrd.out; have h3 := HSz.out; have h4 := HG.out.kp.size; omega))
      have HMs := Hd (take_succ_snoc HPx.out)
      have HGf := Hd (show (ownOf (hasB G.all ids) ((ofI ps p).getD pa0)).1 = oLk ∧ (ownOf (hasB G.all ids) ((ofI ps p).getD pa0)).2 = oHk from by rw [HOf.out]; exact HOk.out)
      go_wp2_with (first | (go_at_call 99; refine CK.out.mono ?_; rintro e w13 ⟨hk13, ⟨hbad, rfl⟩ | ⟨t, hgt, rfl, htb, htn, htf, htm, htr⟩⟩))
      · go_ret
        refine ⟨(HK5.out.mono (fun y hy => by simp only [List.mem_singleton] at hy; simp [hy])).trans (HMid.out.k5.of_later hk13 (fun y hy => by
         simp only [List.mem_cons, List.not_mem_nil, or_false] at hy ⊢
         have h1 := HBk.out; have h4 := HG.out.kp.size
         rcases hy with h | h
         · right; omega
         · left; right; exact h)), .inl ⟨grow_none ?_, rfl⟩⟩
        rw [HI.out]
        have e : ins = ins.take ks.length ++ p :: ins.drop (ks.length + 1) := by
         obtain ⟨h1, h2⟩ := List.getElem?_eq_some_iff.1 HPx.out
         rw [← h2, List.getElem_cons_drop, List.take_append_drop]
        rw [e]
        exact mapO_bad _ HMap.out (by simp only [HGf.out.1, HGf.out.2]; exact hbad)
      · refine ⟨⟨ks.length + 1, ks ++ [t], a11, cap11, by omega, by go_num, by simp, ?_, ?_⟩, by simp [intOf]; omega⟩
        · rw [HMs.out, List.map_append]
          exact mapO_snoc HMap.out (by simp only [HGf.out.1, HGf.out.2]; exact hgt)
        · exact HMid.out.next HG.out HOrd.out.2.2.2.2.2 HSz.out.1 (Nat.lt_trans HOrd.out.2.2.2.1 HOrd.out.2.2.2.2.1) HBk.out.1 hk13 HMv.out htb htn htf htm htr
    · have hltg : ¬ (ks.length : Int) < (ins.length : Int) := by omega
      have HTk := Hd (show mapO (fun p => growT ps ts (hasB G.all ids) d p (ownOf (hasB G.all ids) ((ofI ps p).getD pa0)).1 (ownOf (hasB G.all ids) ((ofI ps p).getD pa0)).2) (insideI ps pack) = some (ks.map Tr.sh) from by
       have := HMap.out
       rwa [List.take_of_length_le (by omega), ← HI.out] at this)
      have hkbd : ks.length ≤ 1000 := by omega
      have HDone := Hd (fun (wf : World) (f2 : Nf) => HG.out.done (wf := wf) (f2 := f2) HOrd.out.2.2.2.2.2 HSz.out.1 (Nat.lt_trans HOrd.out.2.2.2.1 HOrd.out.2.2.2.2.1))
      have HKw := Hd (show Keeps [B, G.Bmany] w wr from (HK5.out.mono (fun y hy => by simp only [List.mem_singleton] at hy; simp [hy])).trans HG.out.kp)
      obtain ⟨nl, nf, c0, c16, c17, c18, c19, c20, c21, c22, c23, c24⟩ := HG.out.nd
      have htt := HG.out.tt
      have HNd := Hd HG.out.nd
      clear hlt hk
      cases o with
      | none =>
        have c15 : wr.cell? ⟨B, 15, none⟩ = some (.pointer none) := htt
        clear htt
        go_wp2_with fail
        go_ret
        obtain ⟨q1, q2, q3, q4⟩ := HDone.out wr _ (Keeps.refl _ _) HNd.out
        exact ⟨HKw.out, .inr ⟨_, grow_some HTk.out HO.out HS.out rfl (Int.le_refl _), rfl, rfl, q1, q2, q3, q4⟩⟩
      | some x =>
        obtain ⟨Bx2, hx1, hx2, c15, hx3⟩ := htt
        have hne : Bx2 ≠ B := fun e => by have := HOrd.out; omega
        have hxc := hts x (List.mem_of_find?_eq_some HO.out)
        obtain ⟨cn, hcn⟩ : ∃ y, x.count = y := ⟨_, rfl⟩
        have HCn := Hd hcn
        rw [hcn] at hx3 hxc
        have xl := World.block_lt_of_cell? _ _ hx3
        have f21 := nf 21
        have i1 : IntKind.i64.wrap (cn - ks.length) = cn - ks.length := IntWalk.i64_in _ (by omega)
        clear hcn
        go_upto_region 20 with (fail)
        go_region_held3 (fun w' => w'.cell? ⟨B, 15, none⟩ = some (.pointer (some ⟨Bx2, 0, none⟩)) ∧ w'.cell? ⟨B, 16, none⟩ = some (.slice ka ks.length kcap) ∧ w'.cell? ⟨Bx2, 12, none⟩ = some (.int .i64 cn)) (first | exact sinkKeep c15 c16 hx3 (by decide) (by decide) hne | exact ⟨c15, c16, hx3⟩) (fail)
        all_goals go_wp2_with fail
        go_ret
        have hkf : Keeps [B] wr (wr.setCell ⟨B, 21, none⟩ (.int .i64 (cn - ks.length))).drew := (Keeps.setCell wr ⟨B, 21, none⟩ _).then_below (drewN_below _ 1)
        have hnf : NodeAt (wr.setCell ⟨B, 21, none⟩ (.int .i64 (cn - ks.length))).drew B ⟨pack, oL, oH, sL, sH, cn - ks.length, 0, 0, 0⟩ ka ks.length kcap := (HNd.out.set_miss _).keeps (S := []) (Keeps.of_below (drewN_below _ 1)) (by simp)
        have hkw : Keeps [B, G.Bmany] w (wr.setCell ⟨B, 21, none⟩ (.int .i64 (cn - ks.length))).drew := HKw.out.trans (hkf.mono (fun y hy => by rw [List.mem_singleton.1 hy]; simp))
        have hmiss : missOf (some x) ks.length = cn - ks.length := by simp only [missOf, HCn.out]
        by_cases hneg : (ks.length : Int) ≤ cn
        · obtain ⟨q1, q2, q3, q4⟩ := HDone.out _ _ hkf hnf
          exact ⟨hkw, .inr ⟨_, grow_some HTk.out HO.out HS.out hmiss (by omega), by simp [hneg], rfl, q1, q2, q3, q4⟩⟩
        · exact ⟨hkw, .inl ⟨grow_less HTk.out HO.out (by rw [List.length_map, hmiss]; omega), by simp [hneg]⟩⟩
structure Mani (ps ts : List Pa) : Prop where
 pk : Packs ps
 ct : ∀ x ∈ ts, 0 ≤ x.count ∧ x.count ≤ 1000
 ln : ps.length ≤ 1000
def TreePost (w : World) (ps ts : List Pa) (has : Int → Bool) (e : Ending) (w' : World) : Prop :=
 Below w.heap.size w w' ∧ ((treeT ps ts has = none ∧ e = .returned (.pointer none)) ∨
  (∃ t, treeT ps ts has = some t.sh ∧ e = .returned (.pointer (some ⟨t.b, 0, none⟩)) ∧ (∀ M : List Nat, (∀ x ∈ M, x < w.heap.size) → TreeAt (M ++ t.bs) w' t) ∧ t.bs.Nodup ∧ ∀ x ∈ t.bs, w.heap.size ≤ x))
theorem made_ship (w : World) : NewNode (w.alloc (.cells #[.int .i64 0, .int .i64 0, .int .i64 0, .int .u8 0, .int .i64 0, .int .i64 0, .int .i64 0, .string ⟨#[]⟩, .string ⟨#[]⟩, .int .i64 0, .int .i64 0, .int .i64 0, .int .i64 0, .int .i64 0, .int .i64 0, .pointer none, .slice none 0 0, .int .i64 0, .int .i64 1099511627776, .int .i64 0, .int .i64 0, .int .i64 0, .int .i64 0, .int .i64 0, .int .i64 0] 80)) w.heap.size 0 1099511627776 := by
 have h := heap_alloc_new w (.cells #[.int .i64 0, .int .i64 0, .int .i64 0, .int .u8 0, .int .i64 0, .int .i64 0, .int .i64 0, .string ⟨#[]⟩, .string ⟨#[]⟩, .int .i64 0, .int .i64 0, .int .i64 0, .int .i64 0, .int .i64 0, .int .i64 0, .pointer none, .slice none 0 0, .int .i64 0, .int .i64 1099511627776, .int .i64 0, .int .i64 0, .int .i64 0, .int .i64 0, .int .i64 0, .int .i64 0] 80)
 have hc : ∀ i, (w.alloc (.cells #[.int .i64 0, .int .i64 0, .int .i64 0, .int .u8 0, .int .i64 0, .int .i64 0, .int .i64 0, .string ⟨#[]⟩, .string ⟨#[]⟩, .int .i64 0, .int .i64 0, .int .i64 0, .int .i64 0, .int .i64 0, .int .i64 0, .pointer none, .slice none 0 0, .int .i64 0, .int .i64 1099511627776, .int .i64 0, .int .i64 0, .int .i64 0, .int .i64 0, .int .i64 0, .int .i64 0] 80)).cell? ⟨w.heap.size, i, none⟩ = _ := fun i => cell_of_row _ _ i _ _ (0, 0) h
 exact ⟨⟨by simp, fun j => frz0 h j, hc 0, hc 16, hc 17, hc 18, hc 19, hc 20, hc 21, hc 22, hc 23, hc 24⟩, hc 15⟩
theorem cell_new (w : World) (o : Nat) (cs : Array Value) (t : TypeId) : (w.alloc (.cells cs t)).cell? ⟨w.heap.size, o, none⟩ = (cs[o]?).map id := by
 rw [cell_of_row _ _ _ _ _ (0, 0) (heap_alloc_new w _)]; simp
theorem size_alloc (w : World) (c : _) : (w.alloc c).heap.size = w.heap.size + 1 := by simp
theorem tree_made (ps ts : List Pa) (ids : List Int) (all : Bool) (pa : Option Addr) (pn pc : Nat) (ta : Option Addr) (tn tc : Nat) (ia : Option Addr) (inn ic : Nat) (w w1 w2 w3 w4 w5 w6 : World)
 (e1 : w1 = w.alloc (.cells #[.slice pa pn pc, .slice ta tn tc] 62))
 (e2 : w2 = w1.alloc (.cells #[.slice ia inn ic] 43))
 (e3 : w3 = w2.alloc (.cells #[.bool all] 4))
 (e4 : w4 = w3.alloc (.cells #[.int .i64 0] 3))
 (e5 : w5 = w4.alloc (.cells #[.func (.func 99) #[] #[.pointer (some ⟨w.heap.size, 0, none⟩), .pointer (some ⟨w.heap.size + 1 + 1, 0, none⟩), .pointer (some ⟨w.heap.size + 1, 0, none⟩), .pointer (some ⟨w.heap.size + 1 + 1 + 1, 0, none⟩), .pointer (some ⟨w.heap.size + 1 + 1 + 1 + 1, 0, none⟩)]] 140))
 (e6 : w6 = w5.alloc (.cells #[.int .i64 0, .int .i64 0, .int .i64 0, .int .u8 0, .int .i64 0, .int .i64 0, .int .i64 0, .string ⟨#[]⟩, .string ⟨#[]⟩, .int .i64 0, .int .i64 0, .int .i64 0, .int .i64 0, .int .i64 0, .int .i64 0, .pointer none, .slice none 0 0, .int .i64 0, .int .i64 1099511627776, .int .i64 0, .int .i64 0, .int .i64 0, .int .i64 0, .int .i64 0, .int .i64 0] 80))
 (hp : Rd Pa.vals 14 w pa pn ps) (ht : Rd Pa.vals 14 w ta tn ts) (hi : Rd ints 1 w ia inn ids) (lp : ∀ p, pa = some p → p.block < w.heap.size) (lt : ∀ p, ta = some p → p.block < w.heap.size) (li : 0 < inn → ∀ p, ia = some p → p.block < w.heap.size) :
 GEnv w6 ⟨w.heap.size, w.heap.size + 1, w.heap.size + 1 + 1, w.heap.size + 1 + 1 + 1, w.heap.size + 1 + 1 + 1 + 1, pa, pn, pc, ta, tn, tc, ia, inn, ic, all⟩ ps ts ids ∧ ManyAt w6 ⟨w.heap.size, w.heap.size + 1, w.heap.size + 1 + 1, w.heap.size + 1 + 1 + 1, w.heap.size + 1 + 1 + 1 + 1, pa, pn, pc, ta, tn, tc, ia, inn, ic, all⟩ 0 ∧ NewNode w6 (w.heap.size + 1 + 1 + 1 + 1 + 1) 0 1099511627776 ∧ Below w.heap.size w w6 := by
 have s1 : w1.heap.size = w.heap.size + 1 := by rw [e1, size_alloc]
 have s2 : w2.heap.size = w.heap.size + 1 + 1 := by rw [e2, size_alloc, s1]
 have s3 : w3.heap.size = w.heap.size + 1 + 1 + 1 := by rw [e3, size_alloc, s2]
 have s4 : w4.heap.size = w.heap.size + 1 + 1 + 1 + 1 := by rw [e4, size_alloc, s3]
 have s5 : w5.heap.size = w.heap.size + 1 + 1 + 1 + 1 + 1 := by rw [e5, size_alloc, s4]
 have b6 : Below w5.heap.size w5 w6 := by rw [e6]; exact al' (Below.refl _ _) _
 have b5 : Below w4.heap.size w4 w6 := by rw [e6, e5]; exact al' (al' (Below.refl _ _) _) _
 have b4 : Below w3.heap.size w3 w6 := by rw [e6, e5, e4]; exact al' (al' (al' (Below.refl _ _) _) _) _
 have b3 : Below w2.heap.size w2 w6 := by rw [e6, e5, e4, e3]; exact al' (al' (al' (al' (Below.refl _ _) _) _) _) _
 have b2 : Below w1.heap.size w1 w6 := by rw [e6, e5, e4, e3, e2]; exact al' (al' (al' (al' (al' (Below.refl _ _) _) _) _) _) _
 have b1 : Below w.heap.size w w6 := by rw [e6, e5, e4, e3, e2, e1]; exact al' (al' (al' (al' (al' (al' (Below.refl _ _) _) _) _) _) _) _
 have hs := made_ship w5
 rw [← e6, s5] at hs
 have c1 := cell_new w 0 #[.slice pa pn pc, .slice ta tn tc] 62
 have c1' := cell_new w 1 #[.slice pa pn pc, .slice ta tn tc] 62
 have c2 := cell_new w1 0 #[.slice ia inn ic] 43
 have c3 := cell_new w2 0 #[.bool all] 4
 have c4 := cell_new w3 0 #[.int .i64 0] 3
 have c5 := cell_new w4 0 #[.func (.func 99) #[] #[.pointer (some ⟨w.heap.size, 0, none⟩), .pointer (some ⟨w.heap.size + 1 + 1, 0, none⟩), .pointer (some ⟨w.heap.size + 1, 0, none⟩), .pointer (some ⟨w.heap.size + 1 + 1 + 1, 0, none⟩), .pointer (some ⟨w.heap.size + 1 + 1 + 1 + 1, 0, none⟩)]] 140
 have f4 := frz0 (heap_alloc_new w3 (.cells #[.int .i64 0] 3)) 0
 rw [← e1] at c1 c1'
 rw [← e2, s1] at c2
 rw [← e3, s2] at c3
 rw [← e4, s3] at c4 f4
 rw [← e5, s4] at c5
 refine ⟨⟨cell_stays c1 (Below.mono b2 (Nat.le_refl _)), cell_stays c1' b2, cell_stays c3 b4, cell_stays c2 b3, cell_stays c5 b6, hp.below' b1, ht.below' b1, hi.below' b1, ⟨by simp only; omega, by simp only; omega, by simp only; omega, by simp only; omega, fun p e => by have := lp p e; simp only; omega, fun p e => by have := lt p e; simp only; omega, fun h0 p e => by have := li h0 p e; simp only; omega⟩⟩, ⟨cell_stays c4 b5, (b5.frozen (p := ⟨w.heap.size + 1 + 1 + 1, 0, none⟩) (by show w.heap.size + 1 + 1 + 1 < _; rw [s4]; omega)).trans f4⟩, hs, b1⟩
set_option maxRecDepth 100000 in
set_option maxHeartbeats 8000000 in
theorem tree_any (ps ts : List Pa) (hm : Mani ps ts) (ids : List Int) (all : Bool) (pa : Option Addr) (pn pc : Nat) (ta : Option Addr) (tn tc : Nat) (ia : Option Addr) (inn ic : Nat) (w : World)
 (hp : Rd Pa.vals 14 w pa pn ps) (ht : Rd Pa.vals 14 w ta tn ts) (hi : Rd ints 1 w ia inn ids) (lp : ∀ p, pa = some p → p.block < w.heap.size) (lt : ∀ p, ta = some p → p.block < w.heap.size) :
 Calls Tryz.prog 56 #[.agg #[.slice pa pn pc, .slice ta tn tc], .slice ia inn ic, .bool all] w (TreePost w ps ts (hasB all ids)) := by
 have hmf : ∀ (fn : Fn) (first cap : Array Value) (w : World), (Instr.makeFunc fn first cap).run Tryz.prog w = .ok (.func fn first cap) w := fun _ _ _ _ => rfl
 have HMade := Hd (tree_made ps ts ids all pa pn pc ta tn tc ia inn ic w _ _ _ _ _ _ rfl rfl rfl rfl rfl rfl hp ht hi lp lt (fun h0 p e => by obtain ⟨b, off, x, ha, hb, _⟩ := hi.read 0 h0; rw [ha] at e; cases e; exact hb))
 have Hl := Hd hp.len
 clear hp ht hi lp lt
 go_enter Tryz.func56, Tryz.ntmps56
 go_upto_region 5 with (fail)
 generalize ((((((w.alloc (.cells #[.slice pa pn pc, .slice ta tn tc] 62)).alloc (.cells #[.slice ia inn ic] 43)).alloc (.cells #[.bool all] 4)).alloc (.cells #[.int .i64 0] 3)).alloc (.cells #[.func (.func 99) #[] #[.pointer (some ⟨w.heap.size, 0, none⟩), .pointer (some ⟨w.heap.size + 1 + 1, 0, none⟩), .pointer (some ⟨w.heap.size + 1, 0, none⟩), .pointer (some ⟨w.heap.size + 1 + 1 + 1, 0, none⟩), .pointer (some ⟨w.heap.size + 1 + 1 + 1 + 1, 0, none⟩)]] 140)).alloc (.cells #[.int .i64 0, .int .i64 0, .int .i64 0, .int .u8 0, .int .i64 0, .int .i64 0, .int .i64 0, .string ⟨#[]⟩, .string ⟨#[]⟩, .int .i64 0, .int .i64 0, .int .i64 0, .int .i64 0, .int .i64 0, .int .i64 0, .pointer none, .slice none 0 0, .int .i64 0, .int .i64 1099511627776, .int .i64 0, .int .i64 0, .int .i64 0, .int .i64 0, .int .i64 0, .int .i64 0] 80)) = w6 at *
 obtain ⟨hE, hM, hN, hB⟩ := HMade.out
 have CG := Hd (grow_all _ ps ts ids hm.pk hm.ct hm.ln (ps.length + 1) 0 0 1099511627776 [] _ 0 w6 .root (by simp; omega) (by decide) hE hM hN (by simp only; omega))
 have HB := Hd hB
 have HE := Hd hE
 have g5 := hE.g
 have g0 := hE.m0
 have g1 := hE.m1
 unfold GLay.fn at g5
 simp only at g5 g0 g1 CG
 have hlen := hm.ln
 have HMn := Hd hm
 have gl := World.block_lt_of_cell? _ _ g0
 clear hE hM hN hB HMade hm
 cases hgr : growT ps ts (hasB all ids) (ps.length + 1) 0 0 1099511627776 with
 | none =>
   have HNo := Hd (show treeT ps ts (hasB all ids) = none from by unfold treeT; rw [hgr])
   have C2 := Hd (show Calls Tryz.prog 99 _ w6 (fun e w' => e = .returned (.bool false) ∧ Keeps [w.heap.size + 1 + 1 + 1 + 1 + 1, w.heap.size + 1 + 1 + 1] w6 w') from CG.out.mono (by
    rintro e w' ⟨h1, ⟨h2, h3⟩ | ⟨t, h2, _⟩⟩
    · exact ⟨h3, h1⟩
    · simp only at h2; rw [hgr] at h2; cases h2))
   clear hgr CG
   go_wp2_with (first | (go_at_call 99; refine C2.out.mono ?_; rintro e w7 ⟨rfl, hk7⟩))
   go_ret
   exact ⟨hk7.below_then HB.out (fun x hx => by simp only [List.mem_cons, List.not_mem_nil, or_false] at hx; omega) (Nat.le_refl _), .inl ⟨HNo.out, rfl⟩⟩
 | some t0 =>
   have C2 := Hd (show Calls Tryz.prog 99 _ w6 (fun e w' => e = .returned (.bool true) ∧ Keeps [w.heap.size + 1 + 1 + 1 + 1 + 1, w.heap.size + 1 + 1 + 1] w6 w' ∧ w'.cell? ⟨w.heap.size + 1 + 1 + 1, 0, none⟩ = some (.int .i64 t0.pre.length) ∧
    ∃ t, t.sh = t0 ∧ t.b = w.heap.size + 1 + 1 + 1 + 1 + 1 ∧ (∀ M : List Nat, (∀ x ∈ M, x < w.heap.size) → TreeAt (M ++ t.bs) w' t) ∧ t.bs.Nodup ∧ ∀ x ∈ t.bs, w.heap.size ≤ x) from CG.out.mono (by
    rintro e w' ⟨h1, ⟨h2, h3⟩ | ⟨t, h2, h3, h4, h5, h6, h7, h8⟩⟩
    · simp only at h2; rw [hgr] at h2; cases h2
    · simp only at h2
      rw [hgr] at h2
      have h2' := Option.some.inj h2
      have hc := grow_count HMn.out.pk hgr
      have hl : t.pre.length = t0.pre.length := by rw [h2', pre_sh, List.length_map]
      have hw : IntKind.i64.wrap (0 + (t.pre.length : Int)) = (t0.pre.length : Int) := by rw [hl, IntWalk.i64_in _ (by omega)]; omega
      have hmc := h7.c
      rw [hw] at hmc
      exact ⟨h3, h1, hmc, t, h2'.symm, h4, fun M hM => h8 M (fun x hx => by have := hM x hx; have := HB.out.size; omega), h5, fun x hx => by
       have := HB.out.size
       rcases h6 x hx with e | e <;> omega⟩))
   have hcnt := grow_count HMn.out.pk hgr
   obtain ⟨cn, hcn⟩ : ∃ n, t0.pre.length = n := ⟨_, rfl⟩
   rw [hcn] at C2 hcnt
   by_cases heq : cn = ps.length
   · have HYes := Hd (show treeT ps ts (hasB all ids) = some t0 from by unfold treeT; rw [hgr]; simp only; rw [if_pos (by rw [hcn, heq])])
     have hpn : pn = ps.length := Hl.out.symm
     subst hpn
     subst heq
     clear hgr CG hcn
     go_wp2_with (first | (go_at_call 99; refine C2.out.mono ?_; rintro e w7 ⟨rfl, hk7, hc7, t, ht, htb, htr, htn, htf⟩; have hg7 := hk7.cell g0 (by simp only [List.mem_cons, List.not_mem_nil, or_false]; omega); have hg8 := hk7.cell g1 (by simp only [List.mem_cons, List.not_mem_nil, or_false]; omega)))
     go_ret
     exact ⟨hk7.below_then HB.out (fun x hx => by simp only [List.mem_cons, List.not_mem_nil, or_false] at hx; omega) (Nat.le_refl _), .inr ⟨t, by rw [HYes.out, ht], by rw [htb]; rfl, htr, htn, htf⟩⟩
   · have HNo := Hd (show treeT ps ts (hasB all ids) = none from by unfold treeT; rw [hgr]; simp only; rw [if_neg (by rw [hcn]; exact heq)])
     have hpn : pn = ps.length := Hl.out.symm
     subst hpn
     have hne : ((cn : Int) != (ps.length : Int)) = true := by simp; omega
     clear hgr CG hcn
     go_wp2_with (first | (go_at_call 99; refine C2.out.mono ?_; rintro e w7 ⟨rfl, hk7, hc7, t, ht, htb, htr, htn, htf⟩; have hg7 := hk7.cell g0 (by simp only [List.mem_cons, List.not_mem_nil, or_false]; omega); have hg8 := hk7.cell g1 (by simp only [List.mem_cons, List.not_mem_nil, or_false]; omega)))
     go_ret
     exact ⟨hk7.below_then HB.out (fun x hx => by simp only [List.mem_cons, List.not_mem_nil, or_false] at hx; omega) (Nat.le_refl _), .inl ⟨HNo.out, rfl⟩⟩
end Go.Proofs.YtehplmeckfinoaaGreatDoor
