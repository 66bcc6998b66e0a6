/- Trees of packages; the plain law of growing, rising, sinking and finding (no dump). -/
import Derived.Test.YtehplmeckfinoaaGreatDoorCBase
set_option linter.unusedSimpArgs false
set_option linter.unusedVariables false
namespace Go.Proofs.YtehplmeckfinoaaGreatDoor
open Go.RowKit
structure Nf where
 (pack ownL ownH sumL sumH missing low endL endH : Int)
 deriving DecidableEq
inductive Tr where
 | node (b : Nat) (f : Nf) (ks : List Tr)
def Tr.b : Tr → Nat | .node b _ _ => b
def Tr.f : Tr → Nf | .node _ f _ => f
def Tr.ks : Tr → List Tr | .node _ _ ks => ks
theorem b_node (b : Nat) (f : Nf) (ks : List Tr) : (Tr.node b f ks).b = b := rfl
theorem f_node (b : Nat) (f : Nf) (ks : List Tr) : (Tr.node b f ks).f = f := rfl
theorem ks_node (b : Nat) (f : Nf) (ks : List Tr) : (Tr.node b f ks).ks = ks := rfl
mutual
def Tr.bs : Tr → List Nat
 | .node b _ ks => b :: bsL ks
def bsL : List Tr → List Nat
 | [] => []
 | k :: r => k.bs ++ bsL r
end
mutual
def Tr.siz : Tr → Nat
 | .node _ _ ks => sizL ks + 1
def sizL : List Tr → Nat
 | [] => 0
 | k :: r => k.siz + sizL r
end
theorem siz_pos (t : Tr) : 0 < t.siz := by cases t; unfold Tr.siz; omega
theorem siz_mem {ks : List Tr} {k : Tr} (h : k ∈ ks) : k.siz ≤ sizL ks := by
 induction ks with
 | nil => simp at h
 | cons x r ih =>
   unfold sizL
   rcases List.mem_cons.1 h with rfl | h
   · omega
   · have := ih h; omega
mutual
def Tr.pre : Tr → List Tr
 | .node _ _ ks => preL ks
def preL : List Tr → List Tr
 | [] => []
 | k :: r => k :: (k.pre ++ preL r)
end
def findT (t : Tr) (pack : Int) : Option Tr := t.pre.find? (fun k => decide (k.f.pack = pack))
def sumLow (ks : List Tr) : Int := (ks.map (fun k => k.f.low)).sum
def sumOwn (ks : List Tr) : Int := (ks.map (fun k => k.f.ownH)).sum
mutual
def riseT : Tr → Option Tr
 | .node b f ks => match riseL ks with
   | none => none
   | some ks' =>
     if min (f.missing * 100000 + sumOwn ks') f.sumH < max (f.missing + sumLow ks') f.sumL ∨ f.ownH < max (f.missing + sumLow ks') f.sumL then none
     else some (.node b { f with low := max f.ownL (max (f.missing + sumLow ks') f.sumL) } ks')
def riseL : List Tr → Option (List Tr)
 | [] => some []
 | k :: r => match riseT k with
   | none => none
   | some k' => match riseL r with
     | none => none
     | some r' => some (k' :: r')
end
mutual
def sinkT (lo hi : Int) : Tr → Tr
 | .node b f ks => .node b { f with endL := lo, endH := hi } (sinkL (min f.sumH hi) f.sumL (f.missing + sumLow ks) (f.missing * 100000 + sumOwn ks) ks)
def sinkL (top sl low high : Int) : List Tr → List Tr
 | [] => []
 | k :: r => sinkT (max k.f.low (sl - (high - k.f.ownH))) (min k.f.ownH (top - (low - k.f.low))) k :: sinkL top sl low high r
end
def solveT (t : Tr) : Option Tr := match riseT t with
 | none => none
 | some t' => some (sinkT t'.f.ownL t'.f.ownH t')
def mapO {α β : Type} (g : α → Option β) : List α → Option (List β)
 | [] => some []
 | x :: r => match g x with
   | none => none
   | some y => match mapO g r with
     | none => none
     | some ys => some (y :: ys)
def FB (f : Nf) : Prop := (0 ≤ f.missing ∧ f.missing ≤ 1000) ∧ (0 ≤ f.ownL ∧ f.ownL ≤ f.ownH ∧ f.ownH ≤ 1099511627776) ∧ (0 ≤ f.sumL ∧ f.sumL ≤ 1099511627776) ∧ (0 ≤ f.sumH ∧ f.sumH ≤ 1099511627776)
inductive Bd : Tr → Prop
 | node {b : Nat} {f : Nf} {ks : List Tr} (hf : FB f) (hl : ks.length ≤ 1000) (hk : ∀ k ∈ ks, Bd k) : Bd (.node b f ks)
theorem Bd.fb {t : Tr} (h : Bd t) : FB t.f := by cases h; assumption
theorem Bd.len {t : Tr} (h : Bd t) : t.ks.length ≤ 1000 := by cases h; assumption
theorem Bd.kids {t : Tr} (h : Bd t) : ∀ k ∈ t.ks, Bd k := by cases h; assumption
inductive Up : Tr → Prop
 | node {b : Nat} {f : Nf} {ks : List Tr} (h1 : f.missing + sumLow ks ≤ f.low) (h2 : f.sumL ≤ f.low) (h3 : f.ownL ≤ f.low) (h4 : f.low ≤ f.ownH) (h5 : f.missing + sumLow ks ≤ f.sumH)
   (h6 : f.sumL ≤ f.missing * 100000 + sumOwn ks) (h7 : f.sumL ≤ f.sumH) (hk : ∀ k ∈ ks, Up k) : Up (.node b f ks)
theorem Up.low {t : Tr} (h : Up t) : t.f.ownL ≤ t.f.low ∧ t.f.low ≤ t.f.ownH := by cases h; exact ⟨by assumption, by assumption⟩
theorem Up.kids {t : Tr} (h : Up t) : ∀ k ∈ t.ks, Up k := by cases h; assumption
theorem sumLow_nil : sumLow [] = 0 := rfl
theorem sumLow_cons (k : Tr) (r : List Tr) : sumLow (k :: r) = k.f.low + sumLow r := by simp [sumLow]
theorem sumOwn_nil : sumOwn [] = 0 := rfl
theorem sumOwn_cons (k : Tr) (r : List Tr) : sumOwn (k :: r) = k.f.ownH + sumOwn r := by simp [sumOwn]
theorem sumLow_snoc (l : List Tr) (k : Tr) : sumLow (l ++ [k]) = sumLow l + k.f.low := by simp [sumLow]
theorem sumOwn_snoc (l : List Tr) (k : Tr) : sumOwn (l ++ [k]) = sumOwn l + k.f.ownH := by simp [sumOwn]
theorem sumLow_bd : ∀ (l : List Tr), (∀ k ∈ l, 0 ≤ k.f.low ∧ k.f.low ≤ 1099511627776) → 0 ≤ sumLow l ∧ sumLow l ≤ (l.length : Int) * 1099511627776
 | [], _ => by simp [sumLow]
 | k :: r, h => by
   have h1 := sumLow_bd r (fun x hx => h x (List.mem_cons_of_mem _ hx))
   have h2 := h k (by simp)
   rw [sumLow_cons, List.length_cons]
   have : ((r.length + 1 : Nat) : Int) * 1099511627776 = (r.length : Int) * 1099511627776 + 1099511627776 := by push_cast; omega
   omega
theorem sumOwn_bd : ∀ (l : List Tr), (∀ k ∈ l, 0 ≤ k.f.ownH ∧ k.f.ownH ≤ 1099511627776) → 0 ≤ sumOwn l ∧ sumOwn l ≤ (l.length : Int) * 1099511627776
 | [], _ => by simp [sumOwn]
 | k :: r, h => by
   have h1 := sumOwn_bd r (fun x hx => h x (List.mem_cons_of_mem _ hx))
   have h2 := h k (by simp)
   rw [sumOwn_cons, List.length_cons]
   have : ((r.length + 1 : Nat) : Int) * 1099511627776 = (r.length : Int) * 1099511627776 + 1099511627776 := by push_cast; omega
   omega
theorem mem_low_le : ∀ {l : List Tr}, (∀ k ∈ l, 0 ≤ k.f.low) → ∀ {k : Tr}, k ∈ l → k.f.low ≤ sumLow l
 | [], _, k, h => by simp at h
 | x :: r, h, k, hk => by
   rw [sumLow_cons]
   have h0 : ∀ (r : List Tr), (∀ k ∈ r, 0 ≤ k.f.low) → 0 ≤ sumLow r := by
    intro r
    induction r with
    | nil => intro _; simp [sumLow]
    | cons y r ih => intro h; rw [sumLow_cons]; have := h y (by simp); have := ih (fun z hz => h z (List.mem_cons_of_mem _ hz)); omega
   rcases List.mem_cons.1 hk with rfl | hk
   · have := h0 r (fun z hz => h z (List.mem_cons_of_mem _ hz)); omega
   · have h1 := mem_low_le (fun z hz => h z (List.mem_cons_of_mem _ hz)) hk
     have := h x (by simp); omega
mutual
theorem riseT_up : ∀ (t t' : Tr), Bd t → riseT t = some t' → Bd t' ∧ Up t' ∧ t'.b = t.b ∧ t'.bs = t.bs ∧ t' = .node t.b { t.f with low := t'.f.low } t'.ks ∧ t'.ks.length = t.ks.length
 | .node b f ks, t', hb, h => by
   unfold riseT at h
   cases e : riseL ks with
   | none => rw [e] at h; simp at h
   | some ks' =>
     rw [e] at h
     simp only at h
     split at h
     · cases h
     · rename_i hn
       have h' := Option.some.inj h
       subst h'
       obtain ⟨h1, h2, h3, h4, h5⟩ := riseL_up ks ks' hb.kids e
       have hf := hb.fb
       have hl := hb.len
       simp only [Tr.f, Tr.ks] at hf hl
       obtain ⟨⟨m0, m1⟩, ⟨o0, o1, o2⟩, ⟨s0, s1⟩, ⟨s2, s3⟩⟩ := hf
       refine ⟨.node ⟨⟨m0, m1⟩, ⟨o0, o1, o2⟩, ⟨s0, s1⟩, ⟨s2, s3⟩⟩ (by rw [h4]; exact hl) h1, .node ?_ ?_ ?_ ?_ ?_ ?_ ?_ h2, rfl, ?_, rfl, h4⟩ <;> (try simp only) <;> (try omega)
       simp only [Tr.bs, h3]
theorem riseL_up : ∀ (ks ks' : List Tr), (∀ k ∈ ks, Bd k) → riseL ks = some ks' → (∀ k ∈ ks', Bd k) ∧ (∀ k ∈ ks', Up k) ∧ bsL ks' = bsL ks ∧ ks'.length = ks.length ∧ ks'.map Tr.b = ks.map Tr.b
 | [], ks', _, h => by
   unfold riseL at h
   cases h
   exact ⟨by simp, by simp, rfl, rfl, rfl⟩
 | k :: r, ks', hb, h => by
   unfold riseL at h
   cases e : riseT k with
   | none => rw [e] at h; simp at h
   | some k' =>
     rw [e] at h
     simp only at h
     cases e2 : riseL r with
     | none => rw [e2] at h; simp at h
     | some r' =>
       rw [e2] at h
       have h' := Option.some.inj h
       subst h'
       obtain ⟨a1, a2, a3, a4, _, _⟩ := riseT_up k k' (hb k (by simp)) e
       obtain ⟨b1, b2, b3, b4, b5⟩ := riseL_up r r' (fun x hx => hb x (List.mem_cons_of_mem _ hx)) e2
       refine ⟨?_, ?_, ?_, by simp [b4], by simp [a3, b5]⟩
       · intro x hx
         rcases List.mem_cons.1 hx with rfl | hx
         · exact a1
         · exact b1 x hx
       · intro x hx
         rcases List.mem_cons.1 hx with rfl | hx
         · exact a2
         · exact b2 x hx
       · simp only [bsL, a4, b3]
end
theorem riseL_snoc : ∀ (ks ks' : List Tr) (k k' : Tr), riseL ks = some ks' → riseT k = some k' → riseL (ks ++ [k]) = some (ks' ++ [k'])
 | [], ks', k, k', h, h2 => by
   unfold riseL at h; cases h
   simp only [List.nil_append]
   unfold riseL; rw [h2]; simp only
   unfold riseL; rfl
 | x :: r, ks', k, k', h, h2 => by
   unfold riseL at h
   cases e : riseT x with
   | none => rw [e] at h; simp at h
   | some x' =>
     rw [e] at h; simp only at h
     cases e2 : riseL r with
     | none => rw [e2] at h; simp at h
     | some r' =>
       rw [e2] at h
       have h' := Option.some.inj h
       subst h'
       have := riseL_snoc r r' k k' e2 h2
       simp only [List.cons_append]
       unfold riseL; rw [e]; simp only; rw [this]
theorem riseL_bad : ∀ (ks ks' : List Tr) (k : Tr) (r : List Tr), riseL ks = some ks' → riseT k = none → riseL (ks ++ k :: r) = none
 | [], ks', k, r, h, h2 => by
   simp only [List.nil_append]
   unfold riseL; rw [h2]
 | x :: q, ks', k, r, h, h2 => by
   unfold riseL at h
   cases e : riseT x with
   | none => rw [e] at h; simp at h
   | some x' =>
     rw [e] at h; simp only at h
     cases e2 : riseL q with
     | none => rw [e2] at h; simp at h
     | some r' =>
       have := riseL_bad q r' k r e2 h2
       simp only [List.cons_append]
       unfold riseL; rw [e]; simp only; rw [this]
theorem bsL_append (a b : List Tr) : bsL (a ++ b) = bsL a ++ bsL b := by
 induction a with
 | nil => rfl
 | cons k r ih => simp only [List.cons_append, bsL, ih, List.append_assoc]
theorem bsL_mem {ks : List Tr} {k : Tr} (h : k ∈ ks) : ∀ b ∈ k.bs, b ∈ bsL ks := by
 induction ks with
 | nil => simp at h
 | cons x r ih =>
   intro b hb
   unfold bsL
   rcases List.mem_cons.1 h with rfl | h
   · exact List.mem_append_left _ hb
   · exact List.mem_append_right _ (ih h b hb)
theorem b_mem (t : Tr) : t.b ∈ t.bs := by cases t; simp [Tr.bs, Tr.b]
theorem sinkL_snoc (top sl low high : Int) (l : List Tr) (k : Tr) : sinkL top sl low high (l ++ [k]) = sinkL top sl low high l ++ [sinkT (max k.f.low (sl - (high - k.f.ownH))) (min k.f.ownH (top - (low - k.f.low))) k] := by
 induction l with
 | nil => simp only [List.nil_append, sinkL]
 | cons x r ih => simp only [List.cons_append, sinkL, ih]
theorem sinkL_length (top sl low high : Int) (l : List Tr) : (sinkL top sl low high l).length = l.length := by
 induction l with
 | nil => rfl
 | cons x r ih => simp only [sinkL, List.length_cons, ih]
theorem sinkT_b (lo hi : Int) (t : Tr) : (sinkT lo hi t).b = t.b := by cases t; simp only [sinkT, Tr.b]
theorem sinkL_b (top sl low high : Int) (l : List Tr) : (sinkL top sl low high l).map Tr.b = l.map Tr.b := by
 induction l with
 | nil => rfl
 | cons x r ih => simp only [sinkL, List.map_cons, ih, sinkT_b]
mutual
theorem sinkT_bs (lo hi : Int) : ∀ t : Tr, (sinkT lo hi t).bs = t.bs
 | .node b f ks => by simp only [sinkT, Tr.bs, sinkL_bs]
theorem sinkL_bs (top sl low high : Int) : ∀ l : List Tr, bsL (sinkL top sl low high l) = bsL l
 | [] => rfl
 | k :: r => by simp only [sinkL, bsL, sinkT_bs, sinkL_bs top sl low high r]
end
def sumsOf (has : Int → Bool) (o : Option Pa) : Int × Int := match o with
 | none => (0, 1099511627776)
 | some x => if has x.id then (x.low, x.high) else (0, 10000000)
def ownOf (has : Int → Bool) (x : Pa) : Int × Int := if has x.id then (x.low, x.high) else (1, 100000)
def missOf (o : Option Pa) (n : Nat) : Int := match o with
 | none => 0
 | some x => x.count - n
def insideI (ps : List Pa) (pack : Int) : List Int := (ps.filter (fun x => decide (x.inn = pack))).map (·.pack)
def ofI (xs : List Pa) (pack : Int) : Option Pa := xs.find? (fun y => decide (y.pack = pack))
def growT (ps ts : List Pa) (has : Int → Bool) : Nat → Int → Int → Int → Option Tr
 | 0, _, _, _ => none
 | d + 1, pack, oL, oH =>
   match mapO (fun p => growT ps ts has d p (ownOf has ((ofI ps p).getD pa0)).1 (ownOf has ((ofI ps p).getD pa0)).2) (insideI ps pack) with
   | none => none
   | some ks => if missOf (ofI ts pack) ks.length < 0 then none
     else some (.node 0 ⟨pack, oL, oH, (sumsOf has (ofI ts pack)).1, (sumsOf has (ofI ts pack)).2, missOf (ofI ts pack) ks.length, 0, 0, 0⟩ ks)
def treeT (ps ts : List Pa) (has : Int → Bool) : Option Tr := match growT ps ts has (ps.length + 1) 0 0 1099511627776 with
 | none => none
 | some t => if t.pre.length = ps.length then some t else none
def lastOf (c : List Pa) (loss : Int) (tot : Bool) (pack : Int) : Option Pa := (c.filter (fun x => decide (x.loss = loss) && decide (x.kind = 2) == tot && decide (x.pack = pack))).getLast?
def packsU : List Int := (List.range 201).map Int.ofNat
def papersC (c : List Pa) (loss : Int) : List Pa := packsU.filterMap (lastOf c loss false)
def totalsC (c : List Pa) (loss : Int) : List Pa := packsU.filterMap (fun p => if p = 0 ∨ (lastOf c loss false p).isSome then lastOf c loss true p else none)
def papersL (l : List Pa) (known loss : Int) : List Pa := papersC (countL l known) loss
def totalsL (l : List Pa) (known loss : Int) : List Pa := totalsC (countL l known) loss
def openE (l : List Pa) (loss : Int) : Int := if (checkC l).2 = 0 then (if within loss 1 20 then 0 else 1) else (checkC l).2
def papersO (l : List Pa) (known loss : Int) : List Pa := if openE l loss = 0 then papersL l known loss else []
def totalsO (l : List Pa) (known loss : Int) : List Pa := if openE l loss = 0 then totalsL l known loss else []
def rootE (l : List Pa) (known loss : Int) (there : Bool) : Int :=
 if openE l loss = 0 then (if there then (if (treeT (papersL l known loss) (totalsL l known loss) (fun _ => true)).isSome then 0 else 11) else 5) else openE l loss
def rootT (l : List Pa) (known loss : Int) : Option Tr := treeT (papersL l known loss) (totalsL l known loss) (fun _ => true)
def weighE (l : List Pa) (known loss : Int) (there : Bool) : Int :=
 if rootE l known loss there = 0 then (if ((rootT l known loss).bind solveT).isSome then 0 else 10) else rootE l known loss there
def hasP (l : List Pa) (known loss pack : Int) : Bool := (ofI (papersL l known loss) pack).isSome
def nodeF (o : Option Tr) : Nf := match o with | some t => t.f | none => ⟨0, 0, 0, 0, 0, 0, 0, 0, 0⟩
def weighP (l : List Pa) (known loss pack : Int) : Int × Int := match (rootT l known loss).bind solveT with
 | some t => ((nodeF (findT t pack)).endL, (nodeF (findT t pack)).endH)
 | none => (0, 0)
def idsM (ps ts l : List Pa) : List Int := (l.filter (fun x => (ps ++ ts).any (fun y => decide (y.id = x.id)))).map (·.id)
def endM (ps ts : List Pa) (ids : List Int) (pack : Int) (upper : Bool) : Option Int := match (treeT ps ts (fun i => ids.contains i)).bind solveT with
 | none => none
 | some t => some (if upper then (nodeF (findT t pack)).endH else (nodeF (findT t pack)).endL)
def leftR (still : List Int → Bool) : List Int → List Int → List Int
 | [], out => out
 | i :: r, out => leftR still r (if still (out.filter (fun x => !decide (x = i))) then out.filter (fun x => !decide (x = i)) else out)
def leftL (still : List Int → Bool) (ids : List Int) : List Int := (leftR still ids.reverse ids).mergeSort (fun x y => decide (x ≤ y))
def restsB (ps ts : List Pa) (pack : Int) (upper : Bool) (want : Int) (ids : List Int) : Bool := decide (endM ps ts ids pack upper = some want)
def lineageP (ps ts l : List Pa) (pack : Int) (upper : Bool) : List Int := leftL (restsB ps ts pack upper ((endM ps ts (idsM ps ts l) pack upper).getD 0)) (idsM ps ts l)
def doubtB (ps ts : List Pa) (ids : List Int) : Bool := ((treeT ps ts (fun i => ids.contains i)).bind solveT).isNone
def doubtP (ps ts l : List Pa) : List Int := leftL (doubtB ps ts) (idsM ps ts l)
def leavesP (ps ts : List Pa) : List Int := (ps.filter (fun x => (insideI ps x.pack).isEmpty && (match ofI ts x.pack with | none => true | some t => decide (t.count = 0)))).map (·.pack)
def pathP (ps : List Pa) : Nat → Int → List Int → List Int
 | 0, _, acc => acc
 | d + 1, p, acc => if p = 0 then acc else pathP ps d (((ofI ps p).getD pa0).inn) (p :: acc)
end Go.Proofs.YtehplmeckfinoaaGreatDoor
