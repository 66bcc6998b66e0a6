/- Papers, and how they lie in memory; the plain law of papers (no dump). -/
import Derived.Test.YtehplmeckfinoaaGreatDoorBase
import Derived.Test.YtehplmeckfinoaaGreatDoorRow
set_option linter.unusedSimpArgs false
set_option linter.unusedVariables false
namespace Go.Proofs.YtehplmeckfinoaaGreatDoor
open Go.RowKit
structure Pa where
 (id known kind loss pack inn : Int)
 (mark goods : List UInt8)
 (low high pieces owner count of : Int)
 deriving DecidableEq
def Pa.vals (p : Pa) : List Value := [.int .i64 p.id, .int .i64 p.known, .int .u8 p.kind, .int .i64 p.loss, .int .i64 p.pack, .int .i64 p.inn, .string ⟨p.mark.toArray⟩, .string ⟨p.goods.toArray⟩, .int .i64 p.low, .int .i64 p.high, .int .i64 p.pieces, .int .i64 p.owner, .int .i64 p.count, .int .i64 p.of]
theorem Pa.vals_length (p : Pa) : p.vals.length = 14 := rfl
theorem pa_one (xs : List Pa) : ∀ u ∈ xs.flatMap Pa.vals, u.oneCell' = true := by
 intro u hu
 obtain ⟨x, _, hx⟩ := List.mem_flatMap.1 hu
 simp only [Pa.vals, List.mem_cons, List.not_mem_nil, or_false] at hx
 rcases hx with rfl | rfl | rfl | rfl | rfl | rfl | rfl | rfl | rfl | rfl | rfl | rfl | rfl | rfl <;> rfl
def pa0 : Pa := ⟨0, 0, 0, 0, 0, 0, [], [], 0, 0, 0, 0, 0, 0⟩
def smallC (c : UInt8) : Bool := decide (97 ≤ c.toNat ∧ c.toNat ≤ 122 ∨ 48 ≤ c.toNat ∧ c.toNat ≤ 57)
def markC (c : UInt8) : Bool := smallC c || c == 63
def nameC (c : UInt8) : Bool := smallC c || c == 45
def isMark (s : List UInt8) : Bool := s.all markC && decide (1 ≤ s.length ∧ s.length ≤ 12)
def isName (s : List UInt8) : Bool := decide (1 ≤ s.length ∧ s.length ≤ 24) && (match s with | [] => false | c :: _ => decide (97 ≤ c.toNat ∧ c.toNat ≤ 122)) && s.all nameC
def within (n a b : Int) : Bool := decide (a ≤ n ∧ n ≤ b)
def spanB (lo hi a b : Int) : Bool := decide (a ≤ lo ∧ hi ≤ b ∧ lo ≤ hi)
def formedP (x : Pa) : Prop :=
 (1 ≤ x.id ∧ x.id ≤ 1000000) ∧ (0 ≤ x.known ∧ x.known ≤ 1000000) ∧
 ((x.kind = 1 ∧ (1 ≤ x.loss ∧ x.loss ≤ 20) ∧ (1 ≤ x.pack ∧ x.pack ≤ 200) ∧ (0 ≤ x.inn ∧ x.inn ≤ 200) ∧ x.inn ≠ x.pack ∧ isMark x.mark = true ∧ isName x.goods = true ∧
    (1 ≤ x.low ∧ x.high ≤ 100000 ∧ x.low ≤ x.high) ∧ (1 ≤ x.pieces ∧ x.pieces ≤ 20) ∧ (1 ≤ x.owner ∧ x.owner ≤ 40) ∧ x.count = 0 ∧ x.of = 0) ∨
  (x.kind = 2 ∧ (1 ≤ x.loss ∧ x.loss ≤ 20) ∧ (0 ≤ x.pack ∧ x.pack ≤ 200) ∧ (0 ≤ x.count ∧ x.count ≤ 40) ∧ (0 ≤ x.low ∧ x.high ≤ 10000000 ∧ x.low ≤ x.high) ∧
    x.inn = 0 ∧ x.mark = [] ∧ x.goods = [] ∧ x.pieces = 0 ∧ x.owner = 0 ∧ x.of = 0) ∨
  (x.kind = 3 ∧ (1 ≤ x.of ∧ x.of ≤ 1000000) ∧ x.loss = 0 ∧ x.pack = 0 ∧ x.inn = 0 ∧ x.mark = [] ∧ x.goods = [] ∧ x.low = 0 ∧ x.high = 0 ∧ x.pieces = 0 ∧ x.owner = 0 ∧ x.count = 0))
instance (x : Pa) : Decidable (formedP x) := by unfold formedP; infer_instance
def meetL (a b : List UInt8) : Bool := isMark a && isMark b && decide (a.length = b.length) && (a.zip b).all (fun p => p.1 == p.2 || p.1 == 63 || p.2 == 63)
def signsL (a : List UInt8) : Int := if isMark a then ((a.filter (fun c => !(c == 63))).length : Int) else 0
def earlyB (l : List Pa) (known : Int) : Bool := match l.getLast? with | some y => decide (known < y.known) | none => false
def followsL (l : List Pa) (x : Pa) : Int :=
 if 300 ≤ l.length then 2
 else if ¬ formedP x then 1
 else if l.any (fun y => decide (y.id = x.id)) then 6
 else if earlyB l x.known = true then 7
 else if x.kind ≠ 3 then 0
 else if ¬ l.any (fun y => decide (y.id = x.of ∧ y.kind ≠ 3)) then 5
 else if l.any (fun y => decide (y.kind = 3 ∧ y.of = x.of)) then 6
 else 0
def checkFrom (l : List Pa) : Nat → Nat → Int × Int
 | 0, _ => (0, 0)
 | m + 1, i => match l[i]? with
   | none => (0, 0)
   | some x => if followsL (l.take i) x = 0 then checkFrom l m (i + 1) else ((i : Int), followsL (l.take i) x)
def checkC (l : List Pa) : Int × Int := checkFrom l l.length 0
def voided (l : List Pa) (known : Int) (id : Int) : Bool := l.any (fun v => decide (v.kind = 3 ∧ v.known ≤ known ∧ v.of = id))
def countL (l : List Pa) (known : Int) : List Pa := l.filter (fun x => decide (x.kind ≠ 3 ∧ x.known ≤ known) && !voided l known x.id)
end Go.Proofs.YtehplmeckfinoaaGreatDoor
