/- take, all of it. -/
import Derived.Test.YtjleembfocghlaaGreatDoorTakeB
import Derived.Test.YtjleembfocghlaaGreatDoorTakeC
import Derived.Test.YtjleembfocghlaaGreatDoorTakeF
set_option linter.unusedSimpArgs false
set_option linter.unusedVariables false
namespace Go.Proofs.YtjleembfocghlaaGreatDoor
open Go.RowKit

theorem take_any (L : Lay) (s : Ch) (p : Po) (w : World) (hp : p.Wf) (h : ChAt w L s) (hb : Bd s) :
    Calls Tryz.prog 36 #[.pointer (some ⟨L.c, 0, none⟩), .agg #[.int .i64 p.id, .int .i64 p.hour, .int .u8 p.kind, .int .i64 p.party, .int .i64 p.parcel, .int .i64 p.amount, .int .i64 p.reason, .int .i64 p.known]] w fun r w' =>
      r = .returned (.int .i64 (takeE s p)) ∧ OnlyL L w w' ∧ (takeE s p = 0 → ChAt w' L (takeS s p)) := by
  by_cases hn : 400 ≤ s.n
  · exact take_limit L s p w hp h hn
  have hn : s.n < 400 := by omega
  by_cases hok : okPo p
  case neg => exact take_arg L s p w hp h hn hok
  cases hid : getB s.ids p.id with
  | true => exact take_id L s p w hp h hn hok hid
  | false =>
  by_cases hh : p.hour < s.hour
  · exact take_time L s p w hp h hn hok hid hh
  have hh : s.hour ≤ p.hour := by omega
  have ho := hok
  unfold okPo at ho
  have ham : 0 ≤ p.amount ∧ p.amount ≤ 1000000000 := by omega
  have h2 := hb.held p.parcel
  have h3 := hb.has (p.parcel, p.party)
  by_cases hk1 : p.kind = 1
  · cases hs : (mget s.sold p.parcel).isSome with
    | true => exact take_sale_twice L s p w hp h hn hok hid hh hk1 hs
    | false => exact take_sale_ok L s p w hp h hn hok hid hh hk1 hb.n.1 hs
  by_cases hk2 : p.kind = 2
  · cases hs : (mget s.sold p.parcel).isSome with
    | false => exact take_pay_none L s p w hp h hn hok hid hh hk2 hs
    | true =>
      by_cases ha : getI s.held p.parcel < p.amount
      · exact take_pay_poor L s p w hp h hn hok hid hh hk2 hs ha
      · exact take_pay_ok L s p w hp h hn hok hid hh hk2 hb.n.1 hs (by omega) ham h2.2 h3
  have hk3 : p.kind = 3 := by omega
  cases hs : (mget s.sold p.parcel).isSome with
  | false => exact take_back_none L s p w hp h hn hok hid hh hk3 hs
  | true =>
    by_cases ha : getI s.has (p.parcel, p.party) < p.amount
    · exact take_back_poor L s p w hp h hn hok hid hh hk3 hs ha
    · by_cases hkn : p.known ≤ (getP s.last (p.parcel, p.party)).known
      · exact take_back_reason L s p w hp h hn hok hid hh hk3 hs (by omega) hkn
      · exact take_back_ok L s p w hp h hn hok hid hh hk3 hb.n.1 hs (by omega) (by omega) ham h2 h3.2
end Go.Proofs.YtjleembfocghlaaGreatDoor
