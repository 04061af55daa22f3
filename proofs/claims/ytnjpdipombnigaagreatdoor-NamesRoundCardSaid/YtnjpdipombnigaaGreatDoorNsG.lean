/-
  NamesRound: the request for a name's atom may be.
-/
import Derived.Test.YtnjpdipombnigaaGreatDoorNsC
import Derived.Test.YtnjpdipombnigaaGreatDoorNsP0
import Derived.Test.YtnjpdipombnigaaGreatDoorNsP1
import Derived.Test.YtnjpdipombnigaaGreatDoorNsP2
namespace Go.Proofs.YtnjpdipombnigaaGreatDoor
namespace Ev
open Go.RowKit
theorem pack_any {n : Nat} (h : n < 60) : packB n = true := by
  by_cases h0 : n < 20
  · exact allNs_ok pack_0 n (by omega) (by omega)
  · by_cases h1 : n < 40
    · exact allNs_ok pack_1 n (by omega) (by omega)
    · exact allNs_ok pack_2 n (by omega) (by omega)
theorem packNameD {l : List UInt8} (h0 : 1 ≤ l.length) (h1 : l.length ≤ 60) (hp : ∀ b ∈ l, isPr b) :
    FunD nsTabs 19 [.agg [.v (.int .i64 11), .sl 1 [.v (.int .i64 0)], .v (.string ⟨l.toArray⟩), .v (.slice none 0 0)]] (.c (.v (.int .i64 0))) := by
  have h := pack_any (n := l.length - 1) (by omega)
  unfold packB at h
  rw [show l.length - 1 + 1 = l.length by omega] at h
  refine funD_run (ρ := nameρ l) (δ := fun _ => .sl 1 [.v (.int .i64 0)]) (fl := []) (n := 100000) (c := 64) (fs := []) ns_mix ns_names (by decide) h (fun _ h => by cases h) ?_ (.cons (.agg (.cons (.int _ _) (.cons (.opq 0) (.cons (isD_name hp) (.cons .nilslice .nil))))) .nil) (.c (.int _ _))
  exact rowD_ok (n := 1) (ds := [.v (.int .i64 0)]) sliceT_22 aggT_2 rfl rfl (.cons (.int _ _) .nil)
end Ev
end Go.Proofs.YtnjpdipombnigaaGreatDoor
