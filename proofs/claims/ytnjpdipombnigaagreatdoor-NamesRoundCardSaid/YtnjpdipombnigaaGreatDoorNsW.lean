/-
  NamesRound: the example.
-/
import Derived.Test.YtnjpdipombnigaaGreatDoorNsT
namespace Go.Proofs.YtnjpdipombnigaaGreatDoor
namespace Ev
open Go.RowKit
theorem awakeD : FunD nsTabs 4 [] (.c (.v (.bool true))) :=
  funD_run (ρ := fun _ => 0) (δ := fun _ => default) (fl := []) (n := 100000) (c := 64) (args := []) (res := .bool true) (fs := []) (ds := []) ns_mix ns_names (by decide) (by kernel_rfl) (fun _ h => by cases h) (fun _ h => by cases h) .nil (.c (.bool true))
end Ev
end Go.Proofs.YtnjpdipombnigaaGreatDoor
