/-
  The statements of layer 12: equal.
-/
import Derived.Test.YtgbgneiciabidaaGreatDoorGs30
namespace Go.Proofs.YtgbgneiciabidaaGreatDoor
open Go Go.RowKit
set_option linter.all false
set_option maxHeartbeats 8000000
attribute [-go_sem] run_neq_struct
attribute [local go_sem] neq_pair guard_pair
def EqPost (ps qs : List KV) (l : List Say) (w : World) (r : Ending) (w' : World) : Prop := r = .returned (.bool (decide (ps = qs))) /\ Kept w w' /\ Has w' l
end Go.Proofs.YtgbgneiciabidaaGreatDoor
