/- awake: what the chapter's examples come to. -/
import Derived.Test.YtijcjllojhpioaaPStripSizesx1
import Derived.Test.YtijcjllojhpioaaPlain03
namespace Go.Proofs.Ytijcjllojhpioaa
open Go Go.RowKit Go.Fur Go.Proofs.YtijcjllojhpioaaW.PrintWords
theorem awake_some : PStripSizes.furlonglaw03_awake.f = some true := by decide +kernel
def furlonglaw03_awake.f : Option Bool := some true
theorem furlonglaw03_awake.calls (r : Bool) (w : World) (h : furlonglaw03_awake.f = some r) :
    Calls Try.prog 11 #[] w fun e w' => e = .returned (.bool r) ∧ Below w.heap.size w w' := by
  obtain rfl := Option.some.inj h
  exact PStripSizes.furlonglaw03_awake.calls true w awake_some
end Go.Proofs.Ytijcjllojhpioaa
