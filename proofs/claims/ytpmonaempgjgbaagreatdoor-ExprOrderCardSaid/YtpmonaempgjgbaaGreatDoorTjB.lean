/- furrowlaw4.known returns true. -/
import Derived.Test.YtpmonaempgjgbaaGreatDoorTjA
set_option linter.unusedSimpArgs false
set_option linter.unusedVariables false
namespace Go.Proofs.YtpmonaempgjgbaaGreatDoor
open Go.RowKit Go.Proofs.Fw

def oKeys : Orc := callS 115 fun s => if s = keyTxt then some keysAV else none
def base1 : Orc := orElse oKeys oIdx
theorem base1_sound : Sound Tryz.prog envT base1 := Sound.orElse (Sound.callS lowT fun s v h => by
  split at h
  · rename_i hs
    injection h with h
    subst hs; subst h
    exact (run_sound oIdx_sound methT mixed 100 6 _ _ _ _ _ fields_run).1
  · cases h) oIdx_sound

end Go.Proofs.YtpmonaempgjgbaaGreatDoor
