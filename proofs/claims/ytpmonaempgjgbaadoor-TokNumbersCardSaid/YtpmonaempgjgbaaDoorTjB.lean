/- furrowlaw4.known returns true. -/
import Derived.Test.YtpmonaempgjgbaaDoorTjA
set_option linter.unusedSimpArgs false
set_option linter.unusedVariables false
namespace Go.Proofs.YtpmonaempgjgbaaDoor
open Go.RowKit Go.Proofs.Fw

def oKeys : Orc := callS 29 fun s => if s = keyTxt then some keysAV else none
def base1 : Orc := orElse oKeys oIdx
theorem base1_sound : Sound Tryd.prog envT base1 := Sound.orElse (Sound.callS lowT fun s v h => by
  split at h
  · rename_i hs
    injection h with h
    subst hs; subst h
    exact (run_sound oIdx_sound methT mixed 100 6 _ _ _ _ _ fields_run).1
  · cases h) oIdx_sound

set_option maxRecDepth 100000 in
theorem known_run : run fzT base1 Tryd.prog envT 100 10 7 [] [] = some (.bool true, []) := by kernel_rfl
end Go.Proofs.YtpmonaempgjgbaaDoor
