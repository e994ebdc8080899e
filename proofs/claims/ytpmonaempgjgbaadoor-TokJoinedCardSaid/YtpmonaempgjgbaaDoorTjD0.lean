/- The law TokJoined's runs behind its two signs, a pair of signs each (the first ones 0, 1). -/
import Derived.Test.YtpmonaempgjgbaaDoorTjC
namespace Go.Proofs.YtpmonaempgjgbaaDoor
open Go.RowKit Go.Proofs.Fw

set_option maxRecDepth 100000
theorem t0_0 (a b : Int) : fin Tryd.prog Tryd.f5 (evCode oT Tryd.prog envT 100 k5 (S5 a b 0 0) []) = some (.bool true, []) := by kernel_rfl
theorem t0_1 (a b : Int) : fin Tryd.prog Tryd.f5 (evCode oT Tryd.prog envT 100 k5 (S5 a b 0 1) []) = some (.bool true, []) := by kernel_rfl
theorem t0_2 (a b : Int) : fin Tryd.prog Tryd.f5 (evCode oT Tryd.prog envT 100 k5 (S5 a b 0 2) []) = some (.bool true, []) := by kernel_rfl
theorem t0_3 (a b : Int) : fin Tryd.prog Tryd.f5 (evCode oT Tryd.prog envT 100 k5 (S5 a b 0 3) []) = some (.bool true, []) := by kernel_rfl
theorem t0_4 (a b : Int) : fin Tryd.prog Tryd.f5 (evCode oT Tryd.prog envT 100 k5 (S5 a b 0 4) []) = some (.bool true, []) := by kernel_rfl
theorem t0_5 (a b : Int) : fin Tryd.prog Tryd.f5 (evCode oT Tryd.prog envT 100 k5 (S5 a b 0 5) []) = some (.bool true, []) := by kernel_rfl
theorem t0_6 (a b : Int) : fin Tryd.prog Tryd.f5 (evCode oT Tryd.prog envT 100 k5 (S5 a b 0 6) []) = some (.bool true, []) := by kernel_rfl
theorem t0_7 (a b : Int) : fin Tryd.prog Tryd.f5 (evCode oT Tryd.prog envT 100 k5 (S5 a b 0 7) []) = some (.bool true, []) := by kernel_rfl
theorem t0_8 (a b : Int) : fin Tryd.prog Tryd.f5 (evCode oT Tryd.prog envT 100 k5 (S5 a b 0 8) []) = some (.bool true, []) := by kernel_rfl
theorem t0_9 (a b : Int) : fin Tryd.prog Tryd.f5 (evCode oT Tryd.prog envT 100 k5 (S5 a b 0 9) []) = some (.bool true, []) := by kernel_rfl
theorem t1_0 (a b : Int) : fin Tryd.prog Tryd.f5 (evCode oT Tryd.prog envT 100 k5 (S5 a b 1 0) []) = some (.bool true, []) := by kernel_rfl
theorem t1_1 (a b : Int) : fin Tryd.prog Tryd.f5 (evCode oT Tryd.prog envT 100 k5 (S5 a b 1 1) []) = some (.bool true, []) := by kernel_rfl
theorem t1_2 (a b : Int) : fin Tryd.prog Tryd.f5 (evCode oT Tryd.prog envT 100 k5 (S5 a b 1 2) []) = some (.bool true, []) := by kernel_rfl
theorem t1_3 (a b : Int) : fin Tryd.prog Tryd.f5 (evCode oT Tryd.prog envT 100 k5 (S5 a b 1 3) []) = some (.bool true, []) := by kernel_rfl
theorem t1_4 (a b : Int) : fin Tryd.prog Tryd.f5 (evCode oT Tryd.prog envT 100 k5 (S5 a b 1 4) []) = some (.bool true, []) := by kernel_rfl
theorem t1_5 (a b : Int) : fin Tryd.prog Tryd.f5 (evCode oT Tryd.prog envT 100 k5 (S5 a b 1 5) []) = some (.bool true, []) := by kernel_rfl
theorem t1_6 (a b : Int) : fin Tryd.prog Tryd.f5 (evCode oT Tryd.prog envT 100 k5 (S5 a b 1 6) []) = some (.bool true, []) := by kernel_rfl
theorem t1_7 (a b : Int) : fin Tryd.prog Tryd.f5 (evCode oT Tryd.prog envT 100 k5 (S5 a b 1 7) []) = some (.bool true, []) := by kernel_rfl
theorem t1_8 (a b : Int) : fin Tryd.prog Tryd.f5 (evCode oT Tryd.prog envT 100 k5 (S5 a b 1 8) []) = some (.bool true, []) := by kernel_rfl
theorem t1_9 (a b : Int) : fin Tryd.prog Tryd.f5 (evCode oT Tryd.prog envT 100 k5 (S5 a b 1 9) []) = some (.bool true, []) := by kernel_rfl
end Go.Proofs.YtpmonaempgjgbaaDoor
