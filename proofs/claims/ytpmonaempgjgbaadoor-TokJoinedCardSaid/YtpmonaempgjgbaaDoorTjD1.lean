/- The law TokJoined's runs behind its two signs, a pair of signs each (the first ones 2, 3). -/
import Derived.Test.YtpmonaempgjgbaaDoorTjC
namespace Go.Proofs.YtpmonaempgjgbaaDoor
open Go.RowKit Go.Proofs.Fw

set_option maxRecDepth 100000
theorem t2_0 (a b : Int) : fin Tryd.prog Tryd.f5 (evCode oT Tryd.prog envT 100 k5 (S5 a b 2 0) []) = some (.bool true, []) := by kernel_rfl
theorem t2_1 (a b : Int) : fin Tryd.prog Tryd.f5 (evCode oT Tryd.prog envT 100 k5 (S5 a b 2 1) []) = some (.bool true, []) := by kernel_rfl
theorem t2_2 (a b : Int) : fin Tryd.prog Tryd.f5 (evCode oT Tryd.prog envT 100 k5 (S5 a b 2 2) []) = some (.bool true, []) := by kernel_rfl
theorem t2_3 (a b : Int) : fin Tryd.prog Tryd.f5 (evCode oT Tryd.prog envT 100 k5 (S5 a b 2 3) []) = some (.bool true, []) := by kernel_rfl
theorem t2_4 (a b : Int) : fin Tryd.prog Tryd.f5 (evCode oT Tryd.prog envT 100 k5 (S5 a b 2 4) []) = some (.bool true, []) := by kernel_rfl
theorem t2_5 (a b : Int) : fin Tryd.prog Tryd.f5 (evCode oT Tryd.prog envT 100 k5 (S5 a b 2 5) []) = some (.bool true, []) := by kernel_rfl
theorem t2_6 (a b : Int) : fin Tryd.prog Tryd.f5 (evCode oT Tryd.prog envT 100 k5 (S5 a b 2 6) []) = some (.bool true, []) := by kernel_rfl
theorem t2_7 (a b : Int) : fin Tryd.prog Tryd.f5 (evCode oT Tryd.prog envT 100 k5 (S5 a b 2 7) []) = some (.bool true, []) := by kernel_rfl
theorem t2_8 (a b : Int) : fin Tryd.prog Tryd.f5 (evCode oT Tryd.prog envT 100 k5 (S5 a b 2 8) []) = some (.bool true, []) := by kernel_rfl
theorem t2_9 (a b : Int) : fin Tryd.prog Tryd.f5 (evCode oT Tryd.prog envT 100 k5 (S5 a b 2 9) []) = some (.bool true, []) := by kernel_rfl
theorem t3_0 (a b : Int) : fin Tryd.prog Tryd.f5 (evCode oT Tryd.prog envT 100 k5 (S5 a b 3 0) []) = some (.bool true, []) := by kernel_rfl
theorem t3_1 (a b : Int) : fin Tryd.prog Tryd.f5 (evCode oT Tryd.prog envT 100 k5 (S5 a b 3 1) []) = some (.bool true, []) := by kernel_rfl
theorem t3_2 (a b : Int) : fin Tryd.prog Tryd.f5 (evCode oT Tryd.prog envT 100 k5 (S5 a b 3 2) []) = some (.bool true, []) := by kernel_rfl
theorem t3_3 (a b : Int) : fin Tryd.prog Tryd.f5 (evCode oT Tryd.prog envT 100 k5 (S5 a b 3 3) []) = some (.bool true, []) := by kernel_rfl
theorem t3_4 (a b : Int) : fin Tryd.prog Tryd.f5 (evCode oT Tryd.prog envT 100 k5 (S5 a b 3 4) []) = some (.bool true, []) := by kernel_rfl
theorem t3_5 (a b : Int) : fin Tryd.prog Tryd.f5 (evCode oT Tryd.prog envT 100 k5 (S5 a b 3 5) []) = some (.bool true, []) := by kernel_rfl
theorem t3_6 (a b : Int) : fin Tryd.prog Tryd.f5 (evCode oT Tryd.prog envT 100 k5 (S5 a b 3 6) []) = some (.bool true, []) := by kernel_rfl
theorem t3_7 (a b : Int) : fin Tryd.prog Tryd.f5 (evCode oT Tryd.prog envT 100 k5 (S5 a b 3 7) []) = some (.bool true, []) := by kernel_rfl
theorem t3_8 (a b : Int) : fin Tryd.prog Tryd.f5 (evCode oT Tryd.prog envT 100 k5 (S5 a b 3 8) []) = some (.bool true, []) := by kernel_rfl
theorem t3_9 (a b : Int) : fin Tryd.prog Tryd.f5 (evCode oT Tryd.prog envT 100 k5 (S5 a b 3 9) []) = some (.bool true, []) := by kernel_rfl
end Go.Proofs.YtpmonaempgjgbaaDoor
