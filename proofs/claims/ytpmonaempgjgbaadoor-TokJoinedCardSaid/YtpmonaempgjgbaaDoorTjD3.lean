/- The law TokJoined's runs behind its two signs, a pair of signs each (the first ones 6, 7). -/
import Derived.Test.YtpmonaempgjgbaaDoorTjC
namespace Go.Proofs.YtpmonaempgjgbaaDoor
open Go.RowKit Go.Proofs.Fw

set_option maxRecDepth 100000
theorem t6_0 (a b : Int) : fin Tryd.prog Tryd.f5 (evCode oT Tryd.prog envT 100 k5 (S5 a b 6 0) []) = some (.bool true, []) := by kernel_rfl
theorem t6_1 (a b : Int) : fin Tryd.prog Tryd.f5 (evCode oT Tryd.prog envT 100 k5 (S5 a b 6 1) []) = some (.bool true, []) := by kernel_rfl
theorem t6_2 (a b : Int) : fin Tryd.prog Tryd.f5 (evCode oT Tryd.prog envT 100 k5 (S5 a b 6 2) []) = some (.bool true, []) := by kernel_rfl
theorem t6_3 (a b : Int) : fin Tryd.prog Tryd.f5 (evCode oT Tryd.prog envT 100 k5 (S5 a b 6 3) []) = some (.bool true, []) := by kernel_rfl
theorem t6_4 (a b : Int) : fin Tryd.prog Tryd.f5 (evCode oT Tryd.prog envT 100 k5 (S5 a b 6 4) []) = some (.bool true, []) := by kernel_rfl
theorem t6_5 (a b : Int) : fin Tryd.prog Tryd.f5 (evCode oT Tryd.prog envT 100 k5 (S5 a b 6 5) []) = some (.bool true, []) := by kernel_rfl
theorem t6_6 (a b : Int) : fin Tryd.prog Tryd.f5 (evCode oT Tryd.prog envT 100 k5 (S5 a b 6 6) []) = some (.bool true, []) := by kernel_rfl
theorem t6_7 (a b : Int) : fin Tryd.prog Tryd.f5 (evCode oT Tryd.prog envT 100 k5 (S5 a b 6 7) []) = some (.bool true, []) := by kernel_rfl
theorem t6_8 (a b : Int) : fin Tryd.prog Tryd.f5 (evCode oT Tryd.prog envT 100 k5 (S5 a b 6 8) []) = some (.bool true, []) := by kernel_rfl
theorem t6_9 (a b : Int) : fin Tryd.prog Tryd.f5 (evCode oT Tryd.prog envT 100 k5 (S5 a b 6 9) []) = some (.bool true, []) := by kernel_rfl
theorem t7_0 (a b : Int) : fin Tryd.prog Tryd.f5 (evCode oT Tryd.prog envT 100 k5 (S5 a b 7 0) []) = some (.bool true, []) := by kernel_rfl
theorem t7_1 (a b : Int) : fin Tryd.prog Tryd.f5 (evCode oT Tryd.prog envT 100 k5 (S5 a b 7 1) []) = some (.bool true, []) := by kernel_rfl
theorem t7_2 (a b : Int) : fin Tryd.prog Tryd.f5 (evCode oT Tryd.prog envT 100 k5 (S5 a b 7 2) []) = some (.bool true, []) := by kernel_rfl
theorem t7_3 (a b : Int) : fin Tryd.prog Tryd.f5 (evCode oT Tryd.prog envT 100 k5 (S5 a b 7 3) []) = some (.bool true, []) := by kernel_rfl
theorem t7_4 (a b : Int) : fin Tryd.prog Tryd.f5 (evCode oT Tryd.prog envT 100 k5 (S5 a b 7 4) []) = some (.bool true, []) := by kernel_rfl
theorem t7_5 (a b : Int) : fin Tryd.prog Tryd.f5 (evCode oT Tryd.prog envT 100 k5 (S5 a b 7 5) []) = some (.bool true, []) := by kernel_rfl
theorem t7_6 (a b : Int) : fin Tryd.prog Tryd.f5 (evCode oT Tryd.prog envT 100 k5 (S5 a b 7 6) []) = some (.bool true, []) := by kernel_rfl
theorem t7_7 (a b : Int) : fin Tryd.prog Tryd.f5 (evCode oT Tryd.prog envT 100 k5 (S5 a b 7 7) []) = some (.bool true, []) := by kernel_rfl
theorem t7_8 (a b : Int) : fin Tryd.prog Tryd.f5 (evCode oT Tryd.prog envT 100 k5 (S5 a b 7 8) []) = some (.bool true, []) := by kernel_rfl
theorem t7_9 (a b : Int) : fin Tryd.prog Tryd.f5 (evCode oT Tryd.prog envT 100 k5 (S5 a b 7 9) []) = some (.bool true, []) := by kernel_rfl
end Go.Proofs.YtpmonaempgjgbaaDoor
