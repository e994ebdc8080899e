/- The law TokJoined's runs behind its two signs, a pair of signs each (the first ones 4, 5). -/
import Derived.Test.YtpmonaempgjgbaaDoorTjC
namespace Go.Proofs.YtpmonaempgjgbaaDoor
open Go.RowKit Go.Proofs.Fw

set_option maxRecDepth 100000
theorem t4_0 (a b : Int) : fin Tryd.prog Tryd.f5 (evCode oT Tryd.prog envT 100 k5 (S5 a b 4 0) []) = some (.bool true, []) := by kernel_rfl
theorem t4_1 (a b : Int) : fin Tryd.prog Tryd.f5 (evCode oT Tryd.prog envT 100 k5 (S5 a b 4 1) []) = some (.bool true, []) := by kernel_rfl
theorem t4_2 (a b : Int) : fin Tryd.prog Tryd.f5 (evCode oT Tryd.prog envT 100 k5 (S5 a b 4 2) []) = some (.bool true, []) := by kernel_rfl
theorem t4_3 (a b : Int) : fin Tryd.prog Tryd.f5 (evCode oT Tryd.prog envT 100 k5 (S5 a b 4 3) []) = some (.bool true, []) := by kernel_rfl
theorem t4_4 (a b : Int) : fin Tryd.prog Tryd.f5 (evCode oT Tryd.prog envT 100 k5 (S5 a b 4 4) []) = some (.bool true, []) := by kernel_rfl
theorem t4_5 (a b : Int) : fin Tryd.prog Tryd.f5 (evCode oT Tryd.prog envT 100 k5 (S5 a b 4 5) []) = some (.bool true, []) := by kernel_rfl
theorem t4_6 (a b : Int) : fin Tryd.prog Tryd.f5 (evCode oT Tryd.prog envT 100 k5 (S5 a b 4 6) []) = some (.bool true, []) := by kernel_rfl
theorem t4_7 (a b : Int) : fin Tryd.prog Tryd.f5 (evCode oT Tryd.prog envT 100 k5 (S5 a b 4 7) []) = some (.bool true, []) := by kernel_rfl
theorem t4_8 (a b : Int) : fin Tryd.prog Tryd.f5 (evCode oT Tryd.prog envT 100 k5 (S5 a b 4 8) []) = some (.bool true, []) := by kernel_rfl
theorem t4_9 (a b : Int) : fin Tryd.prog Tryd.f5 (evCode oT Tryd.prog envT 100 k5 (S5 a b 4 9) []) = some (.bool true, []) := by kernel_rfl
theorem t5_0 (a b : Int) : fin Tryd.prog Tryd.f5 (evCode oT Tryd.prog envT 100 k5 (S5 a b 5 0) []) = some (.bool true, []) := by kernel_rfl
theorem t5_1 (a b : Int) : fin Tryd.prog Tryd.f5 (evCode oT Tryd.prog envT 100 k5 (S5 a b 5 1) []) = some (.bool true, []) := by kernel_rfl
theorem t5_2 (a b : Int) : fin Tryd.prog Tryd.f5 (evCode oT Tryd.prog envT 100 k5 (S5 a b 5 2) []) = some (.bool true, []) := by kernel_rfl
theorem t5_3 (a b : Int) : fin Tryd.prog Tryd.f5 (evCode oT Tryd.prog envT 100 k5 (S5 a b 5 3) []) = some (.bool true, []) := by kernel_rfl
theorem t5_4 (a b : Int) : fin Tryd.prog Tryd.f5 (evCode oT Tryd.prog envT 100 k5 (S5 a b 5 4) []) = some (.bool true, []) := by kernel_rfl
theorem t5_5 (a b : Int) : fin Tryd.prog Tryd.f5 (evCode oT Tryd.prog envT 100 k5 (S5 a b 5 5) []) = some (.bool true, []) := by kernel_rfl
theorem t5_6 (a b : Int) : fin Tryd.prog Tryd.f5 (evCode oT Tryd.prog envT 100 k5 (S5 a b 5 6) []) = some (.bool true, []) := by kernel_rfl
theorem t5_7 (a b : Int) : fin Tryd.prog Tryd.f5 (evCode oT Tryd.prog envT 100 k5 (S5 a b 5 7) []) = some (.bool true, []) := by kernel_rfl
theorem t5_8 (a b : Int) : fin Tryd.prog Tryd.f5 (evCode oT Tryd.prog envT 100 k5 (S5 a b 5 8) []) = some (.bool true, []) := by kernel_rfl
theorem t5_9 (a b : Int) : fin Tryd.prog Tryd.f5 (evCode oT Tryd.prog envT 100 k5 (S5 a b 5 9) []) = some (.bool true, []) := by kernel_rfl
end Go.Proofs.YtpmonaempgjgbaaDoor
