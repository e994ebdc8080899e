/- The law TokJoined's runs behind its two signs, a pair of signs each (the first ones 8, 9). -/
import Derived.Test.YtpmonaempgjgbaaDoorTjC
namespace Go.Proofs.YtpmonaempgjgbaaDoor
open Go.RowKit Go.Proofs.Fw

set_option maxRecDepth 100000
theorem t8_0 (a b : Int) : fin Tryd.prog Tryd.f5 (evCode oT Tryd.prog envT 100 k5 (S5 a b 8 0) []) = some (.bool true, []) := by kernel_rfl
theorem t8_1 (a b : Int) : fin Tryd.prog Tryd.f5 (evCode oT Tryd.prog envT 100 k5 (S5 a b 8 1) []) = some (.bool true, []) := by kernel_rfl
theorem t8_2 (a b : Int) : fin Tryd.prog Tryd.f5 (evCode oT Tryd.prog envT 100 k5 (S5 a b 8 2) []) = some (.bool true, []) := by kernel_rfl
theorem t8_3 (a b : Int) : fin Tryd.prog Tryd.f5 (evCode oT Tryd.prog envT 100 k5 (S5 a b 8 3) []) = some (.bool true, []) := by kernel_rfl
theorem t8_4 (a b : Int) : fin Tryd.prog Tryd.f5 (evCode oT Tryd.prog envT 100 k5 (S5 a b 8 4) []) = some (.bool true, []) := by kernel_rfl
theorem t8_5 (a b : Int) : fin Tryd.prog Tryd.f5 (evCode oT Tryd.prog envT 100 k5 (S5 a b 8 5) []) = some (.bool true, []) := by kernel_rfl
theorem t8_6 (a b : Int) : fin Tryd.prog Tryd.f5 (evCode oT Tryd.prog envT 100 k5 (S5 a b 8 6) []) = some (.bool true, []) := by kernel_rfl
theorem t8_7 (a b : Int) : fin Tryd.prog Tryd.f5 (evCode oT Tryd.prog envT 100 k5 (S5 a b 8 7) []) = some (.bool true, []) := by kernel_rfl
theorem t8_8 (a b : Int) : fin Tryd.prog Tryd.f5 (evCode oT Tryd.prog envT 100 k5 (S5 a b 8 8) []) = some (.bool true, []) := by kernel_rfl
theorem t8_9 (a b : Int) : fin Tryd.prog Tryd.f5 (evCode oT Tryd.prog envT 100 k5 (S5 a b 8 9) []) = some (.bool true, []) := by kernel_rfl
theorem t9_0 (a b : Int) : fin Tryd.prog Tryd.f5 (evCode oT Tryd.prog envT 100 k5 (S5 a b 9 0) []) = some (.bool true, []) := by kernel_rfl
theorem t9_1 (a b : Int) : fin Tryd.prog Tryd.f5 (evCode oT Tryd.prog envT 100 k5 (S5 a b 9 1) []) = some (.bool true, []) := by kernel_rfl
theorem t9_2 (a b : Int) : fin Tryd.prog Tryd.f5 (evCode oT Tryd.prog envT 100 k5 (S5 a b 9 2) []) = some (.bool true, []) := by kernel_rfl
theorem t9_3 (a b : Int) : fin Tryd.prog Tryd.f5 (evCode oT Tryd.prog envT 100 k5 (S5 a b 9 3) []) = some (.bool true, []) := by kernel_rfl
theorem t9_4 (a b : Int) : fin Tryd.prog Tryd.f5 (evCode oT Tryd.prog envT 100 k5 (S5 a b 9 4) []) = some (.bool true, []) := by kernel_rfl
theorem t9_5 (a b : Int) : fin Tryd.prog Tryd.f5 (evCode oT Tryd.prog envT 100 k5 (S5 a b 9 5) []) = some (.bool true, []) := by kernel_rfl
theorem t9_6 (a b : Int) : fin Tryd.prog Tryd.f5 (evCode oT Tryd.prog envT 100 k5 (S5 a b 9 6) []) = some (.bool true, []) := by kernel_rfl
theorem t9_7 (a b : Int) : fin Tryd.prog Tryd.f5 (evCode oT Tryd.prog envT 100 k5 (S5 a b 9 7) []) = some (.bool true, []) := by kernel_rfl
theorem t9_8 (a b : Int) : fin Tryd.prog Tryd.f5 (evCode oT Tryd.prog envT 100 k5 (S5 a b 9 8) []) = some (.bool true, []) := by kernel_rfl
theorem t9_9 (a b : Int) : fin Tryd.prog Tryd.f5 (evCode oT Tryd.prog envT 100 k5 (S5 a b 9 9) []) = some (.bool true, []) := by kernel_rfl
end Go.Proofs.YtpmonaempgjgbaaDoor
