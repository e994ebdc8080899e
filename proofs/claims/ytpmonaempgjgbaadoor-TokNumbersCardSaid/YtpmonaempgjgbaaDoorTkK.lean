/- strconv.ParseInt at digits, whatever the number; tok.word at every text. -/
import Derived.Test.YtpmonaempgjgbaaDoorTkK0
import Derived.Test.YtpmonaempgjgbaaDoorTkJ
set_option linter.unusedSimpArgs false
set_option linter.unusedVariables false
namespace Go.Proofs.YtpmonaempgjgbaaDoor
open Go.RowKit Go.Proofs.Fw
set_option maxRecDepth 100000
set_option maxHeartbeats 4000000
-- 

theorem eqErr (a b : Int) : aeq Tryd.prog 37 (.iface 117 (.int .i64 a)) (.iface 117 (.int .i64 b)) = some (a == b) := by kernel_rfl
theorem globRange : envT.glob 5 = rangeAV := rfl
theorem imm_T2 : envT.imm 138 = true := rfl
theorem buNum (a b : List UInt8) (t : TypeId) (v : AV) : abuild Tryd.prog 138 [(0, .str a), (1, .str b), (2, .iface t v)] = some (.agg [.str a, .str b, .iface t v]) := by kernel_rfl
def numErrAV (f s : List UInt8) : AV := .vptr [.str f, .str s, .iface 144 (.vptr [.str rangeTxt] 0)] 0

theorem range_cs (O : Orc) (X : Cx O Tryd.prog envT) (f s : List UInt8) (h64 : ∀ H, O 64 [.str s] H = some (.str s, H)) (H : AH) : CS Tryd.prog envT 57 [.str f, .str s] H (numErrAV f s) H :=
  (CS.of_Tr (H0 := []) (H1 := []) (c := bodyOf Tryd.f57) Tryd.func57 (by kernel_rfl) 0 (by simp [Tryd.f57]) (fun B hB hG => by
    refine Tr.run X hG (by kernel_rfl) ?_
    rw [Go_of]
    simp [Tryd.f57, h64, globRange, rangeAV, buNum, imm_T2, numErrAV]) rfl rfl).frame lowT rfl H

theorem toErr_cs (O : Orc) (X : Cx O Tryd.prog envT) (f s : List UInt8) (h57 : ∀ H, O 57 [.str f, .str s] H = some (numErrAV f s, H)) (H : AH) :
    CS Tryd.prog envT 49 [.str f, .str s, .int .i64 10, .int .i64 64, .iface 117 (.int .i64 1)] H (.iface 121 (numErrAV f s)) H :=
  (CS.of_Tr (H0 := []) (H1 := []) (c := bodyOf Tryd.f49) Tryd.func49 (by kernel_rfl) 0 (by simp [Tryd.f49]) (fun B hB hG => by
    refine Tr.run X hG (by kernel_rfl) ?_
    rw [Go_of]
    simp [Tryd.f49, h57, ↓eqErr, numErrAV]) rfl rfl).frame lowT rfl H

def parTxt : List UInt8 := [80, 97, 114, 115, 101, 73, 110, 116]
/-- What strconv.ParseInt tells of digits. -/
def parRes (s : List UInt8) : AV := if numOf s < 9223372036854775808 then .tup [.int .i64 (numOf s), .nilIface] else .tup [.int .i64 9223372036854775807, .iface 121 (numErrAV parTxt s)]

theorem par_cs (O : Orc) (X : Cx O Tryd.prog envT) (s : List UInt8) (h48 : ∀ H, O 48 [.str s, .int .i64 10, .int .i64 64] H = some (piRes s, H))
    (h49 : ∀ H, O 49 [.str parTxt, .str s, .int .i64 10, .int .i64 64, .iface 117 (.int .i64 1)] H = some (.iface 121 (numErrAV parTxt s), H)) (H : AH) :
    CS Tryd.prog envT 35 [.str s, .int .i64 10, .int .i64 64] H (parRes s) H := by
  refine CS.frame (CS.of_Tr (H0 := []) (H1 := []) (c := bodyOf Tryd.f35) Tryd.func35 (by kernel_rfl) 0 (by simp [Tryd.f35]) (fun B hB hG => ?_) ?_ rfl) lowT rfl H
  · refine Tr.run X hG (by kernel_rfl) ?_
    rw [Go_of]
    unfold piRes at h48
    unfold parRes
    unfold parTxt at h49 ⊢
    by_cases h : numOf s < 9223372036854775808
    · rw [if_pos h] at h48 ⊢
      simp [Tryd.f35, h48]
    · rw [if_neg h] at h48 ⊢
      simp [Tryd.f35, h48, h49, numErrAV]
  · unfold parRes
    split <;> rfl
end Go.Proofs.YtpmonaempgjgbaaDoor
