/- strconv.ParseInt at digits, whatever the number; tok.word at every text. -/
import Derived.Test.YtpmonaempgjgbaaGreatDoorTkK0
import Derived.Test.YtpmonaempgjgbaaGreatDoorTkJ
set_option linter.unusedSimpArgs false
set_option linter.unusedVariables false
namespace Go.Proofs.YtpmonaempgjgbaaGreatDoor
open Go.RowKit Go.Proofs.Fw
set_option maxRecDepth 100000
set_option maxHeartbeats 4000000
-- 

theorem eqErr (a b : Int) : aeq Tryz.prog 50 (.iface 273 (.int .i64 a)) (.iface 273 (.int .i64 b)) = some (a == b) := by kernel_rfl
theorem globRange : envT.glob 6 = rangeAV := rfl
theorem imm_T2 : envT.imm 296 = true := rfl
theorem buNum (a b : List UInt8) (t : TypeId) (v : AV) : abuild Tryz.prog 296 [(0, .str a), (1, .str b), (2, .iface t v)] = some (.agg [.str a, .str b, .iface t v]) := by kernel_rfl
def numErrAV (f s : List UInt8) : AV := .vptr [.str f, .str s, .iface 302 (.vptr [.str rangeTxt] 0)] 0

theorem range_cs (O : Orc) (X : Cx O Tryz.prog envT) (f s : List UInt8) (h64 : ∀ H, O 183 [.str s] H = some (.str s, H)) (H : AH) : CS Tryz.prog envT 169 [.str f, .str s] H (numErrAV f s) H :=
  (CS.of_Tr (H0 := []) (H1 := []) (c := bodyOf Tryz.f169) Tryz.func169 (by kernel_rfl) 0 (by simp [Tryz.f169]) (fun B hB hG => by
    refine Tr.run X hG (by kernel_rfl) ?_
    rw [Go_of]
    simp [Tryz.f169, h64, globRange, rangeAV, buNum, imm_T2, numErrAV]) rfl rfl).frame lowT rfl H

theorem toErr_cs (O : Orc) (X : Cx O Tryz.prog envT) (f s : List UInt8) (h57 : ∀ H, O 169 [.str f, .str s] H = some (numErrAV f s, H)) (H : AH) :
    CS Tryz.prog envT 146 [.str f, .str s, .int .i64 10, .int .i64 64, .iface 273 (.int .i64 1)] H (.iface 276 (numErrAV f s)) H :=
  (CS.of_Tr (H0 := []) (H1 := []) (c := bodyOf Tryz.f146) Tryz.func146 (by kernel_rfl) 0 (by simp [Tryz.f146]) (fun B hB hG => by
    refine Tr.run X hG (by kernel_rfl) ?_
    rw [Go_of]
    simp [Tryz.f146, h57, ↓eqErr, numErrAV]) rfl rfl).frame lowT rfl H

def parTxt : List UInt8 := [80, 97, 114, 115, 101, 73, 110, 116]
/-- What strconv.ParseInt tells of digits. -/
def parRes (s : List UInt8) : AV := if numOf s < 9223372036854775808 then .tup [.int .i64 (numOf s), .nilIface] else .tup [.int .i64 9223372036854775807, .iface 276 (numErrAV parTxt s)]

theorem par_cs (O : Orc) (X : Cx O Tryz.prog envT) (s : List UInt8) (h48 : ∀ H, O 145 [.str s, .int .i64 10, .int .i64 64] H = some (piRes s, H))
    (h49 : ∀ H, O 146 [.str parTxt, .str s, .int .i64 10, .int .i64 64, .iface 273 (.int .i64 1)] H = some (.iface 276 (numErrAV parTxt s), H)) (H : AH) :
    CS Tryz.prog envT 117 [.str s, .int .i64 10, .int .i64 64] H (parRes s) H := by
  refine CS.frame (CS.of_Tr (H0 := []) (H1 := []) (c := bodyOf Tryz.f117) Tryz.func117 (by kernel_rfl) 0 (by simp [Tryz.f117]) (fun B hB hG => ?_) ?_ rfl) lowT rfl H
  · refine Tr.run X hG (by kernel_rfl) ?_
    rw [Go_of]
    unfold piRes at h48
    unfold parRes
    unfold parTxt at h49 ⊢
    by_cases h : numOf s < 9223372036854775808
    · rw [if_pos h] at h48 ⊢
      simp [Tryz.f117, h48]
    · rw [if_neg h] at h48 ⊢
      simp [Tryz.f117, h48, h49, numErrAV]
  · unfold parRes
    split <;> rfl
end Go.Proofs.YtpmonaempgjgbaaGreatDoor
