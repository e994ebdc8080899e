/- The environment of the laws on words; calls of the library that are told once: strings.Fields of the keys, internal/stringslite.IndexByte; furrowlaw4.known. furrowlaw4.known returns true. -/
import Derived.Test.YtejjlojfgcgopaaGreatDoorRows
import Derived.Test.YtejjlojfgcgopaaGreatDoorFwG2
import Derived.KernelRfl
import Derived.WalkKit
import Derived.Lib.Bytealg
import Derived.Lib.Strings
import Derived.Lib.Walk
set_option linter.unusedSimpArgs false
set_option linter.unusedVariables false
namespace Go.Proofs.YtejjlojfgcgopaaGreatDoor
open Go.RowKit Go.Proofs.Fw

theorem mixed : Tryz.prog.follows .mixedOrders = true := by kernel_rfl

def spaceCells : List AV := (List.range 256).map fun i => .int .u8 (if i = 32 ∨ (9 ≤ i ∧ i ≤ 13) then 1 else 0)
def rangeTxt : List UInt8 := [118, 97, 108, 117, 101, 32, 111, 117, 116, 32, 111, 102, 32, 114, 97, 110, 103, 101]
/-- strconv.ErrRange, as it is laid. -/
def rangeAV : AV := .vptr [.iface 357 (.vptr [.str rangeTxt] 0)] 0
def globT : List (Nat × AV) := [(3, .vptr spaceCells 0), (6, rangeAV)]
/-- Faults and NumErrors are never written. -/
def envT : Env := ⟨globOf globT, fun _ _ => none, fun t => t == 156 || t == 341⟩
theorem methT : MethOk Tryz.prog envT := fun _ _ _ h => by cases h

theorem lowT : ∀ i, low 0 (envT.glob i) = true := low_globOf (by
  intro x hx
  simp only [globT, List.mem_cons, List.not_mem_nil, or_false] at hx
  rcases hx with rfl | rfl
  · show lowL 0 spaceCells = true
    kernel_rfl
  · rfl)

set_option maxHeartbeats 1000000 in
set_option maxRecDepth 100000 in
theorem idxByte (s : ByteArray) (c : Int) (w : World) : Calls Tryz.prog 130 #[.string s, .int .u8 c] w fun e w' => e = .returned (.int .i64 (Lib.indexByte s.data.toList c.toNat.toUInt8)) ∧ w' = w := by
  go_enter Tryz.func130, Tryz.ntmps130
  go_wp2
  rw [run_callFunc_extern Tryz.func172 (by kernel_rfl) (by kernel_rfl) (by kernel_rfl) (e := Extern.BytealgIndexByte.indexByte) (by kernel_rfl), Lib.run_indexByteString]
  simp only [Result.andThen]
  rw [Oper.upon_value]
  go_wp2
  go_ret
  exact ⟨rfl, rfl⟩

def oIdx : Orc := fun f args H => if f = 130 then (match args with
  | [.str s, .int .u8 c] => some (.int .i64 (Lib.indexByte s c.toNat.toUInt8), H)
  | _ => none) else none

theorem oIdx_sound : Sound Tryz.prog envT oIdx := Sound.pure fun f args H v H' h => by
  unfold oIdx at h
  split at h
  · rename_i hf
    split at h
    · rename_i s c
      injection h with h
      simp only [Prod.mk.injEq] at h
      obtain ⟨rfl, rfl⟩ := h
      subst hf
      refine ⟨rfl, CS.of_calls fun g w cargs hA => ?_⟩
      simp only [RepL, RepV] at hA
      obtain ⟨_, _, rfl, rfl, _, _, rfl, rfl, rfl⟩ := hA
      refine (idxByte _ c w).mono fun e w' => ?_
      rintro ⟨rfl, rfl⟩
      exact ⟨_, rfl, fun g => by simp only [RepV], rfl⟩
    · cases h
  · cases h

def keyTxt : List UInt8 := [105,110,116,101,103,101,114,32,100,111,32,101,110,100,32,105,102,32,116,104,101,110,32,101,108,115,101,32,114,101,97,100,32,112,114,105,110,116]
def keysL : List (List UInt8) := [[105,110,116,101,103,101,114],[100,111],[101,110,100],[105,102],[116,104,101,110],[101,108,115,101],[114,101,97,100],[112,114,105,110,116]]
def keysAV : AV := .slice .unk 1 8 (keysL.map .str)
def fzT : FuncId → Nat := fun f => if f = 174 then 3 else 0

set_option maxRecDepth 100000 in
theorem fields_run : run fzT oIdx Tryz.prog envT 100 6 174 [.str keyTxt] [] = some (keysAV, []) := by kernel_rfl
end Go.Proofs.YtejjlojfgcgopaaGreatDoor

namespace Go.Proofs.YtejjlojfgcgopaaGreatDoor
open Go.RowKit Go.Proofs.Fw

def oKeys : Orc := callS 174 fun s => if s = keyTxt then some keysAV else none
def base1 : Orc := orElse oKeys oIdx
theorem base1_sound : Sound Tryz.prog envT base1 := Sound.orElse (Sound.callS lowT fun s v h => by
  split at h
  · rename_i hs
    injection h with h
    subst hs; subst h
    exact (run_sound oIdx_sound methT mixed 100 6 _ _ _ _ _ fields_run).1
  · cases h) oIdx_sound

end Go.Proofs.YtejjlojfgcgopaaGreatDoor
