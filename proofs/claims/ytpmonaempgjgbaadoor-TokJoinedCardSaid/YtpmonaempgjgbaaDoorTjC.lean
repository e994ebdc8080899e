/- The pieces of furrowlaw4.TokJoined's text, up to where its two signs are known. -/
import Derived.Test.YtpmonaempgjgbaaDoorTjB
namespace Go.Proofs.YtpmonaempgjgbaaDoor
open Go.RowKit Go.Proofs.Fw


noncomputable def fstC : Code → Code
  | .seq a _ => a
  | c => c
noncomputable def sndC : Code → Code
  | .seq _ b => b
  | c => c

section
variable {O : Orc} {P : Program} {E : Env} {n : Nat}
theorem evCode_seq {c A B : Code} {t t1 : List AV} {H H1 : AH} (hc : c = .seq A B) (h1 : evCode O P E n A t H = some (.normal, t1, H1)) : evCode O P E n c t H = evCode O P E n B t1 H1 := by
  subst hc
  simp only [evCode, h1]

theorem evOps_append (ops : Array Oper) : ∀ (l1 l2 : List (Oper × Nat)) (t : List AV) (H : AH) {t1 : List AV} {H1 : AH}, evOps O P E ops l1 t H = some (t1, H1) → evOps O P E ops (l1 ++ l2) t H = evOps O P E ops l2 t1 H1
  | [], l2, t, H, t1, H1, h => by simp only [evOps] at h; injection h with h; simp only [Prod.mk.injEq] at h; obtain ⟨rfl, rfl⟩ := h; rfl
  | (o, fid) :: l1, l2, t, H, t1, H1, h => by
    simp only [List.cons_append, evOps] at h ⊢
    split at h
    · cases h
    · exact evOps_append ops l1 l2 _ _ h
    · split at h
      · exact evOps_append ops l1 l2 _ _ h
      · cases h

theorem evCode_cut {c : Code} {id : Nat} {ops : Array Oper} {t t1 t2 : List AV} {H H1 H2 : AH} (k : Nat) (hc : c = .region id ops false) {l : List (Oper × Nat)} (hl : withIds E ops.toList H.length = l)
    (h1 : evOps O P E ops (l.take k) t (grow H (idCount E ops.toList)) = some (t1, H1)) (h2 : evOps O P E ops (l.drop k) t1 H1 = some (t2, H2)) : evCode O P E n c t H = some (.normal, t2, H2) := by
  subst hc
  subst hl
  have h3 := evOps_append ops _ ((withIds E ops.toList H.length).drop k) _ _ h1
  rw [List.take_append_drop] at h3
  have h4 : evRegion O P E ops t H = some (t2, H2) := by
    unfold evRegion
    rw [h3, h2]
  simp only [evCode, h4, Bool.false_eq_true, if_false]

/-- What a function hands back. -/
noncomputable def fin (P : Program) (fn : Func) : Option (AEx × List AV × AH) → Option (AV × AH)
  | some (.exit _, _, _) => none
  | some (_, t, H') => (match evResults P H' t fn.results.toList with
    | some vs => some (oneOrTup vs, H')
    | none => none)
  | none => none

theorem evFunc_fin {f : FuncId} {fn : Func} {c : Code} (hf : P.funcs[f]? = some fn) (hb : fn.body = some c) (args : List AV) (H : AH) :
    evFunc O P E n f args H = fin P fn (evCode O P E n c (args ++ List.replicate (fn.ntmps - args.length) .nothing) H) := by
  unfold evFunc
  rw [hf]
  simp only [hb]
  cases evCode O P E n c (args ++ List.replicate (fn.ntmps - args.length) .nothing) H with
  | none => rfl
  | some r =>
    obtain ⟨ex, t, H'⟩ := r
    cases ex <;> rfl
end

noncomputable def baseK : Orc := orElse (call0 7 (.bool true)) base1
theorem baseK_sound : Sound Tryd.prog envT baseK := Sound.orElse (Sound.call0 lowT (run_sound base1_sound methT mixed 100 10 _ _ _ _ _ known_run).1) base1_sound

set_option maxRecDepth 100000
theorem key_run : run fzT baseK Tryd.prog envT 100 10 14 [.str [105]] [] = some (.bool false, []) := by kernel_rfl
theorem parse_run : run fzT baseK Tryd.prog envT 100 10 35 [.str [55], .int .i64 10, .int .i64 64] [] = some (.tup [.int .i64 7, .nilIface], []) := by kernel_rfl

/-- Two calls that every run makes, told once: whether a name of one letter is a key, and the number 7. -/
noncomputable def oKey : Orc := callS 14 fun s => if s = [105] then some (.bool false) else none
noncomputable def oPar : Orc := fun f args H => if f = 35 then (match args with
  | [.str s, .int .i64 10, .int .i64 64] => if s = [55] then some (.tup [.int .i64 7, .nilIface], H) else none
  | _ => none) else none
theorem oKey_sound : Sound Tryd.prog envT oKey := Sound.callS lowT fun s v h => by
  split at h
  · rename_i hs
    injection h with h
    subst hs; subst h
    exact (run_sound baseK_sound methT mixed 100 10 _ _ _ _ _ key_run).1
  · cases h
theorem oPar_sound : Sound Tryd.prog envT oPar := Sound.pure fun f args H v H' h => by
  unfold oPar at h
  split at h
  · rename_i hf
    split at h
    · split at h
      · rename_i hs
        injection h with h
        simp only [Prod.mk.injEq] at h
        obtain ⟨rfl, rfl⟩ := h
        subst hf; subst hs
        exact ⟨rfl, ((run_sound baseK_sound methT mixed 100 10 _ _ _ _ _ parse_run).1).frame lowT rfl H⟩
      · cases h
    · cases h
  · cases h
noncomputable def base2 : Orc := orElse oKey (orElse oPar baseK)
theorem base2_sound : Sound Tryd.prog envT base2 := Sound.orElse oKey_sound (Sound.orElse oPar_sound baseK_sound)
noncomputable def oT : Orc := run fzT base2 Tryd.prog envT 100 10
theorem oT_sound : Sound Tryd.prog envT oT := run_sound base2_sound methT mixed 100 10

noncomputable def c5 : Code := (Tryd.f5.body).getD .skip
noncomputable def signsAV : List AV := [.str [60], .str [62], .str [61], .str [47], .str [43], .str [45], .str [42], .str [40], .str [41], .str [44]]
noncomputable def SL : AV := .slice .full 1 10 signsAV
noncomputable def sgn (i : Nat) : AV := signsAV.getD i .undef

noncomputable def S (l : List (Nat × AV)) : List AV := (List.range 119).map fun i => (match l.find? (fun x => x.1 == i) with | some x => x.2 | none => .nothing)
noncomputable def l3 (a b : Int) : List (Nat × AV) := [(0, .int .u8 a), (1, .int .u8 b), (4, .bool false), (10, .bool true), (11, .bool false), (12, SL), (5, SL)]
noncomputable def S3 (a b : Int) : List AV := S (l3 a b)
noncomputable def S3' (a b r : Int) : List AV := S (l3 a b ++ [(13, SL), (14, .int .u8 a), (15, .int .u8 r)])
noncomputable def l4 (a b : Int) (x : Nat) : List (Nat × AV) := l3 a b ++ [(13, SL), (14, .int .u8 a), (15, .int .u8 x), (16, .vptr signsAV (x * 1)), (17, sgn x), (6, sgn x)]
noncomputable def S4 (a b : Int) (x : Nat) : List AV := S (l4 a b x)
noncomputable def S4' (a b : Int) (x : Nat) (r : Int) : List AV := S (l4 a b x ++ [(18, SL), (19, .int .u8 b), (20, .int .u8 r)])
noncomputable def S5 (a b : Int) (x y : Nat) : List AV := S (l4 a b x ++ [(18, SL), (19, .int .u8 b), (20, .int .u8 y), (21, .vptr signsAV (y * 1)), (22, sgn y), (7, sgn y)])

noncomputable def opsOf : Code → Array Oper
  | .region _ ops _ => ops
  | _ => #[]
noncomputable def k1 : Code := sndC c5
noncomputable def k2 : Code := sndC k1
noncomputable def k3 : Code := sndC k2
noncomputable def k4 : Code := sndC k3
noncomputable def k5 : Code := sndC k4
theorem e0 : c5 = .seq (fstC c5) k1 := by kernel_rfl
theorem e1 : k1 = .seq (fstC k1) k2 := by kernel_rfl
theorem e2 : k2 = .seq (fstC k2) k3 := by kernel_rfl
theorem e3 : k3 = .seq (fstC k3) k4 := by kernel_rfl
theorem e4 : k4 = .seq (fstC k4) k5 := by kernel_rfl
theorem r3 : fstC k3 = .region 4 (opsOf (fstC k3)) false := by kernel_rfl
theorem r4 : fstC k4 = .region 5 (opsOf (fstC k4)) false := by kernel_rfl

set_option maxRecDepth 100000
theorem s0 (a b : Int) : evCode oT Tryd.prog envT 100 (fstC c5) ([.int .u8 a, .int .u8 b] ++ List.replicate (Tryd.f5.ntmps - 2) .nothing) [] = some (.normal, S [(0, .int .u8 a), (1, .int .u8 b), (4, .bool false)], []) := by kernel_rfl
theorem s1 (a b : Int) : evCode oT Tryd.prog envT 100 (fstC k1) (S [(0, .int .u8 a), (1, .int .u8 b), (4, .bool false)]) [] = some (.normal, S [(0, .int .u8 a), (1, .int .u8 b), (4, .bool false), (10, .bool true), (11, .bool false)], []) := by kernel_rfl
theorem s2 (a b : Int) : evCode oT Tryd.prog envT 100 (fstC k2) (S [(0, .int .u8 a), (1, .int .u8 b), (4, .bool false), (10, .bool true), (11, .bool false)]) [] = some (.normal, S3 a b, []) := by kernel_rfl
theorem s3a (a b : Int) : evOps oT Tryd.prog envT (opsOf (fstC k3)) ((withIds envT (opsOf (fstC k3)).toList 0).take 3) (S3 a b) [] = some (S3' a b (a.tmod 10), []) := by kernel_rfl
theorem s4a (a b : Int) (x : Nat) : evOps oT Tryd.prog envT (opsOf (fstC k4)) ((withIds envT (opsOf (fstC k4)).toList 0).take 3) (S4 a b x) [] = some (S4' a b x (b.tmod 10), []) := by kernel_rfl
theorem s3b0 (a b : Int) : evOps oT Tryd.prog envT (opsOf (fstC k3)) ((withIds envT (opsOf (fstC k3)).toList 0).drop 3) (S3' a b (0 : Nat)) [] = some (S4 a b 0, []) := by kernel_rfl
theorem s3b1 (a b : Int) : evOps oT Tryd.prog envT (opsOf (fstC k3)) ((withIds envT (opsOf (fstC k3)).toList 0).drop 3) (S3' a b (1 : Nat)) [] = some (S4 a b 1, []) := by kernel_rfl
theorem s3b2 (a b : Int) : evOps oT Tryd.prog envT (opsOf (fstC k3)) ((withIds envT (opsOf (fstC k3)).toList 0).drop 3) (S3' a b (2 : Nat)) [] = some (S4 a b 2, []) := by kernel_rfl
theorem s3b3 (a b : Int) : evOps oT Tryd.prog envT (opsOf (fstC k3)) ((withIds envT (opsOf (fstC k3)).toList 0).drop 3) (S3' a b (3 : Nat)) [] = some (S4 a b 3, []) := by kernel_rfl
theorem s3b4 (a b : Int) : evOps oT Tryd.prog envT (opsOf (fstC k3)) ((withIds envT (opsOf (fstC k3)).toList 0).drop 3) (S3' a b (4 : Nat)) [] = some (S4 a b 4, []) := by kernel_rfl
theorem s3b5 (a b : Int) : evOps oT Tryd.prog envT (opsOf (fstC k3)) ((withIds envT (opsOf (fstC k3)).toList 0).drop 3) (S3' a b (5 : Nat)) [] = some (S4 a b 5, []) := by kernel_rfl
theorem s3b6 (a b : Int) : evOps oT Tryd.prog envT (opsOf (fstC k3)) ((withIds envT (opsOf (fstC k3)).toList 0).drop 3) (S3' a b (6 : Nat)) [] = some (S4 a b 6, []) := by kernel_rfl
theorem s3b7 (a b : Int) : evOps oT Tryd.prog envT (opsOf (fstC k3)) ((withIds envT (opsOf (fstC k3)).toList 0).drop 3) (S3' a b (7 : Nat)) [] = some (S4 a b 7, []) := by kernel_rfl
theorem s3b8 (a b : Int) : evOps oT Tryd.prog envT (opsOf (fstC k3)) ((withIds envT (opsOf (fstC k3)).toList 0).drop 3) (S3' a b (8 : Nat)) [] = some (S4 a b 8, []) := by kernel_rfl
theorem s3b9 (a b : Int) : evOps oT Tryd.prog envT (opsOf (fstC k3)) ((withIds envT (opsOf (fstC k3)).toList 0).drop 3) (S3' a b (9 : Nat)) [] = some (S4 a b 9, []) := by kernel_rfl
theorem s4b0 (a b : Int) (x : Nat) : evOps oT Tryd.prog envT (opsOf (fstC k4)) ((withIds envT (opsOf (fstC k4)).toList 0).drop 3) (S4' a b x (0 : Nat)) [] = some (S5 a b x 0, []) := by kernel_rfl
theorem s4b1 (a b : Int) (x : Nat) : evOps oT Tryd.prog envT (opsOf (fstC k4)) ((withIds envT (opsOf (fstC k4)).toList 0).drop 3) (S4' a b x (1 : Nat)) [] = some (S5 a b x 1, []) := by kernel_rfl
theorem s4b2 (a b : Int) (x : Nat) : evOps oT Tryd.prog envT (opsOf (fstC k4)) ((withIds envT (opsOf (fstC k4)).toList 0).drop 3) (S4' a b x (2 : Nat)) [] = some (S5 a b x 2, []) := by kernel_rfl
theorem s4b3 (a b : Int) (x : Nat) : evOps oT Tryd.prog envT (opsOf (fstC k4)) ((withIds envT (opsOf (fstC k4)).toList 0).drop 3) (S4' a b x (3 : Nat)) [] = some (S5 a b x 3, []) := by kernel_rfl
theorem s4b4 (a b : Int) (x : Nat) : evOps oT Tryd.prog envT (opsOf (fstC k4)) ((withIds envT (opsOf (fstC k4)).toList 0).drop 3) (S4' a b x (4 : Nat)) [] = some (S5 a b x 4, []) := by kernel_rfl
theorem s4b5 (a b : Int) (x : Nat) : evOps oT Tryd.prog envT (opsOf (fstC k4)) ((withIds envT (opsOf (fstC k4)).toList 0).drop 3) (S4' a b x (5 : Nat)) [] = some (S5 a b x 5, []) := by kernel_rfl
theorem s4b6 (a b : Int) (x : Nat) : evOps oT Tryd.prog envT (opsOf (fstC k4)) ((withIds envT (opsOf (fstC k4)).toList 0).drop 3) (S4' a b x (6 : Nat)) [] = some (S5 a b x 6, []) := by kernel_rfl
theorem s4b7 (a b : Int) (x : Nat) : evOps oT Tryd.prog envT (opsOf (fstC k4)) ((withIds envT (opsOf (fstC k4)).toList 0).drop 3) (S4' a b x (7 : Nat)) [] = some (S5 a b x 7, []) := by kernel_rfl
theorem s4b8 (a b : Int) (x : Nat) : evOps oT Tryd.prog envT (opsOf (fstC k4)) ((withIds envT (opsOf (fstC k4)).toList 0).drop 3) (S4' a b x (8 : Nat)) [] = some (S5 a b x 8, []) := by kernel_rfl
theorem s4b9 (a b : Int) (x : Nat) : evOps oT Tryd.prog envT (opsOf (fstC k4)) ((withIds envT (opsOf (fstC k4)).toList 0).drop 3) (S4' a b x (9 : Nat)) [] = some (S5 a b x 9, []) := by kernel_rfl

theorem s3b (a b : Int) (x : Nat) (hx : x < 10) : evOps oT Tryd.prog envT (opsOf (fstC k3)) ((withIds envT (opsOf (fstC k3)).toList 0).drop 3) (S3' a b x) [] = some (S4 a b x, []) := by
  have h : x = 0 ∨ x = 1 ∨ x = 2 ∨ x = 3 ∨ x = 4 ∨ x = 5 ∨ x = 6 ∨ x = 7 ∨ x = 8 ∨ x = 9 := by omega
  rcases h with rfl | rfl | rfl | rfl | rfl | rfl | rfl | rfl | rfl | rfl
  · exact s3b0 a b
  · exact s3b1 a b
  · exact s3b2 a b
  · exact s3b3 a b
  · exact s3b4 a b
  · exact s3b5 a b
  · exact s3b6 a b
  · exact s3b7 a b
  · exact s3b8 a b
  · exact s3b9 a b
theorem s4b (a b : Int) (x y : Nat) (hy : y < 10) : evOps oT Tryd.prog envT (opsOf (fstC k4)) ((withIds envT (opsOf (fstC k4)).toList 0).drop 3) (S4' a b x y) [] = some (S5 a b x y, []) := by
  have h : y = 0 ∨ y = 1 ∨ y = 2 ∨ y = 3 ∨ y = 4 ∨ y = 5 ∨ y = 6 ∨ y = 7 ∨ y = 8 ∨ y = 9 := by omega
  rcases h with rfl | rfl | rfl | rfl | rfl | rfl | rfl | rfl | rfl | rfl
  · exact s4b0 a b x
  · exact s4b1 a b x
  · exact s4b2 a b x
  · exact s4b3 a b x
  · exact s4b4 a b x
  · exact s4b5 a b x
  · exact s4b6 a b x
  · exact s4b7 a b x
  · exact s4b8 a b x
  · exact s4b9 a b x
/-- Up to where the two signs are known. -/
theorem law_front (a b : Int) (x y : Nat) (hx : x < 10) (hy : y < 10) (ha : a.tmod 10 = x) (hb : b.tmod 10 = y) :
    evCode oT Tryd.prog envT 100 c5 ([.int .u8 a, .int .u8 b] ++ List.replicate (Tryd.f5.ntmps - 2) .nothing) [] = evCode oT Tryd.prog envT 100 k5 (S5 a b x y) [] := by
  rw [evCode_seq e0 (s0 a b), evCode_seq e1 (s1 a b), evCode_seq e2 (s2 a b)]
  rw [evCode_seq e3 (evCode_cut 3 r3 rfl (s3a a b) (by rw [ha]; exact s3b a b x hx))]
  rw [evCode_seq e4 (evCode_cut 3 r4 rfl (s4a a b x) (by rw [hb]; exact s4b a b x y hy))]
end Go.Proofs.YtpmonaempgjgbaaDoor
