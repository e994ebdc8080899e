/- The program's Split: a round of its loop. .. The program's Split. -/
import Derived.Test.YtejjlojfgcgopaaGreatDoorZ20
set_option linter.unusedSimpArgs false
set_option linter.unusedVariables false
namespace Go.Proofs.YtejjlojfgcgopaaGreatDoor
open Go.RowKit Go.Proofs.Fw
set_option maxRecDepth 100000
set_option maxHeartbeats 4000000
@[simp] theorem immSFl : envS.imm 156 = true := by decide
@[simp] theorem buFaultI (w : List UInt8) (p c : Int) : abuild Tryz.prog 156 [(0, .str w), (1, .int .i64 p), (2, .iface 134 (.int .i64 c))] = some (.agg [.str w, .int .i64 p, .iface 134 (.int .i64 c)]) := by kernel_rfl
@[simp high] theorem alenTkS (k : Nat) (l : List (List UInt8)) : alen Tryz.prog 23 (strE.tk k l) = some (.int .i64 l.length) := strE.tk_len Tryz.underlying23 k l
@[simp] theorem softSStr : envS.soft 23 = false := by decide
def rangeParts : Code → Option (Code × Code)
  | .rangeFunc _ _ a b => some (a, b)
  | .seq a b => (match rangeParts a with
    | some x => some x
    | none => rangeParts b)
  | .block _ c => rangeParts c
  | _ => none
noncomputable def splitA : Code := ((rangeParts (bodyOf Tryz.f79)).getD (.skip, .skip)).1
noncomputable def splitB : Code := ((rangeParts (bodyOf Tryz.f79)).getD (.skip, .skip)).2
def hS (e : Er) (ls : List (List UInt8)) (rest : List UInt8) : AH := [some (.box [.nilSlice]), some (.box [erI e]), some (.box [strE.tk 6 ls]), some (.box [.str rest]), some (.box [.str [10]]), some (.box [.int .i64 1])] ++ (if ls = [] then [] else [some (.tok ls.length)])
theorem hS_len (e : Er) (ls : List (List UInt8)) (rest : List UInt8) : (hS e ls rest).length = if ls = [] then 6 else 7 := by unfold hS; split <;> rfl
theorem hS_low (e : Er) (ls : List (List UInt8)) (rest : List UInt8) : lowH (hS e ls rest).length (hS e ls rest) = true := by
  unfold hS
  by_cases h : ls = []
  · subst h; simp
  · have := strE.tk_low (k := 6) (m := 7) (by decide) ls
    simp [h, this]
def RdQ (ls : List (List UInt8)) (rest f : List UInt8) : AEx → List AV → AH → Prop := fun e _ H =>
  (f = [] ∧ e = .exit 0 ∧ H = hS none ls rest) ∨ (f ≠ [] ∧ chkC f ≠ 0 ∧ e = .ret ∧ H = hS (some ([(lineTxt, ls.length)], chkC f)) ls rest) ∨ (f ≠ [] ∧ chkC f = 0 ∧ e = .normal ∧ (H = hS none (ls ++ [f]) rest ∨ H = hS none (ls ++ [f]) rest ++ [none]))
theorem rdT_tr {B : Bs} {l : Nat} {ls : List (List UInt8)} {rest : List UInt8} (hB : B.H = hS none ls rest) (hG : GlobOk envS B.g) {f : List UInt8} (hf : f.length < 1000000) (hls : ls.length < 100000000) :
    TrR (some l) Tryz.prog B (fun _ => False) [] splitB (mkT 34 [(2, .ptr 0 0), (3, .ptr 1 0), (4, .ptr 2 0), (5, .str f)]) (hS none ls rest) (RdQ ls rest f) := by
  have X := (oOf_cx [fLcheck] methSOk mixed)
  have hL : ([fLcheck].map (·.f)).Nodup := show ([126] : List Nat).Nodup by decide
  have f1 := fun (H : AH) => oOf_mem hL fLcheck (by simp) (x := f) (H := H) hf
  generalize oOf [fLcheck] = O at X f1
  have f1 : ∀ H, O 126 [.str f] H = some (codeAV (chkC f), H) := f1
  refine TrR.go X hG [] (by kernel_rfl) ?_
  by_cases h0 : f = []
  · subst h0
    unfold hS
    by_cases hl : ls = []
    · subst hl
      simp [splitB, rangeParts, Tryz.f79, RdQ, hS]
    · simp [splitB, rangeParts, Tryz.f79, RdQ, hS, hl]
  · have h0' : (f == []) = false := by rw [beq_eq_false_iff_ne]; exact h0
    by_cases hc : chkC f = 0
    · rw [hc] at f1
      have hcc : codeAV 0 = .nilIface := rfl
      rw [hcc] at f1
      have e1 : strE.c f = [.str f] := rfl
      have e2 : strE.sz = 1 := rfl
      by_cases hl : ls = []
      · subst hl
        have a1 := fun H ow fid => encApp0 strE (P := Tryz.prog) (H := H) (ow := ow) (fid := fid) elemStr f
        rw [e1, e2] at a1
        simp [splitB, rangeParts, Tryz.f79, hS, h0, h0', f1, aapp_hard softSStr, a1]
        exact .inr (.inr ⟨h0, hc, rfl, .inl (by simp [hS, tokE_ne])⟩)
      · have a1 := fun H ow fid (h : AH.at H 6 = some (.tok ls.length)) => encAppN strE (P := Tryz.prog) (H := H) (ow := ow) (fid := fid) (k := 6) elemStr ls f hl h (by omega)
        rw [e1, e2] at a1
        simp [splitB, rangeParts, Tryz.f79, hS, h0, h0', f1, hl, aapp_hard softSStr, a1]
        exact .inr (.inr ⟨h0, hc, rfl, .inr (by
          unfold hS
          rw [if_neg (by simp), List.length_append]
          rfl)⟩)
    · have hz : codeAV (chkC f) = errAV [] (chkC f : Int) := codeAV_err hc
      rw [hz] at f1
      have hE : erI (some ([(lineTxt, ls.length)], chkC f)) = errAV [(lineTxt, (ls.length : Int))] (chkC f : Int) := rfl
      by_cases hl : ls = []
      · subst hl
        simp only [errAV] at f1
        simp [splitB, rangeParts, Tryz.f79, hS, h0, h0', f1]
        refine LpR.turns X hG [6, 7] [(0, 6), (1, 6), (2, 6), (3, 6), (4, 6), (5, 6)] (by kernel_rfl) (by kernel_rfl) ?_
        simp
        exact .inr (.inl ⟨h0, hc, rfl, by simp [hS, lineTxt]; rfl⟩)
      · simp only [errAV] at f1
        simp [splitB, rangeParts, Tryz.f79, hS, h0, h0', f1, hl]
        refine LpR.turns X hG [6, 7] [(0, 6), (1, 6), (2, 6), (3, 6), (4, 6), (5, 6)] (by kernel_rfl) (by kernel_rfl) ?_
        have i1 := encIds strE 6 hl
        simp [i1]
        exact .inr (.inl ⟨h0, hc, rfl, by simp [hS, lineTxt, hl]; rfl⟩)
end Go.Proofs.YtejjlojfgcgopaaGreatDoor

namespace Go.Proofs.Fw
open Go.RowKit
structure PostL (l : Nat) (g : Gh) (H : AH) (w : World) (g' : Gh) (H' : AH) (w' : World) : Prop where
  le : g.le g'
  hid : ∀ id, H.at id = some .hid → g'.M id = g.M id ∧ H'.at id = some .hid
  new : ∀ id e', g'.M id = some e' → (∃ e, g.M id = some e ∧ e.block = e'.block) ∨ w.heap.size ≤ e'.block
  old : ∀ b, b ≠ l → b < w.heap.size → (∀ id e ge, H.at id = some e → e ≠ .hid → g.M id = some ge → ge.block ≠ b) → w'.heap[b]? = w.heap[b]? ∧ ∀ i, g'.G b i = g.G b i
  size : w.heap.size ≤ w'.heap.size
  os : w'.os = w.os
  tape : w'.tape = w.tape
  output : w'.output = w.output
section
variable {l : Nat} {g g1 g2 : Gh} {H H1 H2 : AH} {w w1 w2 : World}
theorem PostL.of (p : Post g H w g1 H1 w1) : PostL l g H w g1 H1 w1 := ⟨p.le, p.hid, p.new, fun b _ hb hn => p.old b hb hn, p.size, p.os, p.tape, p.output⟩
theorem PostL.trans (R : Rel g H w) (p : PostL l g H w g1 H1 w1) (q : PostL l g1 H1 w1 g2 H2 w2) : PostL l g H w g2 H2 w2 where
  le := Gh.le_trans p.le q.le
  hid := fun id h => by
    obtain ⟨h1, h2⟩ := p.hid id h
    obtain ⟨h3, h4⟩ := q.hid id h2
    exact ⟨h3.trans h1, h4⟩
  new := fun id e h => by
    rcases q.new id e h with ⟨e1, h1, hb⟩ | h1
    · rcases p.new id e1 h1 with ⟨e0, h0, hb0⟩ | h0
      · exact .inl ⟨e0, h0, hb0.trans hb⟩
      · exact .inr (hb ▸ h0)
    · exact .inr (Nat.le_trans p.size h1)
  old := fun b hbl hb hn => by
    obtain ⟨h1, h2⟩ := p.old b hbl hb hn
    have := q.old b hbl (Nat.lt_of_lt_of_le hb p.size) (fun id e ge he hne hM hbk => by
      rcases p.new id ge hM with ⟨e0, h0, hb0⟩ | h0
      · cases hH : H.at id with
        | none => rw [R.free id hH] at h0; cases h0
        | some e' =>
          by_cases hh : e' = .hid
          · subst hh
            have := (p.hid id hH).2
            rw [he] at this
            injection this with this
            exact hne this
          · exact hn id e' e0 hH hh h0 (hb0.trans hbk)
      · omega)
    exact ⟨this.1.trans h1, fun i => (this.2 i).trans (h2 i)⟩
  size := Nat.le_trans p.size q.size
  os := q.os.trans p.os
  tape := q.tape.trans p.tape
  output := q.output.trans p.output
theorem PostL.put (g : Gh) (H : AH) (w : World) (l : Nat) (o : Obj) : PostL l g H w g H (w.putObj l o) :=
  ⟨g.le_refl, fun _ h => ⟨rfl, h⟩, fun _ e h => .inl ⟨e, h, rfl⟩, fun b hb _ _ => ⟨World.putObj_heap_other hb, fun _ => rfl⟩, by rw [World.putObj_size]; exact Nat.le_refl _, rfl, rfl, rfl⟩
theorem PostL.post (p : PostL l g H w g1 H1 w1) (h : w.heap.size ≤ l ∨ (w1.heap[l]? = w.heap[l]? ∧ ∀ i, g1.G l i = g.G l i)) : Post g H w g1 H1 w1 :=
  ⟨p.le, p.hid, p.new, fun b hb hn => by
    by_cases hbl : b = l
    · subst hbl
      rcases h with h | h
      · omega
      · exact h
    · exact p.old b hbl hb hn, p.size, p.os, p.tape, p.output⟩
theorem noCell_loop {w : World} {l : Nat} {r : Loop} (h : w.heap[l]? = some (.loop r)) (i : Nat) : w.cell? ⟨l, i, none⟩ = none := by simp only [World.cell?, h]
theorem noG_loop (R : Rel g H w) {r : Loop} (h : w.heap[l]? = some (.loop r)) (i : Nat) : g.G l i = none := by
  cases hG : g.G l i with
  | none => rfl
  | some v => have := R.imm l i v hG; rw [noCell_loop h] at this; cases this
theorem Rel.putF (R : Rel g H w) {r : Loop} (h : w.heap[l]? = some (.loop r)) (hfr : ∀ id ge, g.M id = some ge → ge.block ≠ l) (o : Obj) : Rel g H (w.putObj l o) where
  imm := fun b i v hb => by
    have hne : b ≠ l := fun he => by subst he; rw [noG_loop R h] at hb; cases hb
    exact (cell?_of_heap (World.putObj_heap_other hne)).trans (R.imm b i v hb)
  free := R.free
  ent := fun id e he hne => by
    obtain ⟨ge, hM, hr⟩ := R.ent id e he hne
    exact ⟨ge, hM, hr.keep g.le_refl (World.putObj_heap_other (hfr id ge hM)) (fun _ => rfl)⟩
  inj := R.inj
  blk := fun id e he => by rw [World.putObj_size]; exact R.blk id e he
theorem Post.foreign (R : Rel g H w) (p : Post g H w g1 H1 w1) {b : Nat} (hb : b < w.heap.size) (hfr : ∀ id ge, g.M id = some ge → ge.block ≠ b) : w1.heap[b]? = w.heap[b]? ∧ ∀ id ge, g1.M id = some ge → ge.block ≠ b :=
  ⟨(p.old b hb fun id e ge _ _ hM => hfr id ge hM).1, fun id ge hM => by
    rcases p.new id ge hM with ⟨e, h1, h2⟩ | h1
    · rw [← h2]; exact hfr id e h1
    · omega⟩
theorem PostL.foreign (p : PostL l g H w g1 H1 w1) {b : Nat} (hb : b < w.heap.size) (hfr : ∀ id ge, g.M id = some ge → ge.block ≠ b) : ∀ id ge, g1.M id = some ge → ge.block ≠ b := fun id ge hM => by
    rcases p.new id ge hM with ⟨e, h1, h2⟩ | h1
    · rw [← h2]; exact hfr id e h1
    · omega
theorem Rel.congr {H' : AH} (R : Rel g H w) (h : ∀ i, H'.at i = H.at i) : Rel g H' w :=
  ⟨R.imm, fun id hi => R.free id (by rw [← h]; exact hi), fun id e he hne => R.ent id e (by rw [← h]; exact he) hne, R.inj, R.blk⟩
theorem PostL.congr {H' : AH} (p : PostL l g H w g1 H1 w1) (h : ∀ i, H'.at i = H1.at i) : PostL l g H w g1 H' w1 :=
  ⟨p.le, fun id hi => ⟨(p.hid id hi).1, by rw [h]; exact (p.hid id hi).2⟩, p.new, p.old, p.size, p.os, p.tape, p.output⟩
end
end Go.Proofs.Fw
namespace Go.Proofs.YtejjlojfgcgopaaGreatDoor
open Go.RowKit Go.Proofs.Fw
set_option maxRecDepth 100000
set_option maxHeartbeats 4000000
noncomputable def recS (fn : FuncId) (tm : Array Value) (D : Nat) (st : LoopState) (pe : Option Code) : Loop := { state := st, pending := pe, fn, tmps := tm, params := #[16], assign := splitA, body := splitB, defers := D }
def RdR (ls : List (List UInt8)) (rest f : List UInt8) (b : Bool) (st : LoopState) (pe : Option Code) (H : AH) : Prop :=
  (f = [] ∧ b = false ∧ st = .done ∧ pe = some (.exit 0) ∧ H = hS none ls rest) ∨ (f ≠ [] ∧ chkC f ≠ 0 ∧ b = false ∧ st = .done ∧ pe = some .ret ∧ H = hS (some ([(lineTxt, ls.length)], chkC f)) ls rest) ∨
    (f ≠ [] ∧ chkC f = 0 ∧ b = true ∧ st = .ready ∧ pe = none ∧ H = hS none (ls ++ [f]) rest)
theorem hS_none (e : Er) (ls : List (List UInt8)) (rest : List UInt8) (i : Nat) : (hS e ls rest).at i = AH.at (hS e ls rest ++ [none]) i := by
  rcases Nat.lt_or_ge i (hS e ls rest).length with h | h
  · rw [at_appL h]
  · rw [at_ge h, at_appR h]
    generalize i - (hS e ls rest).length = j
    cases j with
    | zero => rfl
    | succ j => rfl
theorem yield_in {g : Gh} {ls : List (List UInt8)} {rest : List UInt8} {w : World} (R : Rel g (hS none ls rest) w) (hG : GlobOk envS g) {l D : Nat} {fn : FuncId} {tm : Array Value}
    (hl : w.heap[l]? = some (.loop (recS fn tm D .ready none))) (hfr : ∀ id ge, g.M id = some ge → ge.block ≠ l) (hT : RepL g (mkT 34 [(2, .ptr 0 0), (3, .ptr 1 0), (4, .ptr 2 0)]) tm.toList) {f : List UInt8} (hf : f.length < 1000000) (hls : ls.length < 100000000) :
    RoundIn (wideF none) 0 Tryz.prog l fn (tm.setIfInBounds 16 (.string ⟨f.toArray⟩)) splitA splitB w fun e w' => ∃ g' H' b st pe, e = .returned (.bool b) ∧ Rel g' H' w' ∧ PostL l g (hS none ls rest) w g' H' w' ∧ w'.heap[l]? = some (.loop (recS fn tm D st pe)) ∧ RdR ls rest f b st pe H' := by
  have hlt : l < w.heap.size := (Array.getElem?_eq_some_iff.1 hl).1
  have hT1 : RepL g (mkT 34 [(16, .str f), (2, .ptr 0 0), (3, .ptr 1 0), (4, .ptr 2 0)]) (tm.setIfInBounds 16 (.string ⟨f.toArray⟩)).toList := by
    have := hT.set 16 (a := .str f) (v := .string ⟨f.toArray⟩) (by simp [RepV])
    rw [mkT_set] at this
    rw [Array.toList_setIfInBounds]
    exact this
  refine roundIn_of_wpIn (F := wideF none) trivial ?_
  rw [wideF_in]
  -- the assignment
  have hA : TrR (some l) Tryz.prog ⟨g, hS none ls rest, w, R⟩ (fun _ => False) [] splitA (mkT 34 [(16, .str f), (2, .ptr 0 0), (3, .ptr 1 0), (4, .ptr 2 0)]) (hS none ls rest) (fun e t H => e = .normal ∧ t = mkT 34 [(5, .str f), (16, .str f), (2, .ptr 0 0), (3, .ptr 1 0), (4, .ptr 2 0)] ∧ H = hS none ls rest) := by
    refine TrR.go oNilS hG [] (by kernel_rfl) ?_
    simp [splitA, rangeParts, Tryz.f79]
  refine hA _ _ w ⟨g, R, Post.refl _ _ _, hT1, rfl⟩ ?_ (fun _ _ _ h => h.elim)
  rintro ex t1 H1 a1 w1 ⟨rfl, rfl, rfl⟩ ⟨g1, R1, p1, hT2, hd1⟩
  obtain ⟨hl1, hfr1⟩ := Post.foreign R p1 hlt hfr
  rw [hl] at hl1
  have hlt1 : l < w1.heap.size := Nat.lt_of_lt_of_le hlt p1.size
  refine ⟨_, run_beginRound hl1 rfl, ?_⟩
  generalize hw2 : w1.putObj l (.loop { recS fn tm D .ready none with state := .busy }) = w2
  have R2 : Rel g1 (hS none ls rest) w2 := by rw [← hw2]; exact R1.putF hl1 hfr1 _
  have hl2 : w2.heap[l]? = some (.loop { recS fn tm D .ready none with state := .busy }) := by rw [← hw2]; exact World.putObj_heap_same hlt1
  have q2 : PostL l g (hS none ls rest) w g1 (hS none ls rest) w2 := by rw [← hw2]; exact (PostL.of p1).trans R (PostL.put g1 _ w1 l _)
  have hlt2 : l < w2.heap.size := (Array.getElem?_eq_some_iff.1 hl2).1
  have hT3 : RepL g1 (mkT 34 [(2, .ptr 0 0), (3, .ptr 1 0), (4, .ptr 2 0), (5, .str f)]) a1.tmps.toList := by
    have hh : ∀ p ∈ ([(2, .ptr 0 0), (3, .ptr 1 0), (4, .ptr 2 0), (5, .str f)] : List (Nat × AV)), (([(5, .str f), (16, .str f), (2, .ptr 0 0), (3, .ptr 1 0), (4, .ptr 2 0)] : List (Nat × AV)).lookup p.1).getD .undef = p.2 ∧ low 100 p.2 = true := by simp
    exact WkL.rep (m := 100) (WkL.mkT fun p hp => .same (hh p hp).1 (hh p hp).2) hT2
  refine rdT_tr (B := ⟨g1, hS none ls rest, w2, R2⟩) rfl (hG.mono p1.le) hf hls _ _ w2 ⟨g1, R2, Post.refl _ _ _, hT3, hd1⟩ ?_ (fun _ _ _ h => h.elim)
  rintro ex t3 H3 a3 w3 hq ⟨g3, R3, p3, hT4, hd3⟩
  obtain ⟨hl3, hfr3⟩ := Post.foreign R2 p3 hlt2 hfr1
  rw [hl2] at hl3
  have hlt3 : l < w3.heap.size := (Array.getElem?_eq_some_iff.1 hl3).1
  have q3 : PostL l g (hS none ls rest) w g3 H3 w3 := q2.trans R (PostL.of p3)
  rcases hq with ⟨h0, rfl, rfl⟩ | ⟨h0, hc, rfl, rfl⟩ | ⟨h0, hc, rfl, hH⟩
  · exact ⟨_, _, run_endRound (some (.exit 0)) hl3, g3, _, false, .done, some (.exit 0), rfl, R3.putF hl3 hfr3 _, q3.trans R (PostL.put _ _ _ _ _), World.putObj_heap_same hlt3, .inl ⟨h0, rfl, rfl, rfl, rfl⟩⟩
  · exact ⟨_, _, run_endRound (some .ret) hl3, g3, _, false, .done, some .ret, rfl, R3.putF hl3 hfr3 _, q3.trans R (PostL.put _ _ _ _ _), World.putObj_heap_same hlt3, .inr (.inl ⟨h0, hc, rfl, rfl, rfl, rfl⟩)⟩
  · have hat : ∀ i, AH.at (hS none (ls ++ [f]) rest) i = AH.at H3 i := fun i => by
      rcases hH with rfl | rfl
      · rfl
      · exact hS_none _ _ _ i
    exact ⟨_, _, run_endRound none hl3, g3, _, true, .ready, none, rfl, (R3.congr hat).putF hl3 hfr3 _, (q3.congr hat).trans R (PostL.put _ _ _ _ _), World.putObj_heap_same hlt3, .inr (.inr ⟨h0, hc, rfl, rfl, rfl, rfl⟩)⟩
end Go.Proofs.YtejjlojfgcgopaaGreatDoor

namespace Go.Proofs.YtejjlojfgcgopaaGreatDoor
open Go.RowKit Go.Proofs.Fw
set_option maxRecDepth 100000
set_option maxHeartbeats 4000000
theorem yield_op {P : Program} {a : Act} {w : World} {o : Oper} {x y : Operand} {ts : Array TypeId} {l : Nat} {v : Value} {r : Loop} {K : Act → World → Prop} {Q : Exit → Act → World → Prop}
    (ho : o.op = .call { callee := .value x, args := #[y], argTypes := ts }) (hx : a.eval x = .func (.yield l) #[] #[]) (hy : a.eval y = v) (hl : w.heap[l]? = some (.loop r)) (hp : r.params = #[16])
    (h : RoundIn (wideF none) 0 P l r.fn (r.tmps.setIfInBounds 16 v) r.assign r.body w fun e w' => ∃ u, e = .returned u ∧ K (a.put o.dst u) w') : o.wpIn (wideF none) 0 P a w K Q := by
  refine ⟨fun _ _ => trivial, ?_⟩
  have hsem : Oper.semAt (wideF none).round a.eval o = execOp a.eval o := Oper.semAt_eq _ _ _ (fun c hc => by rw [ho] at hc; cases hc)
  rw [hsem]
  have key : ∀ ρ : Operand → Value, ρ x = .func (.yield l) #[] #[] → (execOp ρ o).run P w = .ok (.round l r.fn (r.tmps.setIfInBounds 16 (ρ y)) r.assign r.body) w := by
    intro ρ hx
    have hy2 := run_yield (P := P) (args := #[ρ y]) hl (by rw [hp]; rfl)
    rw [hp] at hy2
    have hz : ((#[16] : Array Tmp).zip #[ρ y]).foldl (fun tmps (t, a) => tmps.setIfInBounds t a) r.tmps = r.tmps.setIfInBounds 16 (ρ y) := by simp
    rw [hz] at hy2
    unfold execOp
    rw [ho]
    simp only [resolve, hx]
    simp [go_sem, hy2, invoke]
  have hrun := key a.eval hx
  rw [hy] at hrun
  rw [hrun, Oper.uponIn_round]
  refine ⟨(fun hh => by cases hh), h.mono ?_⟩
  rintro e w' ⟨u, rfl, hk⟩
  exact hk
def SqR (s : List UInt8) (ls : List (List UInt8)) (st : LoopState) (pe : Option Code) (H : AH) : Prop :=
  (st = .ready ∧ pe = none ∧ ∃ rest, H = hS none ls rest ∧ contW [] s = (ls, none)) ∨ (st = .done ∧ pe = some (.exit 0) ∧ ∃ rest, H = hS none ls rest ∧ contW [] s = (ls, none)) ∨
    (st = .done ∧ pe = some .ret ∧ ∃ rest e, H = hS e ls rest ∧ contW [] s = ([], e))
theorem opR {P : Program} {E : Env} {O : Orc} (X : Cx O P E) {g : Gh} {H : AH} {w : World} {t : List AV} {a : Act} {o : Oper} {fid : Nat} {v : AV} {H1 : AH} {K : Act → World → Prop} {Q : Exit → Act → World → Prop}
    (hnd : noDef o.op = true) (hni : needsId E o.op = false) (h : stepO O P E (aeval E t) H fid o = some (v, H1)) (R : Rel g H w) (hG : GlobOk E g) (hT : RepL g t a.tmps.toList)
    (hK : ∀ g' u w', Rel g' H1 w' → Post g H w g' H1 w' → RepL g' (putT t o.dst v) (a.put o.dst u).tmps.toList → K (a.put o.dst u) w') : o.wpIn (wideF none) 0 P a w K Q :=
  opIn_of hnd (stepO_ok X.sound X.meth R hG hT (fun hn => by rw [hni] at hn; cases hn) h fun g' u w' R' p' hv => hK g' u w' R' p' (putT_ok (RepL.mono p'.le _ _ hT) hv))
structure Yl (B : Bs) (l D : Nat) (fn : FuncId) (tm : Array Value) : Prop where
  hl : B.w.heap[l]? = some (.loop (recS fn tm D .ready none))
  hfr : ∀ id ge, B.g.M id = some ge → ge.block ≠ l
  hT : RepL B.g (mkT 34 [(2, .ptr 0 0), (3, .ptr 1 0), (4, .ptr 2 0)]) tm.toList
  hG : GlobOk envS B.g
def YΩ (B : Bs) (l D : Nat) (fn : FuncId) (tm : Array Value) (s : List UInt8) : World → Prop := fun w' => ∃ g' H' ls st pe, Rel g' H' w' ∧ PostL l B.g B.H B.w g' H' w' ∧ w'.heap[l]? = some (.loop (recS fn tm D st pe)) ∧ SqR s ls st pe H'
theorem Yl.lt {B : Bs} {l D : Nat} {fn : FuncId} {tm : Array Value} (Y : Yl B l D fn tm) : l < B.w.heap.size := (Array.getElem?_eq_some_iff.1 Y.hl).1
theorem yv_eval {g : Gh} {t : List AV} {a : Act} {k l : Nat} (hT : RepL g t a.tmps.toList) (h : t[k]? = some (.func (.yield l) [] [])) : a.eval (.tmp k) = .func (.yield l) #[] #[] := by
  obtain ⟨v, h1, h2⟩ := hT.get h
  simp only [RepV, RepL] at h2
  obtain ⟨fs, cs, rfl, rfl, rfl⟩ := h2
  show a.tmps.getD k undef = _
  rw [Array.getD_eq_getD_getElem?, ← Array.getElem?_toList, h1]
  rfl
theorem str_eval {g : Gh} {t : List AV} {a : Act} {k : Nat} {f : List UInt8} (hT : RepL g t a.tmps.toList) (h : t[k]? = some (.str f)) : a.eval (.tmp k) = .string ⟨f.toArray⟩ := by
  obtain ⟨v, h1, h2⟩ := hT.get h
  simp only [RepV] at h2
  subst h2
  show a.tmps.getD k undef = _
  rw [Array.getD_eq_getD_getElem?, ← Array.getElem?_toList, h1]
  rfl
theorem bool_eval {g : Gh} {t : List AV} {a : Act} {k : Nat} {b : Bool} (hT : RepL g t a.tmps.toList) (h : t[k]? = some (.bool b)) : a.eval (.tmp k) = .bool b := by
  obtain ⟨v, h1, h2⟩ := hT.get h
  simp only [RepV] at h2
  subst h2
  show a.tmps.getD k undef = _
  rw [Array.getD_eq_getD_getElem?, ← Array.getElem?_toList, h1]
  rfl
theorem yield8_tr {B : Bs} {l D : Nat} {fn : FuncId} {tm : Array Value} (Y : Yl B l D fn tm) {s : List UInt8} {ls : List (List UInt8)} {rest f : List UInt8} (hf : f.length < 1000000) (hls : ls.length < 100000000)
    {L : List (Nat × AV)} (h0 : L.lookup 0 = some (.func (.yield l) [] [])) (h8 : L.lookup 8 = some (.str f)) {id : Nat} {y1 y2 y3 y4 y5 : TypeId} {p1 p2 p3 p4 : String} {f1 f2 f3 f4 : Array Edge} {ts : Array TypeId} {Q : AEx → List AV → AH → Prop}
    (hq : f ≠ [] → chkC f = 0 → Q .normal (mkT 52 ((42, .bool false) :: (41, .bool true) :: (40, .str f) :: (39, .func (.yield l) [] []) :: L)) (hS none (ls ++ [f]) rest)) (hstop : ∀ st pe H', RdR ls rest f false st pe H' → SqR s ls st pe H') :
    TrR none Tryz.prog B (YΩ B l D fn tm s) [] (.seq (.region id #[⟨some 39, .move (.tmp 0), y1, p1, f1, none⟩, ⟨some 40, .move (.tmp 8), y2, p2, f2, none⟩, ⟨some 41, .call { callee := .value (.tmp 39), args := #[.tmp 40], argTypes := ts }, y3, p3, f3, none⟩, ⟨some 42, .unOp .not y5 (.tmp 41), y4, p4, f4, none⟩] false) (.cond (.tmp 42) .ret .skip)) (mkT 52 L) (hS none ls rest) Q := by
  intro Q' a w hs k ho
  obtain ⟨g, R, p, hT, hd⟩ := hs
  have hlt := Y.lt
  obtain ⟨hl0, hfr0⟩ := Post.foreign B.R p hlt Y.hfr
  rw [Y.hl] at hl0
  have hG := Y.hG.mono p.le
  refine wpIn_seq (wpIn_region ?_)
  show wpOpsIn _ _ _ _ _ [0, 1, 2, 3] _ _
  have aev0 : aeval envS (mkT 52 L) (.tmp 0) = .func (.yield l) [] [] := by simp [aeval, mkT_getD, h0]
  -- the two moves
  simp only [wpOpsIn]
  refine opR oNilS (fid := 0) (v := .func (.yield l) [] []) (H1 := hS none ls rest) rfl rfl (by simp [stepO, aop, aev0, applyUps]) R hG hT fun g1 u1 w1 R1 q1 hT1 => ?_
  have hT1 : RepL g1 (mkT 52 ((39, .func (.yield l) [] []) :: L)) (a.put (some 39) u1).tmps.toList := by rw [← mkT_set]; exact hT1
  have aev8 : aeval envS (mkT 52 ((39, .func (.yield l) [] []) :: L)) (.tmp 8) = .str f := by simp [aeval, mkT_getD, h8, List.lookup]
  refine opR oNilS (fid := 0) (v := .str f) (H1 := hS none ls rest) rfl rfl (by simp [stepO, aop, aev8, applyUps]) R1 (hG.mono q1.le) hT1 fun g2 u2 w2 R2 q2 hT2 => ?_
  have hT2 : RepL g2 (mkT 52 ((40, .str f) :: (39, .func (.yield l) [] []) :: L)) ((a.put (some 39) u1).put (some 40) u2).tmps.toList := by rw [← mkT_set]; exact hT2
  have hd2 : ((a.put (some 39) u1).put (some 40) u2).defers = [] := by rw [put_defers, put_defers]; exact hd
  have p2 := Post.trans R q1 q2
  obtain ⟨hl2, hfr2⟩ := Post.foreign R p2 (Nat.lt_of_lt_of_le hlt p.size) hfr0
  rw [hl0] at hl2
  have pB := Post.trans B.R p p2
  -- yield
  have e39 := yv_eval (k := 39) (l := l) hT2 (by simp [mkT_get, List.lookup])
  have e40 := str_eval (k := 40) (f := f) hT2 (by simp [mkT_get, List.lookup])
  refine yield_op (a := ((a.put (some 39) u1).put (some 40) u2)) rfl e39 e40 hl2 rfl ((yield_in R2 (Y.hG.mono pB.le) hl2 hfr2 (RepL.mono pB.le _ _ Y.hT) hf hls).mono ?_)
  rintro e w3 ⟨g3, H3, b, st, pe, rfl, R3, q3, hl3, hr⟩
  refine ⟨_, rfl, ?_⟩
  have hT3 : RepL g3 (mkT 52 ((41, .bool b) :: (40, .str f) :: (39, .func (.yield l) [] []) :: L)) (((a.put (some 39) u1).put (some 40) u2).put (some 41) (.bool b)).tmps.toList := by
    rw [← mkT_set]
    exact putT_ok (RepL.mono q3.le _ _ hT2) (dst := some 41) (by simp [RepV])
  have hG3 : GlobOk envS g3 := (Y.hG.mono pB.le).mono q3.le
  have aev41 : aeval envS (mkT 52 ((41, .bool b) :: (40, .str f) :: (39, .func (.yield l) [] []) :: L)) (.tmp 41) = .bool b := by simp [aeval, mkT_getD, List.lookup]
  refine opR oNilS (fid := 0) (v := .bool (!b)) (H1 := H3) rfl rfl (by simp [stepO, aop, aev41, applyUps, aun]) R3 hG3 hT3 fun g4 u4 w4 R4 q4 hT4 => ?_
  have hT4 : RepL g4 (mkT 52 ((42, .bool (!b)) :: (41, .bool b) :: (40, .str f) :: (39, .func (.yield l) [] []) :: L)) ((((a.put (some 39) u1).put (some 40) u2).put (some 41) (.bool b)).put (some 42) u4).tmps.toList := by rw [← mkT_set]; exact hT4
  have hd4 : ((((a.put (some 39) u1).put (some 40) u2).put (some 41) (.bool b)).put (some 42) u4).defers = [] := by rw [put_defers, put_defers]; exact hd2
  have hfr3 := q3.foreign (Nat.lt_of_lt_of_le (Nat.lt_of_lt_of_le hlt p.size) p2.size) hfr2
  obtain ⟨hl4, hfr4⟩ := Post.foreign R3 q4 (Array.getElem?_eq_some_iff.1 hl3).1 hfr3
  rw [hl3] at hl4
  have e42 := bool_eval (k := 42) hT4 (b := !b) (by simp [mkT_get, List.lookup])
  have qL : PostL l B.g B.H B.w g4 H3 w4 := ((PostL.of pB).trans B.R q3).trans B.R (PostL.of q4)
  cases b with
  | false =>
    refine wpIn_cond_true e42 (wpIn_ret (ho _ w4 hd4 ⟨g4, H3, ls, st, pe, R4, qL, hl4, hstop st pe H3 hr⟩))
  | true =>
    have hr2 : f ≠ [] ∧ chkC f = 0 ∧ st = .ready ∧ pe = none ∧ H3 = hS none (ls ++ [f]) rest := by
      rcases hr with ⟨_, h, _⟩ | ⟨_, _, h, _⟩ | ⟨h1, h2, _, h3, h4, h5⟩
      · cases h
      · cases h
      · exact ⟨h1, h2, h3, h4, h5⟩
    obtain ⟨hne, hck, rfl, rfl, rfl⟩ := hr2
    refine wpIn_cond_false e42 (wpIn_skip (k .normal _ _ _ w4 (hq hne hck) ⟨g4, R4, qL.post (.inr ⟨?_, fun i => ?_⟩), hT4, hd4⟩))
    · rw [hl4, Y.hl]
    · rw [noG_loop R4 hl4, noG_loop B.R Y.hl]
end Go.Proofs.YtejjlojfgcgopaaGreatDoor

namespace Go.Proofs.YtejjlojfgcgopaaGreatDoor
open Go.RowKit Go.Proofs.Fw
set_option maxRecDepth 100000
set_option maxHeartbeats 4000000
theorem hS_at3 (e : Er) (ls : List (List UInt8)) (rest : List UInt8) : AH.at (hS e ls rest) 3 = some (.box [.str rest]) := rfl
theorem hS_at4 (e : Er) (ls : List (List UInt8)) (rest : List UInt8) : AH.at (hS e ls rest) 4 = some (.box [.str [10]]) := rfl
theorem hS_at5 (e : Er) (ls : List (List UInt8)) (rest : List UInt8) : AH.at (hS e ls rest) 5 = some (.box [.int .i64 1]) := rfl
theorem hS_set3 (e : Er) (ls : List (List UInt8)) (rest r : List UInt8) : (hS e ls rest).set 3 (some (.box [.str r])) = hS e ls r := rfl
noncomputable abbrev sqB : Code := bodyOf Tryz.f198
theorem sqB_eq : sqB = .seq (fstC sqB) (.seq (fstC (sndC sqB)) (sndC (sndC sqB))) := by kernel_rfl
def sqT (l : Nat) : List AV := mkT 52 [(0, .func (.yield l) [] []), (1, .ptr 4 0), (2, .ptr 3 0), (3, .ptr 5 0)]
def SqJ (s : List UInt8) (l : Nat) (k : Nat) (t : List AV) (H : AH) : Prop := ∃ ls rest, k = rest.length ∧ t = sqT l ∧ H = hS none ls rest ∧ contW ls rest = contW [] s ∧ ls.length + rest.length ≤ s.length
def SqE (s : List UInt8) (l : Nat) (e : AEx) (t : List AV) (H : AH) : Prop := e = .normal ∧ ∃ ls rest L, t = mkT 52 L ∧ L.lookup 0 = some (.func (.yield l) [] []) ∧ L.lookup 2 = some (.ptr 3 0) ∧ H = hS none ls rest ∧ Lib.indexByte rest 10 < 0 ∧ contW ls rest = contW [] s ∧ ls.length + rest.length ≤ s.length
theorem sqLoop_tr {B : Bs} {l D : Nat} {fn : FuncId} {tm : Array Value} (Y : Yl B l D fn tm) {s : List UInt8} (hB : B.H = hS none [] s) (hs : s.length < 1000000) :
    TrR none Tryz.prog B (YΩ B l D fn tm s) [] (fstC (sndC sqB)) (sqT l) (hS none [] s) (SqE s l) := by
  have X := oOf_cx [fStrIdx] methSOk mixed
  have hL : ([fStrIdx].map (·.f)).Nodup := show ([200] : List Nat).Nodup by decide
  have f1 := fun (r : List UInt8) (hr : r.length < 1000000) (H : AH) => oOf_mem hL fStrIdx (by simp) (x := r) (H := H) hr
  generalize oOf [fStrIdx] = O at X f1
  have f1 : ∀ (r : List UInt8) (hr : r.length < 1000000) (H : AH), O 200 [.str r, .str [10]] H = some (.int .i64 (Lib.indexByte r 10), H) := f1
  have hgo : goFn Tryz.prog 200 = true := by kernel_rfl
  refine TrR.go X Y.hG [8] (by kernel_rfl) ?_
  simp [-AH.at, sqB, fstC, sndC, Tryz.f198]
  have hBl : B.H.length = 6 := by rw [hB, hS_len]; rfl
  refine LpR.loopN X Y.hG [8] (by kernel_rfl) (SqJ s l) s.length (t' := sqT l) (H' := hS none [] s) Less.refl ⟨[], s, rfl, rfl, rfl, rfl, by simp⟩ ?_
  rintro k t H ⟨ls, rest, rfl, rfl, rfl, hcw, hlen⟩
  have g1 := fun H => f1 rest (by omega) H
  by_cases hi : Lib.indexByte rest 10 < 0
  · simp [-AH.at, sqT, hS_at3, hS_at4, hS_at5, g1, hgo, hi]
    exact ⟨rfl, ls, rest, _, rfl, rfl, rfl, rfl, hi, hcw, hlen⟩
  · obtain ⟨i, hi2⟩ : ∃ i : Nat, Lib.indexByte rest 10 = (i : Int) := ⟨(Lib.indexByte rest 10).toNat, by omega⟩
    have hcut := (idx_cut rest [] i hi2).1
    have hi3 : ¬ (i : Int) < 0 := by omega
    rw [hi2] at g1
    have w1 : IntKind.i64.wrap ((i : Int) + 1) = (i : Int) + 1 := wrap_i64 (by omega) (by omega)
    have q2 : (i : Int) + 1 ≤ rest.length := by omega
    have q3 : ((i : Int) + 1).toNat = i + 1 := by omega
    have q4 : (0 : Int) ≤ (i : Int) + 1 := by omega
    simp [-AH.at, sqT, hS_at3, hS_at4, hS_at5, g1, hgo, hi3, w1, q2, q3, q4]
    have hck := contW_cut (ls := ls) hi2
    refine yield8_tr Y (f := rest.take (i + 1)) (by rw [List.length_take]; omega) (by omega) (by simp [List.lookup]) (by simp [List.lookup]) ?_ ?_
    · intro hne hc
      rw [if_pos hc] at hck
      have hl1 : (rest.drop (i + 1)).length = rest.length - (i + 1) := List.length_drop
      simp [-AH.at, hS_at3, hS_at4, hS_at5, hS_set3, w1, q2, q3, q4]
      refine Nxt.mk (rest.drop (i + 1)).length (by omega) (Less.mkK (hS none (ls ++ [rest.take (i + 1)]) (rest.drop (i + 1))).length (by rw [hBl, hS_len]; split <;> omega) ?_ List.take_length (hS_low _ _ _)) ⟨ls ++ [rest.take (i + 1)], rest.drop (i + 1), rfl, rfl, rfl, hck.symm.trans hcw, by rw [List.length_append, List.length_singleton]; omega⟩
      have : 6 ≤ (hS none (ls ++ [rest.take (i + 1)]) (rest.drop (i + 1))).length := by rw [hS_len]; split <;> omega
      simp [hS_len]
    · intro st pe H' hr
      have hne : rest.take (i + 1) ≠ [] := by
        intro h
        have h2 := List.length_take (i := i + 1) (l := rest)
        rw [h, List.length_nil] at h2
        omega
      rcases hr with ⟨h, _⟩ | ⟨_, hc, _, rfl, rfl, rfl⟩ | ⟨_, _, h, _⟩
      · exact absurd h hne
      · rw [if_neg hc] at hck
        exact .inr (.inr ⟨rfl, rfl, rest, _, rfl, by rw [← hcw, hck]⟩)
      · cases h
end Go.Proofs.YtejjlojfgcgopaaGreatDoor

namespace Go.Proofs.YtejjlojfgcgopaaGreatDoor
open Go.RowKit Go.Proofs.Fw
set_option maxRecDepth 100000
set_option maxHeartbeats 4000000
theorem sqLast {B : Bs} {l D : Nat} {fn : FuncId} {tm : Array Value} (Y : Yl B l D fn tm) {s : List UInt8} {ls : List (List UInt8)} {rest : List UInt8} (hs : s.length < 1000000) (hi : Lib.indexByte rest 10 < 0) (hcw : contW ls rest = contW [] s) (hlen : ls.length + rest.length ≤ s.length)
    {L : List (Nat × AV)} (h0 : L.lookup 0 = some (.func (.yield l) [] [])) (h2 : L.lookup 2 = some (.ptr 3 0)) {id : Nat} {y1 y2 y3 : TypeId} {p1 p2 p3 : String} {f1 f2 f3 : Array Edge} {ts : Array TypeId} {Q' : Exit → Act → World → Prop} {a : Act} {w : World}
    (hsat : SatD B [] (mkT 52 L) (hS none ls rest) a w) (ho : ∀ a' w', a'.defers = [] → YΩ B l D fn tm s w' → Q' .normal a' w') :
    (Code.region id #[⟨some 49, .move (.tmp 0), y1, p1, f1, none⟩, ⟨some 50, .load 9 (.tmp 2), y2, p2, f2, none⟩, ⟨some 51, .call { callee := .value (.tmp 49), args := #[.tmp 50], argTypes := ts }, y3, p3, f3, none⟩] false).wpIn (wideF none) 0 Tryz.prog Q' a w := by
  obtain ⟨g, R, p, hT, hd⟩ := hsat
  have hlt := Y.lt
  obtain ⟨hl0, hfr0⟩ := Post.foreign B.R p hlt Y.hfr
  rw [Y.hl] at hl0
  have hG := Y.hG.mono p.le
  refine wpIn_region ?_
  show wpOpsIn _ _ _ _ _ [0, 1, 2] _ _
  have aev0 : aeval envS (mkT 52 L) (.tmp 0) = .func (.yield l) [] [] := by simp [aeval, mkT_getD, h0]
  simp only [wpOpsIn]
  refine opR oNilS (fid := 0) (v := .func (.yield l) [] []) (H1 := hS none ls rest) rfl rfl (by simp [stepO, aop, aev0, applyUps]) R hG hT fun g1 u1 w1 R1 q1 hT1 => ?_
  have hT1 : RepL g1 (mkT 52 ((49, .func (.yield l) [] []) :: L)) (a.put (some 49) u1).tmps.toList := by rw [← mkT_set]; exact hT1
  have aev2 : aeval envS (mkT 52 ((49, .func (.yield l) [] []) :: L)) (.tmp 2) = .ptr 3 0 := by simp [aeval, mkT_getD, h2, List.lookup]
  refine opR oNilS (fid := 0) (v := .str rest) (H1 := hS none ls rest) rfl rfl (by simp [-AH.at, stepO, aop, aev2, applyUps, hS_at3]) R1 (hG.mono q1.le) hT1 fun g2 u2 w2 R2 q2 hT2 => ?_
  have hT2 : RepL g2 (mkT 52 ((50, .str rest) :: (49, .func (.yield l) [] []) :: L)) ((a.put (some 49) u1).put (some 50) u2).tmps.toList := by rw [← mkT_set]; exact hT2
  have hd2 : ((a.put (some 49) u1).put (some 50) u2).defers = [] := by rw [put_defers, put_defers]; exact hd
  have p2 := Post.trans R q1 q2
  obtain ⟨hl2, hfr2⟩ := Post.foreign R p2 (Nat.lt_of_lt_of_le hlt p.size) hfr0
  rw [hl0] at hl2
  have pB := Post.trans B.R p p2
  have e49 := yv_eval (k := 49) (l := l) hT2 (by simp [mkT_get, List.lookup])
  have e50 := str_eval (k := 50) (f := rest) hT2 (by simp [mkT_get, List.lookup])
  refine yield_op (a := ((a.put (some 49) u1).put (some 50) u2)) rfl e49 e50 hl2 rfl ((yield_in R2 (Y.hG.mono pB.le) hl2 hfr2 (RepL.mono pB.le _ _ Y.hT) (f := rest) (by omega) (by omega)).mono ?_)
  rintro e w3 ⟨g3, H3, b, st, pe, rfl, R3, q3, hl3, hr⟩
  refine ⟨_, rfl, ?_⟩
  have hk := contW_last (ls := ls) hi
  refine ho _ w3 (by rw [put_defers]; exact hd2) ?_
  have qL : PostL l B.g B.H B.w g3 H3 w3 := (PostL.of pB).trans B.R q3
  rcases hr with ⟨h, _, rfl, rfl, rfl⟩ | ⟨h, hc, _, rfl, rfl, rfl⟩ | ⟨h, hc, _, rfl, rfl, rfl⟩
  · rw [if_pos h] at hk
    exact ⟨g3, _, ls, _, _, R3, qL, hl3, .inr (.inl ⟨rfl, rfl, rest, rfl, by rw [← hcw, hk]⟩)⟩
  · rw [if_neg h, if_neg hc] at hk
    exact ⟨g3, _, ls, _, _, R3, qL, hl3, .inr (.inr ⟨rfl, rfl, rest, _, rfl, by rw [← hcw, hk]⟩)⟩
  · rw [if_neg h, if_pos hc] at hk
    exact ⟨g3, _, ls ++ [rest], _, _, R3, qL, hl3, .inl ⟨rfl, rfl, rest, rfl, by rw [← hcw, hk]⟩⟩
theorem seq_calls {B : Bs} {l D : Nat} {fn : FuncId} {tm : Array Value} (Y : Yl B l D fn tm) {s : List UInt8} (hB : B.H = hS none [] s) (hs : s.length < 1000000) {cargs : List Value} (hA : RepL B.g [.func (.yield l) [] [], .ptr 4 0, .ptr 3 0, .ptr 5 0] cargs) :
    CallsIn (wideF none) 0 Tryz.prog 198 (List.toArray cargs) B.w fun e w' => (∃ v, e = .returned v) ∧ YΩ B l D fn tm s w' := by
  refine callsIn_of_wp Tryz.func198 (show (Tryz.f198).body = some sqB by kernel_rfl) trivial ?_
  have hT : RepL B.g (mkT 52 (argL 0 [.func (.yield l) [] [], .ptr 4 0, .ptr 3 0, .ptr 5 0])) (List.toArray cargs ++ Array.replicate ((Tryz.f198).ntmps - (List.toArray cargs).size) undef).toList := by
    refine RepL.mkT_args (by simp) ?_
    simp only [Array.toList_append, Array.toList_replicate, List.size_toArray, hA.length]
    exact hA.append (RepL.replicate _ (by simp [AV.nothing, RepV, RepL, undef]))
  rw [sqB_eq]
  have h1 : TrR none Tryz.prog B (YΩ B l D fn tm s) [] (fstC sqB) (mkT 52 (argL 0 [.func (.yield l) [] [], .ptr 4 0, .ptr 3 0, .ptr 5 0])) (hS none [] s) (fun e t H => e = .normal ∧ H = hS none [] s ∧ ∃ L, t = mkT 52 L ∧ ∀ p ∈ ([(0, .func (.yield l) [] []), (1, .ptr 4 0), (2, .ptr 3 0), (3, .ptr 5 0)] : List (Nat × AV)), (L.lookup p.1).getD .undef = p.2 ∧ low 100 p.2 = true) := by
    refine TrR.go oNilS Y.hG [] (by kernel_rfl) ?_
    simp [-AH.at, sqB, fstC, sndC, Tryz.f198, hS_at4]
    exact ⟨_, rfl, by simp [List.lookup]⟩
  have hsat : SatD B [] (mkT 52 (argL 0 [.func (.yield l) [] [], .ptr 4 0, .ptr 3 0, .ptr 5 0])) (hS none [] s) { tmps := List.toArray cargs ++ Array.replicate ((Tryz.f198).ntmps - (List.toArray cargs).size) undef, defers := [] } B.w := ⟨B.g, hB ▸ B.R, by have := Post.refl B.g B.H B.w; rw [hB] at this ⊢; exact this, hT, rfl⟩
  have hret : ∀ a' w', a'.defers = [] → YΩ B l D fn tm s w' → ∀ e, (e = .ret ∨ e = .normal) → bodyPost Tryz.prog Tryz.f198 (fun e w' => (∃ v, e = .returned v) ∧ YΩ B l D fn tm s w') e a' w' := by
    intro a' w' hd hΩ e he
    rcases he with rfl | rfl
    · exact ⟨hd, _, results_none rfl _ _ _, ⟨_, rfl⟩, hΩ⟩
    · exact ⟨hd, _, results_none rfl _ _ _, ⟨_, rfl⟩, hΩ⟩
  refine wpIn_seq (h1 _ _ _ hsat ?_ (fun a' w' hd h => hret a' w' hd h .ret (.inl rfl)))
  rintro ex t1 H1 a1 w1 ⟨rfl, rfl, L, rfl, hL⟩ ⟨g1, R1, p1, hT1, hd1⟩
  have hT2 : RepL g1 (sqT l) a1.tmps.toList := WkL.rep (m := 100) (WkL.mkT fun p hp => .same (hL p hp).1 (hL p hp).2) hT1
  refine wpIn_seq (sqLoop_tr Y hB hs _ a1 w1 ⟨g1, R1, p1, hT2, hd1⟩ ?_ (fun a' w' hd h => hret a' w' hd h .ret (.inl rfl)))
  rintro ex t2 H2 a2 w2 ⟨rfl, ls, rest, L2, rfl, k0, k2, rfl, hi, hcw, hlen⟩ hsat2
  exact sqLast Y hs hi hcw hlen k0 k2 hsat2 (fun a' w' hd h => hret a' w' hd h .normal (.inr rfl))
end Go.Proofs.YtejjlojfgcgopaaGreatDoor

namespace Go.Proofs.Fw
open Go.RowKit
section
variable {l : Nat} {g g1 : Gh} {H H1 : AH} {w w1 : World}
theorem Rel.allocF (R : Rel g H w) (o : Obj) : Rel g H (w.alloc o) where
  imm := fun b i v hb => (cell?_of_heap (Below.heap_alloc w o b (R.lt hb))).trans (R.imm b i v hb)
  free := R.free
  ent := fun id e he hne => by
    obtain ⟨ge, hM, hr⟩ := R.ent id e he hne
    exact ⟨ge, hM, hr.keep g.le_refl (Below.heap_alloc w o _ (R.blk id ge hM)) (fun _ => rfl)⟩
  inj := R.inj
  blk := fun id e he => by have := R.blk id e he; simp; omega
theorem Post.allocF (g : Gh) (H : AH) (w : World) (o : Obj) : Post g H w g H (w.alloc o) :=
  ⟨g.le_refl, fun _ h => ⟨rfl, h⟩, fun _ e h => .inl ⟨e, h, rfl⟩, fun b hb _ => ⟨Below.heap_alloc w o b hb, fun _ => rfl⟩, by simp, rfl, rfl, rfl⟩
theorem noG_of (R : Rel g H w) (h : ∀ i, w.cell? ⟨l, i, none⟩ = none) (i : Nat) : g.G l i = none := by
  cases hG : g.G l i with
  | none => rfl
  | some v => have := R.imm l i v hG; rw [h] at this; cases this
theorem Rel.putO (R : Rel g H w) (h : ∀ i, w.cell? ⟨l, i, none⟩ = none) (hfr : ∀ id ge, g.M id = some ge → ge.block ≠ l) (o : Obj) : Rel g H (w.putObj l o) where
  imm := fun b i v hb => by
    have hne : b ≠ l := fun he => by subst he; rw [noG_of R h] at hb; cases hb
    exact (cell?_of_heap (World.putObj_heap_other hne)).trans (R.imm b i v hb)
  free := R.free
  ent := fun id e he hne => by
    obtain ⟨ge, hM, hr⟩ := R.ent id e he hne
    exact ⟨ge, hM, hr.keep g.le_refl (World.putObj_heap_other (hfr id ge hM)) (fun _ => rfl)⟩
  inj := R.inj
  blk := fun id e he => by rw [World.putObj_size]; exact R.blk id e he
theorem noCell_def {w : World} {l : Nat} {d : Option (List Deferred)} (h : w.heap[l]? = some (.deferred d)) (i : Nat) : w.cell? ⟨l, i, none⟩ = none := by simp only [World.cell?, h]
theorem Post.putF (p : Post g H w g1 H1 w1) (h : w.heap.size ≤ l) (o : Obj) : Post g H w g1 H1 (w1.putObj l o) :=
  ⟨p.le, p.hid, p.new, fun b hb hn => by
    obtain ⟨h1, h2⟩ := p.old b hb hn
    exact ⟨(World.putObj_heap_other (by omega)).trans h1, h2⟩, by rw [World.putObj_size]; exact p.size, p.os, p.tape, p.output⟩
end
end Go.Proofs.Fw
namespace Go.Proofs.YtejjlojfgcgopaaGreatDoor
open Go.RowKit Go.Proofs.Fw
set_option maxRecDepth 100000
set_option maxHeartbeats 4000000
@[simp] theorem buFault02 (s : List UInt8) (c : Int) : abuild Tryz.prog 156 [(0, .str s), (2, .iface 134 (.int .i64 c))] = some (.agg [.str s, .int .i64 0, .iface 134 (.int .i64 c)]) := by kernel_rfl
theorem lsplitLong_cs (s : List UInt8) (hs : s.length < 1000000) (hl : 65536 < s.length) (H : AH) : CS Tryz.prog envS 79 [.str s] H (.tup [strE.av (splitW s).1, erI (splitW s).2]) H := by
  have h1 : splitW s = ([], some ([(textTxt, 0)], 4)) := by unfold splitW; rw [if_pos hl]
  rw [h1]
  have hz : erI (some ([(textTxt, 0)], 4)) = .iface 152 (.vptr [.str textTxt, .int .i64 0, .iface 134 (.int .i64 4)] 0) := rfl
  rw [hz]
  have hl' : (65536 : Int) < s.length := by omega
  refine CS.tr0 lowS Tryz.func79 (by kernel_rfl) 0 (by simp [Tryz.f79]) (fun B hB hG => ?_) (by simp) (by simp) H
  refine Tr.goD oNilS hG (by kernel_rfl) ?_
  simp [Tryz.f79, hl', hl, textTxt]
theorem lsplit_fin {g : Gh} {w : World} (R : Rel g [] w) {g8 : Gh} {w8 : World} {e : Er} {v0 : AV} {ls : List (List UInt8)} {K : AH} (R8 : Rel g8 (some (.box [v0]) :: some (.box [erI e]) :: K) w8) (p8 : Post g [] w g8 (some (.box [v0]) :: some (.box [erI e]) :: K) w8)
    (hv : strip 0 v0 = strE.av ls) (hone : v0.one = true) {L : List (Nat × AV)} (h2 : L.lookup 2 = some (.ptr 0 0)) (h3 : L.lookup 3 = some (.ptr 1 0)) {tmps : Array Value} (hT : RepL g8 (mkT 34 L) tmps.toList) :
    ∃ v, (results Tryz.f79 tmps).run Tryz.prog w8 = .ok v w8 ∧ ∃ g' cv, Ending.returned v = .returned cv ∧ Rel g' [] w8 ∧ Post g [] w g' [] w8 ∧ RepV g' (.tup [strE.av ls, erI e]) cv := by
  have hev : evResults Tryz.prog (some (.box [v0]) :: some (.box [erI e]) :: K) (mkT 34 L) Tryz.f79.results.toList = some [v0, erI e] := by
    simp [Tryz.f79, mkT_getD, h2, h3]
  obtain ⟨us, h5, h6⟩ := evResults_ok (P := Tryz.prog) R8 hT _ _ hev
  have hres : (results Tryz.f79 tmps).run Tryz.prog w8 = .ok (if hs : (List.toArray us).size = 1 then (List.toArray us)[0] else .tuple (List.toArray us)) w8 := by
    have e1 : results Tryz.f79 tmps = (do let vs ← Tryz.f79.results.mapM (resSem tmps); pure (if hs : vs.size = 1 then vs[0] else .tuple vs)) := rfl
    rw [e1, Array.mapM_eq_mapM_toList]
    simp only [Sem.run_bind, Sem.run_map, h6, Result.andThen_ok]
    rfl
  have hst : strip 0 (frz 0 (some (.box [v0]) :: some (.box [erI e]) :: K) 0 (oneOrTup [v0, erI e])) = .tup [strE.av ls, erI e] := by
    simp [oneOrTup, frz, strip, stripL, hv]
  obtain ⟨g2, k1, k2, k3⟩ := Rel.gc_end R R8 p8 (oneOrTup_ok h5) 0 (by rw [List.length_nil, hst]; simp [low, lowL]) (by simp)
  rw [List.length_nil, hst] at k3
  rw [List.length_nil, List.take_zero] at k1 k2
  exact ⟨_, hres, g2, _, rfl, k1, k2, k3⟩
end Go.Proofs.YtejjlojfgcgopaaGreatDoor

namespace Go.Proofs.Fw
open Go.RowKit
theorem orP_strong {P : Program} {E : Env} {f0 : FuncId} {a0 : List AV} {H0 : AH} {v0 : AV} {H1 : AH} {O : Orc} (h : CS P E f0 a0 H0 v0 H1) (hk : Keeps H0 H1) (X : Cx O P E) : Cx (orP f0 a0 H0 v0 H1 O) P E :=
  ⟨fun f args H v H' ho => by
    unfold orP at ho
    split at ho
    · rename_i hc
      obtain ⟨rfl, rfl, rfl⟩ := hc
      injection ho with ho
      simp only [Prod.mk.injEq] at ho
      obtain ⟨rfl, rfl⟩ := ho
      exact ⟨h, hk⟩
    · exact X.sound f args H v H' ho, X.meth, X.mix⟩
theorem callFunc_run {P : Program} {i : FuncId} (hg : goFn P i = true) (xs : Array Value) (w : World) : (callFunc i xs).run P w = .ok (.enter i xs) w := by
  unfold goFn at hg
  unfold callFunc
  simp only [Sem.run_bind, run_program, Result.andThen_ok]
  split at hg
  · rename_i fn hfn
    simp only [Bool.and_eq_true, Bool.not_eq_true'] at hg
    simp only [hfn]
    rw [if_neg (by rw [hg.2]; simp)]
    have : fn.body.isNone = false := by cases hb : fn.body <;> simp_all
    rw [this]
    rfl
  · cases hg
theorem fn_eval {g : Gh} {t : List AV} {a : Act} {k : Nat} {f : FuncId} {caps : List AV} (hT : RepL g t a.tmps.toList) (h : t[k]? = some (.func (.func f) [] caps)) : ∃ cs, a.eval (.tmp k) = .func (.func f) #[] (List.toArray cs) ∧ RepL g caps cs := by
  obtain ⟨v, h1, h2⟩ := hT.get h
  simp only [RepV, RepL] at h2
  obtain ⟨fs, cs, rfl, rfl, h3⟩ := h2
  refine ⟨cs, ?_, h3⟩
  show a.tmps.getD k undef = _
  rw [Array.getD_eq_getD_getElem?, ← Array.getElem?_toList, h1]
  rfl
end Go.Proofs.Fw
namespace Go.Proofs.YtejjlojfgcgopaaGreatDoor
open Go.RowKit Go.Proofs.Fw
set_option maxRecDepth 100000
set_option maxHeartbeats 4000000
noncomputable def lsB : Code := bodyOf Tryz.f79
noncomputable def ls0 : Code := fstC lsB
noncomputable def ls1 : Code := fstC (sndC lsB)
noncomputable def ls3 : Code := fstC (sndC (sndC lsB))
noncomputable def ls4 : Code := fstC (fstC (sndC (sndC (sndC lsB))))
noncomputable def ls5 : Code := sndC (sndC (sndC (sndC lsB)))
theorem lsB_eq : lsB = .seq ls0 (.seq ls1 (.seq ls3 (.seq (.seq ls4 (.block 0 (.rangeFunc (.tmp 15) #[16] splitA splitB))) ls5))) := by kernel_rfl
theorem ls_head {B : Bs} (hG : GlobOk envS B.g) (s : List UInt8) (hl : s.length ≤ 65536) {Q : Exit → Act → World → Prop} {a : Act} {w : World} (hs : SatD B [] (mkT 34 [(0, .str s)]) [] a w)
    (hk : ∀ a' w', SatD B [] (mkT 34 [(2, .ptr 0 0), (3, .ptr 1 0), (4, .ptr 2 0), (15, .func (.func 198) [] [.ptr 4 0, .ptr 3 0, .ptr 5 0])]) (hS none [] s) a' w' →
      (Code.block 0 (.rangeFunc (.tmp 15) #[16] splitA splitB)).wpIn (wideF none) 0 Tryz.prog (Exit.then (ls5.wpIn (wideF none) 0 Tryz.prog Q) Q) a' w') : lsB.wpIn (wideF none) 0 Tryz.prog Q a w := by
  have hl1 : ¬ (65536 : Int) < s.length := by omega
  have hl2 : ¬ 65536 < s.length := by omega
  rw [lsB_eq]
  have t0 : TrR none Tryz.prog B (fun _ => False) [] ls0 (mkT 34 [(0, .str s)]) [] (fun e t H => e = .normal ∧ t = mkT 34 [(3, .ptr 1 0), (2, .ptr 0 0), (0, .str s)] ∧ H = [some (.box [.nilSlice]), some (.box [.nilIface])]) := by
    refine TrR.go oNilS hG [] (by kernel_rfl) ?_
    simp [ls0, lsB, fstC, sndC, Tryz.f79]
  refine wpIn_seq (t0 _ a w hs ?_ (fun _ _ _ h => h.elim))
  rintro ex t1 H1 a1 w1 ⟨rfl, rfl, rfl⟩ hs1
  have t1 : TrR none Tryz.prog B (fun _ => False) [] ls1 (mkT 34 [(3, .ptr 1 0), (2, .ptr 0 0), (0, .str s)]) [some (.box [.nilSlice]), some (.box [.nilIface])] (fun e t H => e = .normal ∧ (∃ L, t = mkT 34 L ∧ ∀ p ∈ ([(3, .ptr 1 0), (2, .ptr 0 0), (0, .str s)] : List (Nat × AV)), (L.lookup p.1).getD .undef = p.2 ∧ low 100 p.2 = true) ∧ H = [some (.box [.nilSlice]), some (.box [.nilIface])]) := by
    refine TrR.go oNilS hG [] (by kernel_rfl) ?_
    simp [ls1, lsB, fstC, sndC, Tryz.f79, hl1, hl2]
    exact ⟨_, rfl, by simp [List.lookup]⟩
  refine wpIn_seq (t1 _ a1 w1 hs1 ?_ (fun _ _ _ h => h.elim))
  rintro ex t2 H2 a2 w2 ⟨rfl, ⟨L, rfl, hL⟩, rfl⟩ ⟨g2, R2, p2, hT2, hd2⟩
  have hT2' : RepL g2 (mkT 34 [(3, .ptr 1 0), (2, .ptr 0 0), (0, .str s)]) a2.tmps.toList := WkL.rep (m := 100) (WkL.mkT fun p hp => .same (hL p hp).1 (hL p hp).2) hT2
  have t3 : TrR none Tryz.prog B (fun _ => False) [] ls3 (mkT 34 [(3, .ptr 1 0), (2, .ptr 0 0), (0, .str s)]) [some (.box [.nilSlice]), some (.box [.nilIface])] (fun e t H => e = .normal ∧ t = mkT 34 [(4, .ptr 2 0), (3, .ptr 1 0), (2, .ptr 0 0), (0, .str s)] ∧ H = [some (.box [.nilSlice]), some (.box [.nilIface]), some (.box [.nilSlice])]) := by
    refine TrR.go oNilS hG [] (by kernel_rfl) ?_
    simp [ls3, lsB, fstC, sndC, Tryz.f79]
  refine wpIn_seq (t3 _ a2 w2 ⟨g2, R2, p2, hT2', hd2⟩ ?_ (fun _ _ _ h => h.elim))
  rintro ex t3 H3 a3 w3 ⟨rfl, rfl, rfl⟩ hs3
  have t4 : TrR none Tryz.prog B (fun _ => False) [] ls4 (mkT 34 [(4, .ptr 2 0), (3, .ptr 1 0), (2, .ptr 0 0), (0, .str s)]) [some (.box [.nilSlice]), some (.box [.nilIface]), some (.box [.nilSlice])] (fun e t H => e = .normal ∧ (∃ L, t = mkT 34 L ∧ ∀ p ∈ ([(2, .ptr 0 0), (3, .ptr 1 0), (4, .ptr 2 0), (15, .func (.func 198) [] [.ptr 4 0, .ptr 3 0, .ptr 5 0])] : List (Nat × AV)), (L.lookup p.1).getD .undef = p.2 ∧ low 100 p.2 = true) ∧ H = hS none [] s) := by
    have X := orP_strong (saSeq3_cs s [.nilSlice] [.nilIface] [.nilSlice]) ⟨by simp [seqH], fun id hid h => by
      simp only [List.length_cons, List.length_nil, Nat.zero_add, Nat.reduceAdd] at hid
      rcases (by omega : id = 0 ∨ id = 1 ∨ id = 2) with rfl | rfl | rfl <;> cases h⟩ oNilS
    have hO := orP_at 125 [.str s, .str [10]] [some (.box [.nilSlice]), some (.box [.nilIface]), some (.box [.nilSlice])] (.func (.func 198) [] [.ptr 4 0, .ptr 3 0, .ptr 5 0]) ([some (.box [.nilSlice]), some (.box [.nilIface]), some (.box [.nilSlice])] ++ seqH s) oNil
    generalize orP 125 [.str s, .str [10]] [some (.box [.nilSlice]), some (.box [.nilIface]), some (.box [.nilSlice])] (.func (.func 198) [] [.ptr 4 0, .ptr 3 0, .ptr 5 0]) ([some (.box [.nilSlice]), some (.box [.nilIface]), some (.box [.nilSlice])] ++ seqH s) oNil = O at X hO
    refine TrR.go X hG [] (by kernel_rfl) ?_
    simp [ls4, lsB, fstC, sndC, Tryz.f79, hO]
    exact ⟨⟨_, rfl, by simp [List.lookup]⟩, rfl⟩
  refine wpIn_seq (wpIn_seq (t4 _ a3 w3 hs3 ?_ (fun _ _ _ h => h.elim)))
  rintro ex t4 H4 a4 w4 ⟨rfl, ⟨L4, rfl, hL4⟩, rfl⟩ ⟨g4, R4, p4, hT4, hd4⟩
  exact hk a4 w4 ⟨g4, R4, p4, WkL.rep (m := 100) (WkL.mkT fun p hp => .same (hL4 p hp).1 (hL4 p hp).2) hT4, hd4⟩
def LsE (g : Gh) (w : World) (s : List UInt8) : Ending → World → Prop := fun e w' => ∃ g' cv, e = .returned cv ∧ Rel g' [] w' ∧ Post g [] w g' [] w' ∧ RepV g' (.tup [strE.av (splitW s).1, erI (splitW s).2]) cv
def LsQ (g : Gh) (w : World) (s : List UInt8) : Exit → Act → World → Prop := bodyPostM (wideF none) 0 Tryz.prog Tryz.f79 (LsE g w s)
theorem ls_leave {g : Gh} {w : World} (R : Rel g [] w) {s : List UInt8} {g7 : Gh} {w7 : World} {e : Er} {v0 : AV} {ls : List (List UInt8)} {K : AH} (R7 : Rel g7 (some (.box [v0]) :: some (.box [erI e]) :: K) w7) (p7 : Post g [] w g7 (some (.box [v0]) :: some (.box [erI e]) :: K) w7)
    (hv : strip 0 v0 = strE.av ls) (hone : v0.one = true) (hs : splitW s = (ls, e)) {L : List (Nat × AV)} (h2 : L.lookup 2 = some (.ptr 0 0)) (h3 : L.lookup 3 = some (.ptr 1 0)) {a : Act} (hT : RepL g7 (mkT 34 L) a.tmps.toList)
    {D : Nat} (hd : a.defers = [{ target := .collected D, args := #[] }]) (hD : w7.heap[D]? = some (.deferred (some []))) (hfr : ∀ id ge, g7.M id = some ge → ge.block ≠ D) (hw : w.heap.size ≤ D) : LsQ g w s .ret a w7 := by
  show LeavesInM _ _ _ _ _ _ a.defers .returning w7
  rw [hd]
  refine ⟨by simp, .inl ⟨_, _, rfl, run_takeDeferred hD, ?_⟩⟩
  obtain ⟨v, hr, g', cv, h1, h4, h5, h6⟩ := lsplit_fin R (R7.putO (noCell_def hD) hfr (.deferred none)) (p7.putF hw (.deferred none)) hv hone h2 h3 hT
  injection h1 with h1
  subst h1
  refine ⟨v, hr, g', v, rfl, h4, h5, ?_⟩
  rw [hs]
  exact h6
theorem ls_range {g : Gh} {w : World} (R : Rel g [] w) (hG : GlobOk envS g) {s : List UInt8} (hl : s.length ≤ 65536) {a : Act} {w4 : World} (hs : SatD ⟨g, [], w, R⟩ [] (mkT 34 [(2, .ptr 0 0), (3, .ptr 1 0), (4, .ptr 2 0), (15, .func (.func 198) [] [.ptr 4 0, .ptr 3 0, .ptr 5 0])]) (hS none [] s) a w4) :
    (Code.block 0 (.rangeFunc (.tmp 15) #[16] splitA splitB)).wpIn (wideF none) 0 Tryz.prog (Exit.then (ls5.wpIn (wideF none) 0 Tryz.prog (LsQ g w s)) (LsQ g w s)) a w4 := by
  obtain ⟨g4, R4, p4, hT4, hd4⟩ := hs
  have p4 : Post g [] w g4 (hS none [] s) w4 := p4
  obtain ⟨cs, hev, hcs⟩ := fn_eval hT4 (k := 15) (f := 198) (caps := [.ptr 4 0, .ptr 3 0, .ptr 5 0]) (by simp [mkT_get, List.lookup])
  refine wpIn_block (wpIn_rangeFunc fun fn _ => ?_)
  have hT5 : RepL g4 (mkT 34 [(2, .ptr 0 0), (3, .ptr 1 0), (4, .ptr 2 0)]) a.tmps.toList := by
    have hh : ∀ p ∈ ([(2, .ptr 0 0), (3, .ptr 1 0), (4, .ptr 2 0)] : List (Nat × AV)), (([(2, .ptr 0 0), (3, .ptr 1 0), (4, .ptr 2 0), (15, .func (.func 198) [] [.ptr 4 0, .ptr 3 0, .ptr 5 0])] : List (Nat × AV)).lookup p.1).getD .undef = p.2 ∧ low 100 p.2 = true := by simp
    exact WkL.rep (m := 100) (WkL.mkT fun p hp => .same (hh p hp).1 (hh p hp).2) hT4
  generalize hD : w4.heap.size = D
  obtain ⟨w5, hw5⟩ : ∃ w5, (w4.alloc (.deferred (some []))).alloc (.loop (recS fn a.tmps D .ready none)) = w5 := ⟨_, rfl⟩
  have R5 : Rel g4 (hS none [] s) w5 := by rw [← hw5]; exact (R4.allocF _).allocF _
  have p5 : Post g4 (hS none [] s) w4 g4 (hS none [] s) w5 := by rw [← hw5]; exact Post.trans R4 (Post.allocF _ _ _ _) (Post.allocF _ _ _ _)
  have hl5 : w5.heap[D + 1]? = some (.loop (recS fn a.tmps D .ready none)) := by
    rw [← hw5, ← hD]
    have := World.alloc_heap_new (w4.alloc (.deferred (some []))) (.loop (recS fn a.tmps w4.heap.size .ready none))
    rwa [World.size_alloc] at this
  have hD5 : w5.heap[D]? = some (.deferred (some [])) := by
    rw [← hw5, ← hD]
    exact (Below.heap_alloc _ _ _ (by simp)).trans (World.alloc_heap_new w4 _)
  have hfr : ∀ id ge, g4.M id = some ge → ge.block < D := fun id ge h => by have := R4.blk id ge h; omega
  have hlt5 : D + 1 < w5.heap.size := (Array.getElem?_eq_some_iff.1 hl5).1
  have Y : Yl ⟨g4, hS none [] s, w5, R5⟩ (D + 1) D fn a.tmps := ⟨hl5, fun id ge h => by have := hfr id ge h; omega, hT5, hG.mono p4.le⟩
  refine ⟨D + 1, [{ target := .collected D, args := #[] }], w5, { target := .fn (.func 198) (List.toArray cs), args := #[.func (.yield (D + 1)) #[] #[]] }, w5, 198,
    List.toArray (.func (.yield (D + 1)) #[] #[] :: cs), w5, ?_, ?_, fun _ _ => trivial, ?_, (fun h => by cases h), ?_⟩
  · rw [← hw5, ← hD]; exact run_enterLoop_outer _ _ _ _ _
  · simp only [resolve, hev]
    simp [go_sem]
  · have hc := callFunc_run (P := Tryz.prog) (i := 198) (by kernel_rfl) (#[.func (.yield (D + 1)) #[] #[]] ++ List.toArray cs) w5
    first
    | (simp [invoke]; done)
    | (simpa [invoke] using hc)
  · refine (seq_calls Y rfl (by omega) (cargs := .func (.yield (D + 1)) #[] #[] :: cs) ?_).mono ?_
    · simp only [RepL]
      exact ⟨_, _, rfl, by simp [RepV, RepL], hcs⟩
    rintro e w6 ⟨⟨v, rfl⟩, g6, H6, ls, st, pe, R6, q6, hl6, hr⟩
    have q6 : PostL (D + 1) g4 (hS none [] s) w5 g6 H6 w6 := q6
    have hfr6 : ∀ id ge, g6.M id = some ge → ge.block ≠ D + 1 := q6.foreign hlt5 (fun id ge h => by have := hfr id ge h; omega)
    have hfrD : ∀ id ge, g6.M id = some ge → ge.block ≠ D := q6.foreign (by omega) (fun id ge h => by have := hfr id ge h; omega)
    have hst : st ≠ .busy := by rcases hr with ⟨rfl, _⟩ | ⟨rfl, _⟩ | ⟨rfl, _⟩ <;> simp
    have hend := run_endLoop (P := Tryz.prog) hl6 hst
    obtain ⟨w7, hw7⟩ : ∃ w7, w6.putObj (D + 1) (.loop { recS fn a.tmps D st pe with state := .exhausted }) = w7 := ⟨_, rfl⟩
    rw [hw7] at hend
    have R7 : Rel g6 H6 w7 := by rw [← hw7]; exact R6.putF hl6 hfr6 _
    have q7 : PostL (D + 1) g4 (hS none [] s) w5 g6 H6 w7 := by rw [← hw7]; exact q6.trans R5 (PostL.put _ _ _ _ _)
    have hD7 : w7.heap[D]? = some (.deferred (some [])) := ((q7.old D (by omega) (by omega) (fun id e ge _ _ hM => by have := hfr id ge hM; omega)).1).trans hD5
    have hwD : w.heap.size ≤ D := by rw [← hD]; exact p4.size
    have p7 : Post g [] w g6 H6 w7 := ((PostL.of (l := D + 1) (Post.trans R p4 p5)).trans R q7).post (.inl (by omega))
    have hT6 : RepL g6 (mkT 34 [(2, .ptr 0 0), (3, .ptr 1 0), (4, .ptr 2 0)]) a.tmps.toList := RepL.mono q7.le _ _ hT5
    have go : ∀ rest, H6 = hS none ls rest → contW [] s = (ls, none) → ls5.wpIn (wideF none) 0 Tryz.prog (LsQ g w s) { a with defers := [{ target := .collected D, args := #[] }] ++ a.defers } w7 := by
      intro rest hH hc
      subst hH
      have t5 : TrR none Tryz.prog ⟨g6, hS none ls rest, w7, R7⟩ (fun _ => False) [{ target := .collected D, args := #[] }] ls5 (mkT 34 [(2, .ptr 0 0), (3, .ptr 1 0), (4, .ptr 2 0)]) (hS none ls rest) (fun e t H => e = .ret ∧ (∃ L, t = mkT 34 L ∧ ∀ p ∈ ([(2, .ptr 0 0), (3, .ptr 1 0)] : List (Nat × AV)), L.lookup p.1 = some p.2) ∧ ∃ K, H = some (.box [strE.tk 6 ls]) :: some (.box [erI none]) :: K) := by
        refine TrR.go oNilS (hG.mono p7.le) [] (by kernel_rfl) ?_
        unfold hS
        by_cases hls : ls = []
        · subst hls
          simp [ls5, lsB, fstC, sndC, Tryz.f79]
          exact ⟨_, rfl, by simp [List.lookup]⟩
        · simp [ls5, lsB, fstC, sndC, Tryz.f79, hls]
          exact ⟨_, rfl, by simp [List.lookup]⟩
      refine t5 _ _ w7 ⟨g6, R7, Post.refl _ _ _, hT6, by rw [hd4]; rfl⟩ ?_ (fun _ _ _ h => h.elim)
      rintro ex t8 H8 a8 w8 ⟨rfl, ⟨L, rfl, hL⟩, K, rfl⟩ ⟨g8, R8, p8, hT8, hd8⟩
      have p8 : Post g6 (hS none ls rest) w7 g8 _ w8 := p8
      have hf8 := Post.foreign R7 p8 (Array.getElem?_eq_some_iff.1 hD7).1 hfrD
      exact ls_leave R R8 (Post.trans R p7 p8) (v0 := strE.tk 6 ls) (ls := ls) (strE.tk_cut (by decide) ls) (strE.tk_one 6 ls) (by rw [splitW_cont s hl, hc]) (hL (2, .ptr 0 0) (by simp)) (hL (3, .ptr 1 0) (by simp)) hT8 hd8 (hf8.1.trans hD7) hf8.2 hwD
    refine ⟨pe, w7, hend, ?_⟩
    rcases hr with ⟨rfl, rfl, rest, hH, hc⟩ | ⟨rfl, rfl, rest, hH, hc⟩ | ⟨rfl, rfl, rest, e, hH, hc⟩
    · exact go rest hH hc
    · exact wpIn_exit (go rest hH hc)
    · subst hH
      refine wpIn_ret ?_
      exact ls_leave R R7 p7 (v0 := .nilSlice) (ls := []) rfl rfl (by rw [splitW_cont s hl, hc]) (by simp [List.lookup]) (by simp [List.lookup]) hT6 (by rw [hd4]; rfl) hD7 hfrD hwD
theorem lsplitS_cs (s : List UInt8) (hl : s.length ≤ 65536) : CS Tryz.prog envS 79 [.str s] [] (.tup [strE.av (splitW s).1, erI (splitW s).2]) [] := by
  intro g w cargs R hG hA
  refine calls_wideF (n := 0) (callsIn_of_wp_marks Tryz.func79 (show (Tryz.f79).body = some lsB by kernel_rfl) trivial ?_)
  have hT : RepL g (mkT 34 (argL 0 [.str s])) (List.toArray cargs ++ Array.replicate ((Tryz.f79).ntmps - (List.toArray cargs).size) undef).toList := by
    refine RepL.mkT_args (by simp) ?_
    simp only [Array.toList_append, Array.toList_replicate, List.size_toArray, hA.length]
    exact hA.append (RepL.replicate _ (by simp [AV.nothing, RepV, RepL, undef]))
  exact ls_head (B := ⟨g, [], w, R⟩) hG s hl ⟨g, R, Post.refl _ _ _, hT, rfl⟩ (fun a' w' h => ls_range R hG hl h)
theorem lsplit_cs (s : List UInt8) (hs : s.length < 1000000) (H : AH) : CS Tryz.prog envS 79 [.str s] H (.tup [strE.av (splitW s).1, erI (splitW s).2]) H := by
  by_cases hl : s.length ≤ 65536
  · exact CS.frame (lsplitS_cs s hl) lowS rfl H
  · exact lsplitLong_cs s hs (by omega) H
end Go.Proofs.YtejjlojfgcgopaaGreatDoor
