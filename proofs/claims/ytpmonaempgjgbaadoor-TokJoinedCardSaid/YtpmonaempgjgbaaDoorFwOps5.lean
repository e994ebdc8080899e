/- What an operation is told to do, it does: parts of strings, slices, structs. -/
import Derived.Test.YtpmonaempgjgbaaDoorFwOps4
namespace Go.Proofs.Fw
open Go.RowKit
variable {P : Program} {g : Gh} {H : AH} {w : World}

theorem optInt_ok {o : Option AV} {l : Option Int} (h : optInt o = some l) {ov : Option Value} (ho : ∀ x, o = some x → ∃ v, ov = some v ∧ RepV g x v) (hn : o = none → ov = none) :
    (l = none ∧ ov = none) ∨ ∃ k n, l = some n ∧ ov = some (.int k n) := by
  unfold optInt at h
  split at h
  · injection h with h; subst h; exact .inl ⟨rfl, hn rfl⟩
  · rename_i k n
    injection h with h; subst h
    obtain ⟨v, hv, hr⟩ := ho _ rfl
    simp only [RepV] at hr
    subst hr
    exact .inr ⟨k, n, rfl, hv⟩
  · cases h

theorem sliceBounds_ok {isS : Bool} {n c : Nat} {l h : Option Int} {lo hi : Option Value} (hl : (l = none ∧ lo = none) ∨ ∃ k m, l = some m ∧ lo = some (.int k m)) (hh : (h = none ∧ hi = none) ∨ ∃ k m, h = some m ∧ hi = some (.int k m))
    (h0 : 0 ≤ l.getD 0) (h1 : l.getD 0 ≤ h.getD n) (h2 : h.getD n ≤ n) (hc : n ≤ c) :
    (Instr.sliceBounds isS n c lo hi none).run P w = .ok ((l.getD 0).toNat, (h.getD n).toNat, c) w := by
  have hb : ∀ (k : IntKind) (m : Int) (y : Nat) (code : BoundsCode), 0 ≤ m → m ≤ y → (Instr.sliceBound (.int k m) y code).run P w = .ok m.toNat w := by
    intro k m y code ha hb
    simp [Instr.sliceBound, asIntOf, ha, hb]
  rcases hh with ⟨rfl, rfl⟩ | ⟨k, m, rfl, rfl⟩
  · rcases hl with ⟨rfl, rfl⟩ | ⟨k', m', rfl, rfl⟩
    · simp [Instr.sliceBounds]
    · simp only [Option.getD_some, Option.getD_none] at h0 h1 h2 ⊢
      simp only [Instr.sliceBounds, Sem.run_bind, Sem.run_pure, Result.andThen_ok]
      rw [hb _ _ _ _ h0 h1]
      simp
  · simp only [Option.getD_some] at h1 h2
    rcases hl with ⟨rfl, rfl⟩ | ⟨k', m', rfl, rfl⟩
    · simp only [Option.getD_none, Option.getD_some] at h0 h1 ⊢
      simp only [Instr.sliceBounds, Sem.run_bind, Sem.run_pure, Result.andThen_ok]
      rw [hb _ _ _ _ h1 (by omega)]
      simp
    · simp only [Option.getD_some] at h0 h1 ⊢
      simp only [Instr.sliceBounds, Sem.run_bind, Sem.run_pure, Result.andThen_ok]
      rw [hb _ _ _ _ (by omega) (by omega)]
      simp only [Result.andThen_ok]
      rw [hb _ _ _ _ h0 (by omega)]
      simp

theorem sliceBounds3_ok {isS : Bool} {n c : Nat} {l : Option Int} {m : Int} {lo hi mx : Option Value} {k k2 : IntKind} (hl : (l = none ∧ lo = none) ∨ ∃ k m, l = some m ∧ lo = some (.int k m)) (hh : hi = some (.int k m)) (hm : mx = some (.int k2 m))
    (h0 : 0 ≤ l.getD 0) (h1 : l.getD 0 ≤ m) (h2 : m ≤ n) (hc : n ≤ c) :
    (Instr.sliceBounds isS n c lo hi mx).run P w = .ok ((l.getD 0).toNat, m.toNat, m.toNat) w := by
  have hb : ∀ (k : IntKind) (m : Int) (y : Nat) (code : BoundsCode), 0 ≤ m → m ≤ y → (Instr.sliceBound (.int k m) y code).run P w = .ok m.toNat w := by
    intro k m y code ha hb
    simp [Instr.sliceBound, asIntOf, ha, hb]
  subst hh hm
  rcases hl with ⟨rfl, rfl⟩ | ⟨k', m', rfl, rfl⟩
  · simp only [Option.getD_none] at h0 h1 ⊢
    simp only [Instr.sliceBounds, Sem.run_bind, Sem.run_pure, Result.andThen_ok]
    rw [hb _ _ _ _ h1 (by omega)]
    simp only [Result.andThen_ok]
    rw [hb _ _ _ _ h1 (by omega)]
    simp
  · simp only [Option.getD_some] at h0 h1 ⊢
    simp only [Instr.sliceBounds, Sem.run_bind, Sem.run_pure]
    rw [hb _ _ _ _ (by omega) (by omega)]
    simp only [Result.andThen_ok]
    rw [hb _ _ _ _ (by omega) (by omega)]
    simp only [Result.andThen_ok]
    rw [hb _ _ _ _ h0 (by omega)]
    simp

/-- A part of a slice. -/
theorem cut_ok {ow' : Own} {sz n a b : Nat} {cs : List AV} {bk o cap' : Nat} {vs : List Value} (hr : RepL g cs vs) (hh : g.has bk o vs) (hl : cs.length = n * sz) (hab : a ≤ b) (hbn : b ≤ n)
    (ha : Nat) (hae : ha = o + a * sz ∨ b = a) (hcap : b - a ≤ cap') (how : OwnOk g ow' sz (b - a) bk ha cap') :
    RepV g (.slice ow' sz (b - a) ((cs.drop (a * sz)).take ((b - a) * sz))) (.slice (some ⟨bk, ha, none⟩) (b - a) cap') := by
  simp only [RepV]
  refine ⟨bk, ha, cap', (vs.drop (a * sz)).take ((b - a) * sz), rfl, (hr.drop _).take _, ?_, ?_, hcap, how⟩
  · rcases hae with rfl | rfl
    · exact Gh.has_take (Gh.has_drop hh _) _
    · intro i v hi
      simp at hi
  · simp only [List.length_take, List.length_drop]
    have : a * sz + (b - a) * sz ≤ n * sz := by rw [← Nat.add_mul]; exact Nat.mul_le_mul_right _ (by omega)
    omega

theorem aslice_ok {t : TypeId} {x r : AV} {lo hi mx : Option AV} (h : aslice P t x lo hi mx = some r) {xv : Value} (hx : RepV g x xv) {lov hiv mxv : Option Value}
    (hlo : ∀ x, lo = some x → ∃ v, lov = some v ∧ RepV g x v) (hlon : lo = none → lov = none) (hhi : ∀ x, hi = some x → ∃ v, hiv = some v ∧ RepV g x v) (hhin : hi = none → hiv = none)
    (hmx : ∀ x, mx = some x → ∃ v, mxv = some v ∧ RepV g x v) (hmxn : mx = none → mxv = none) :
    ∃ rv, (Instr.sliceAt t xv lov hiv mxv).run P w = .ok rv w ∧ RepV g r rv := by
  unfold aslice at h
  split at h
  · rename_i l hh m h1 h2 h3
    have hl := optInt_ok h1 hlo hlon
    have hu := optInt_ok h2 hhi hhin
    have hm := optInt_ok h3 hmx hmxn
    split at h
    · rename_i s hut
      simp only [RepV] at hx; subst hx
      split at h
      · rename_i hc
        obtain ⟨rfl, c1, c2, c3⟩ := hc
        injection h with h; subst h
        have hmn : mxv = none := by rcases hm with ⟨_, h⟩ | ⟨_, _, h, _⟩ <;> simp_all
        subst hmn
        have hb := sliceBounds_ok (P := P) (w := w) (isS := false) (c := s.length) hl hu c1 c2 c3 (Nat.le_refl _)
        refine ⟨.string ⟨List.toArray ((s.take (hh.getD s.length).toNat).drop (l.getD 0).toNat)⟩, ?_, by simp only [RepV]⟩
        simp only [Instr.sliceAt, Sem.run_bind, run_underlying hut, Result.andThen_ok, Instr.slice]
        simp only [Option.isSome_none, Bool.false_eq_true, if_false, Sem.run_bind, size_mk, hb, Result.andThen_ok, extract_mk, Sem.run_pure]
      · cases h
    · rename_i e hut
      simp only [RepV] at hx; subst hx
      split at h
      · rename_i hc
        obtain ⟨rfl, c1, c2, c3⟩ := hc
        injection h with h; subst h
        have hmn : mxv = none := by rcases hm with ⟨_, h⟩ | ⟨_, _, h, _⟩ <;> simp_all
        subst hmn
        have hb := sliceBounds_ok (P := P) (w := w) (isS := true) (n := 0) (c := 0) hl hu (by omega) (by show l.getD 0 ≤ hh.getD 0; omega) (by show hh.getD 0 ≤ 0; omega) (Nat.le_refl _)
        obtain ⟨n, hn⟩ := Option.isSome_iff_exists.1 c3
        refine ⟨.slice none 0 0, ?_, by simp only [RepV]⟩
        have hh0 : hh.getD ((0 : Nat) : Int) = 0 := c2
        simp only [Instr.sliceAt, Sem.run_bind, run_underlying hut, Result.andThen_ok, Instr.slice, hb, run_size hn, Sem.run_pure, c1, hh0]
        rfl
      · cases h
    · rename_i e ow sz n cs hut
      simp only [RepV] at hx
      obtain ⟨bk, o, cap, vs, rfl, hr, hhas, hlen, hnc, how⟩ := hx
      split at h
      · rename_i sz' hsz
        split at h
        · rename_i hc
          obtain ⟨rfl, rfl, c1, c2, c3⟩ := hc
          injection h with h; subst h
          have hmn : mxv = none := by rcases hm with ⟨_, h⟩ | ⟨_, _, h, _⟩ <;> simp_all
          subst hmn
          have hb := sliceBounds_ok (P := P) (w := w) (isS := true) (c := cap) hl hu c1 c2 c3 hnc
          refine ⟨.slice (some ⟨bk, if cap = (l.getD 0).toNat then o else o + (l.getD 0).toNat * sz', none⟩) ((hh.getD n).toNat - (l.getD 0).toNat) (cap - (l.getD 0).toNat), ?_, ?_⟩
          · simp only [Instr.sliceAt, Sem.run_bind, run_underlying hut, Result.andThen_ok, Instr.slice, hb, run_size hsz, Sem.run_pure]
            split <;> simp [Addr.add_lit]
          · refine cut_ok hr hhas hlen (by omega) (by omega) _ ?_ (by omega) ?_
            · split
              · exact .inr (by omega)
              · exact .inl rfl
            · split
              · rename_i hbn
                split
                · rename_i ha0
                  simp only [ha0, hbn, Nat.sub_zero, Nat.zero_mul, Nat.add_zero, ite_self]
                  exact how
                · split
                  · rename_i hf
                    subst hf
                    simp only [OwnOk] at how ⊢
                    omega
                  · trivial
              · trivial
        · split at h
          · rename_i hc
            obtain ⟨rfl, rfl, c0, c1, c2, c3⟩ := hc
            injection h with h; subst h
            rcases hm with ⟨h, _⟩ | ⟨k, mm, rfl, hmv⟩
            · exact absurd h c0
            · rcases hu with ⟨h, _⟩ | ⟨k2, mm2, h, huv⟩
              · cases h
              · injection h with h; subst h
                simp only [Option.getD_some] at c2 c3 ⊢
                have hb := sliceBounds3_ok (P := P) (w := w) (isS := true) (c := cap) hl huv hmv c1 c2 c3 hnc
                refine ⟨.slice (some ⟨bk, if mm.toNat = (l.getD 0).toNat then o else o + (l.getD 0).toNat * sz', none⟩) (mm.toNat - (l.getD 0).toNat) (mm.toNat - (l.getD 0).toNat), ?_, ?_⟩
                · simp only [Instr.sliceAt, Sem.run_bind, run_underlying hut, Result.andThen_ok, Instr.slice, hb, run_size hsz, Sem.run_pure]
                  split <;> simp [Addr.add_lit]
                · refine cut_ok hr hhas hlen (by omega) (by omega) _ ?_ (Nat.le_refl _) rfl
                  split
                  · exact .inr (by omega)
                  · exact .inl rfl
          · cases h
      · cases h
    · rename_i e id off sz n c hut
      simp only [RepV] at hx
      obtain ⟨bk, hM, rfl, hnc⟩ := hx
      split at h
      · rename_i sz' hsz
        split at h
        · rename_i hc
          obtain ⟨rfl, rfl, c1, c2, c3⟩ := hc
          injection h with h; subst h
          have hmn : mxv = none := by rcases hm with ⟨_, h⟩ | ⟨_, _, h, _⟩ <;> simp_all
          subst hmn
          have hb := sliceBounds_ok (P := P) (w := w) (isS := true) (c := c) hl hu c1 c2 c3 hnc
          refine ⟨.slice (some ⟨bk, if c = (l.getD 0).toNat then off else off + (l.getD 0).toNat * sz', none⟩) ((hh.getD n).toNat - (l.getD 0).toNat) (c - (l.getD 0).toNat), ?_, ?_⟩
          · simp only [Instr.sliceAt, Sem.run_bind, run_underlying hut, Result.andThen_ok, Instr.slice, hb, run_size hsz, Sem.run_pure]
            split <;> simp [Addr.add_lit]
          · simp only [RepV]
            exact ⟨bk, hM, rfl, by omega⟩
        · cases h
      · cases h
    · rename_i q id off hut
      simp only [RepV] at hx
      obtain ⟨bk, hM, rfl⟩ := hx
      split at h
      · rename_i n e hq
        split at h
        · rename_i sz hsz
          split at h
          · rename_i hc
            obtain ⟨rfl, c1, c2, c3⟩ := hc
            injection h with h; subst h
            have hmn : mxv = none := by rcases hm with ⟨_, h⟩ | ⟨_, _, h, _⟩ <;> simp_all
            subst hmn
            have hb := sliceBounds_ok (P := P) (w := w) (isS := false) (c := n) hl hu c1 c2 c3 (Nat.le_refl _)
            refine ⟨.slice (some ⟨bk, if n = (l.getD 0).toNat then off else off + (l.getD 0).toNat * sz, none⟩) ((hh.getD n).toNat - (l.getD 0).toNat) (n - (l.getD 0).toNat), ?_, ?_⟩
            · simp only [Instr.sliceAt, Sem.run_bind, run_underlying hut, run_underlying hq, Result.andThen_ok, Instr.slice, hb, run_size hsz, Sem.run_pure, Instr.sureAddr, asAddr]
              split <;> simp [Addr.add_lit]
            · simp only [RepV]
              exact ⟨bk, hM, rfl, by omega⟩
          · cases h
        · cases h
      · cases h
    · cases h
  · cases h

theorem afieldAddr_ok {t : TypeId} {x r : AV} {i : Nat} (h : afieldAddr P t x i = some r) {xv : Value} (hx : RepV g x xv) : ∃ rv, (Instr.fieldAt t xv i).run P w = .ok rv w ∧ RepV g r rv := by
  unfold afieldAddr at h
  split at h
  · rename_i fields hu
    split at h
    · rename_i f hf
      split at h
      · rename_i n hn
        split at h
        · cases h
        · rename_i hn0
          split at h
          · rename_i id off
            injection h with h; subst h
            simp only [RepV] at hx
            obtain ⟨b, hM, rfl⟩ := hx
            refine ⟨.pointer (some ⟨b, off + f.offset, none⟩), ?_, by simp only [RepV]; exact ⟨b, hM, rfl⟩⟩
            simp only [Instr.fieldAt, Sem.run_bind, run_underlying hu, Result.andThen_ok, hf, Instr.sureAddr, Sem.run_pure, fieldPlace, run_size hn]
            rw [if_neg hn0]
            simp [Addr.add_lit]
          · rename_i cs off
            injection h with h; subst h
            simp only [RepV] at hx
            obtain ⟨b, o, vs, rfl, h1, h2⟩ := hx
            refine ⟨.pointer (some ⟨b, o + off + f.offset, none⟩), ?_, by simp only [RepV]; exact ⟨b, o, vs, by rw [Nat.add_assoc], h1, h2⟩⟩
            simp only [Instr.fieldAt, Sem.run_bind, run_underlying hu, Result.andThen_ok, hf, Instr.sureAddr, Sem.run_pure, fieldPlace, run_size hn]
            rw [if_neg hn0]
            simp [Addr.add_lit]
          · cases h
      · cases h
    · cases h
  · cases h

/-- A part of a value. -/
theorem part_ok {t : TypeId} {cs : List AV} {off : Nat} {r : AV} (h : ldAt P t cs off = some r) {vs : List Value} (hr : RepL g cs vs) :
    ∃ rv, (part t (List.toArray vs) off).run P w = .ok rv w ∧ RepV g r rv := by
  unfold ldAt at h
  split at h
  · rename_i ha
    split at h
    · rename_i n hn
      split at h
      · injection h with h; subst h
        refine ⟨.agg (List.toArray ((vs.drop off).take n)), ?_, by simp only [RepV]; exact ⟨_, rfl, (hr.drop off).take n⟩⟩
        simp only [part, Sem.run_bind, run_isAgg ha, Result.andThen_ok, if_true, run_size hn, Sem.run_pure]
        simp
      · cases h
    · cases h
  · rename_i ha
    obtain ⟨v, hv, hrep⟩ := hr.get h
    refine ⟨v, ?_, hrep⟩
    simp only [part, Sem.run_bind, run_isAgg ha, Result.andThen_ok, Bool.false_eq_true, if_false]
    have : (List.toArray vs)[off]? = some v := by simpa using hv
    simp only [this]
    rfl
  · cases h

theorem afield_ok {t : TypeId} {x r : AV} {i : Nat} (h : afield P t x i = some r) {xv : Value} (hx : RepV g x xv) : ∃ rv, (Instr.field t xv i).run P w = .ok rv w ∧ RepV g r rv := by
  unfold afield at h
  split at h
  · rename_i fields cs hu
    split at h
    · rename_i f hf
      simp only [RepV] at hx
      obtain ⟨vs, rfl, hr⟩ := hx
      obtain ⟨rv, h1, h2⟩ := part_ok (w := w) h hr
      refine ⟨rv, ?_, h2⟩
      simp only [Instr.field, Sem.run_bind, run_underlying hu, Result.andThen_ok, hf, asAgg, Sem.run_pure, h1]
    · cases h
  · cases h

theorem aindexAddr_ok {t : TypeId} {x i r : AV} (h : aindexAddr P t x i = some r) {xv iv : Value} (hx : RepV g x xv) (hi : RepV g i iv) : ∃ rv, (Instr.indexAt t xv iv).run P w = .ok rv w ∧ RepV g r rv := by
  unfold aindexAddr at h
  split at h
  · rename_i k i
    simp only [RepV] at hi; subst hi
    split at h
    · rename_i e ow sz n cs hu
      split at h
      · rename_i sz' hsz
        split at h
        · rename_i hc
          obtain ⟨rfl, c1, c2⟩ := hc
          injection h with h; subst h
          simp only [RepV] at hx
          obtain ⟨b, o, cap, vs, rfl, h1, h2, _⟩ := hx
          refine ⟨.pointer (some ⟨b, o + i.toNat * sz', none⟩), ?_, by simp only [RepV]; exact ⟨b, o, vs, rfl, h1, h2⟩⟩
          simp only [Instr.indexAt, asIntOf, Sem.run_bind, Sem.run_pure, run_underlying hu, Result.andThen_ok]
          rw [if_pos ⟨c1, c2⟩]
          simp [run_size hsz, Addr.add_lit]
        · cases h
      · cases h
    · rename_i e id off sz n c hu
      split at h
      · rename_i sz' hsz
        split at h
        · rename_i hc
          obtain ⟨rfl, c1, c2⟩ := hc
          injection h with h; subst h
          simp only [RepV] at hx
          obtain ⟨b, hM, rfl, _⟩ := hx
          refine ⟨.pointer (some ⟨b, off + i.toNat * sz', none⟩), ?_, by simp only [RepV]; exact ⟨b, hM, rfl⟩⟩
          simp only [Instr.indexAt, asIntOf, Sem.run_bind, Sem.run_pure, run_underlying hu, Result.andThen_ok]
          rw [if_pos ⟨c1, c2⟩]
          simp [run_size hsz, Addr.add_lit]
        · cases h
      · cases h
    · rename_i n e id off hu
      split at h
      · rename_i sz hsz
        split at h
        · rename_i hc
          injection h with h; subst h
          simp only [RepV] at hx
          obtain ⟨b, hM, rfl⟩ := hx
          refine ⟨.pointer (some ⟨b, off + i.toNat * sz, none⟩), ?_, by simp only [RepV]; exact ⟨b, hM, rfl⟩⟩
          simp only [Instr.indexAt, asIntOf, Sem.run_bind, Sem.run_pure, run_underlying hu, Result.andThen_ok, Instr.sureAddr]
          rw [if_pos hc]
          simp [run_size hsz, Addr.add_lit]
        · cases h
      · cases h
    · rename_i n e cs off hu
      split at h
      · rename_i sz hsz
        split at h
        · rename_i hc
          injection h with h; subst h
          simp only [RepV] at hx
          obtain ⟨b, o, vs, rfl, h1, h2⟩ := hx
          refine ⟨.pointer (some ⟨b, o + off + i.toNat * sz, none⟩), ?_, by simp only [RepV]; exact ⟨b, o, vs, by rw [Nat.add_assoc], h1, h2⟩⟩
          simp only [Instr.indexAt, asIntOf, Sem.run_bind, Sem.run_pure, run_underlying hu, Result.andThen_ok, Instr.sureAddr]
          rw [if_pos hc]
          simp [run_size hsz, Addr.add_lit]
        · cases h
      · cases h
    · cases h
  · cases h

theorem aindex_ok {t : TypeId} {x i r : AV} (h : aindex P t x i = some r) {xv iv : Value} (hx : RepV g x xv) (hi : RepV g i iv) : ∃ rv, (Instr.index t xv iv).run P w = .ok rv w ∧ RepV g r rv := by
  unfold aindex at h
  split at h
  · rename_i k i
    simp only [RepV] at hi; subst hi
    split at h
    · rename_i s hu
      split at h
      · rename_i hc
        split at h
        · rename_i b hb
          injection h with h; subst h
          simp only [RepV] at hx; subst hx
          refine ⟨.int .u8 (b.toNat : Int), ?_, by simp only [RepV]⟩
          have hg : (ByteArray.mk (List.toArray s))[i.toNat]? = some b := by
            have hlt := (List.getElem?_eq_some_iff.1 hb)
            obtain ⟨hlt, hv⟩ := hlt
            rw [getElem?_pos (ByteArray.mk (List.toArray s)) i.toNat hlt]
            congr 1
          simp only [Instr.index, asIntOf, Sem.run_bind, Sem.run_pure, run_underlying hu, Result.andThen_ok]
          rw [if_pos hc, hg]
          rfl
        · cases h
      · cases h
    · rename_i n e cs hu
      split at h
      · rename_i sz hsz
        split at h
        · rename_i hc
          simp only [RepV] at hx
          obtain ⟨vs, rfl, hr⟩ := hx
          obtain ⟨rv, h1, h2⟩ := part_ok (w := w) h hr
          refine ⟨rv, ?_, h2⟩
          simp only [Instr.index, asIntOf, Sem.run_bind, Sem.run_pure, run_underlying hu, Result.andThen_ok]
          rw [if_pos hc]
          simp only [Sem.run_bind, run_size hsz, Result.andThen_ok, h1]
        · cases h
      · cases h
    · cases h
  · cases h

theorem aextract_ok {x r : AV} {i : Nat} (h : aextract x i = some r) {xv : Value} (hx : RepV g x xv) : ∃ rv, (Instr.extract xv i).run P w = .ok rv w ∧ RepV g r rv := by
  unfold aextract at h
  split at h
  · simp only [RepV] at hx
    obtain ⟨vs, rfl, hr⟩ := hx
    obtain ⟨v, hv, hrep⟩ := hr.get h
    refine ⟨v, ?_, hrep⟩
    have : (List.toArray vs)[i]? = some v := by simpa using hv
    simp only [Instr.extract, this]
    rfl
  · cases h

theorem atypeAssert_ok {x r : AV} {xT t : TypeId} {ok : Bool} (h : atypeAssert P x t ok = some r) {xv : Value} (hx : RepV g x xv) :
    ∃ rv, (Instr.typeAssert xv xT t ok).run P w = .ok rv w ∧ RepV g r rv := by
  have hf : ∀ {r : AV} {s d : Option TypeId} {m : String}, (if ok = true then (match zeroAV P t with | some z => some (AV.tup [z, .bool false]) | none => none) else none) = some r →
      ∃ rv, (if ok = true then (do pure (.tuple #[← zeroValue t, .bool false])) else runtimePanic (.typeAssertion s d t m) : Sem Value).run P w = .ok rv w ∧ RepV g r rv := by
    intro r s d m h
    split at h
    · rename_i hok
      split at h
      · rename_i z hz
        injection h with h; subst h
        obtain ⟨i, zv, hi, hzz, hr⟩ := zeroAV_ok hz
        refine ⟨.tuple #[zv, .bool false], ?_, by simp only [RepV]; exact ⟨[zv, .bool false], rfl, by simp only [RepL, RepV]; exact ⟨_, _, rfl, hr g, _, _, rfl, rfl, rfl⟩⟩⟩
        simp [hok, zeroValue, run_info hi, hzz]
      · cases h
    · cases h
  have hh : ∀ {a r : AV} {v : Value}, RepV g a v → some (if ok then AV.tup [a, .bool true] else a) = some r → ∃ rv, (pure (if ok = true then Value.tuple #[v, .bool true] else v) : Sem Value).run P w = .ok rv w ∧ RepV g r rv := by
    intro a r v ha h
    injection h with h; subst h
    refine ⟨_, rfl, ?_⟩
    cases ok
    · simpa using ha
    · simp only [if_true, RepV]
      exact ⟨[v, .bool true], rfl, by simp only [RepL, RepV]; exact ⟨_, _, rfl, ha, _, _, rfl, rfl, rfl⟩⟩
  unfold atypeAssert at h
  simp only at h
  split at h
  · rename_i d hu
    simp only [RepV] at hx; subst hx
    cases d <;> (simp only [Instr.typeAssert, Sem.run_bind, run_underlying hu, Result.andThen_ok]; exact hf h)
  · rename_i want tx v hu
    have hx' := hx
    simp only [RepV] at hx
    obtain ⟨y, rfl, hy⟩ := hx
    split at h
    · rename_i i hi
      split at h
      · rename_i hm
        simp only [Instr.typeAssert, Sem.run_bind, run_underlying hu, Result.andThen_ok, run_info hi, hm]
        exact hh hx' h
      · rename_i m hm
        simp only [Instr.typeAssert, Sem.run_bind, run_underlying hu, Result.andThen_ok, run_info hi, hm]
        exact hf h
    · cases h
  · rename_i d tx v hni hu
    simp only [RepV] at hx
    obtain ⟨y, rfl, hy⟩ := hx
    have hd : ∀ want, d ≠ .interface want := fun want hh => hni want (by rw [hh])
    split at h
    · rename_i he
      cases d <;> first
        | (exact absurd rfl (hd _))
        | (simp only [Instr.typeAssert, Sem.run_bind, run_underlying hu, Result.andThen_ok]; rw [if_pos he]; exact hh hy h)
    · rename_i he
      cases d <;> first
        | (exact absurd rfl (hd _))
        | (simp only [Instr.typeAssert, Sem.run_bind, run_underlying hu, Result.andThen_ok]; rw [if_neg he]; exact hf h)
  · cases h

theorem alen_ok {t ty : TypeId} {x r : AV} (h : alen P t x = some r) {xv : Value} (hx : RepV g x xv) {ts : Array TypeId} {xs : Array Value} (ht : ts[0]? = some t) (hxs : xs[0]? = some xv) :
    ∃ rv, (Builtin.len_ ts ty xs).run P w = .ok rv w ∧ RepV g r rv := by
  unfold alen at h
  split at h
  · rename_i s hu
    simp only [RepV] at hx; subst hx; injection h with h; subst h
    refine ⟨_, ?_, by simp only [RepV]; rfl⟩
    simp only [Builtin.len_, ht, hxs, Sem.run_bind, run_underlying hu, Result.andThen_ok]
    rfl
  · rename_i e hu
    simp only [RepV] at hx; subst hx; injection h with h; subst h
    refine ⟨_, ?_, by simp only [RepV]; rfl⟩
    simp only [Builtin.len_, ht, hxs, Sem.run_bind, run_underlying hu, Result.andThen_ok]
    rfl
  · rename_i e ow sz n cs hu
    simp only [RepV] at hx
    obtain ⟨b, o, cap, vs, rfl, _⟩ := hx
    injection h with h; subst h
    refine ⟨_, ?_, by simp only [RepV]; rfl⟩
    simp only [Builtin.len_, ht, hxs, Sem.run_bind, run_underlying hu, Result.andThen_ok]
    rfl
  · rename_i e id off sz n c hu
    simp only [RepV] at hx
    obtain ⟨b, _, rfl, _⟩ := hx
    injection h with h; subst h
    refine ⟨_, ?_, by simp only [RepV]; rfl⟩
    simp only [Builtin.len_, ht, hxs, Sem.run_bind, run_underlying hu, Result.andThen_ok]
    rfl
  · rename_i n e hu
    injection h with h; subst h
    refine ⟨.int .i64 n, ?_, by simp only [RepV]⟩
    simp only [Builtin.len_, ht, hxs, Sem.run_bind, run_underlying hu, Result.andThen_ok]
    rfl
  · cases h

theorem acap_ok {t ty : TypeId} {x r : AV} (h : acap P t x = some r) {xv : Value} (hx : RepV g x xv) {ts : Array TypeId} {xs : Array Value} (ht : ts[0]? = some t) (hxs : xs[0]? = some xv) :
    ∃ rv, (Builtin.cap_ ts ty xs).run P w = .ok rv w ∧ RepV g r rv := by
  unfold acap at h
  split at h
  · rename_i e hu
    simp only [RepV] at hx; subst hx; injection h with h; subst h
    refine ⟨_, ?_, by simp only [RepV]; rfl⟩
    simp only [Builtin.cap_, ht, hxs, Sem.run_bind, run_underlying hu, Result.andThen_ok]
    rfl
  · rename_i e id off sz n c hu
    simp only [RepV] at hx
    obtain ⟨b, _, rfl, _⟩ := hx
    injection h with h; subst h
    refine ⟨_, ?_, by simp only [RepV]; rfl⟩
    simp only [Builtin.cap_, ht, hxs, Sem.run_bind, run_underlying hu, Result.andThen_ok]
    rfl
  · cases h

theorem amax2_ok {x y r : AV} (h : amax2 x y = some r) {xv yv : Value} (hx : RepV g x xv) (hy : RepV g y yv) (ts : Array TypeId) (ty : TypeId) :
    ∃ rv, (Builtin.max_ ts ty #[xv, yv]).run P w = .ok rv w ∧ RepV g r rv := by
  unfold amax2 at h
  split at h
  · simp only [RepV] at hx hy; subst hx; subst hy
    injection h with h; subst h
    refine ⟨_, ?_, by simp only [RepV]; rfl⟩
    simp [Builtin.max_, Builtin.max2]
  · cases h

theorem amin2_ok {x y r : AV} (h : amin2 x y = some r) {xv yv : Value} (hx : RepV g x xv) (hy : RepV g y yv) (ts : Array TypeId) (ty : TypeId) :
    ∃ rv, (Builtin.min_ ts ty #[xv, yv]).run P w = .ok rv w ∧ RepV g r rv := by
  unfold amin2 at h
  split at h
  · simp only [RepV] at hx hy; subst hx; subst hy
    injection h with h; subst h
    refine ⟨_, ?_, by simp only [RepV]; rfl⟩
    simp [Builtin.min_, Builtin.min2]
  · cases h
end Go.Proofs.Fw
