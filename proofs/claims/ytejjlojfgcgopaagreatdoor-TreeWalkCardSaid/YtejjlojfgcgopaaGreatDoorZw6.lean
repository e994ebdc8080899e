/- internal/stringslite.Clone tells the same bytes (after the s .. The reference's reader of expressions: fail, sign, took. The -/
import Derived.Test.YtejjlojfgcgopaaGreatDoorZw5
import Derived.Lib.BufferWrite
import Derived.Lib.UnsafeStr
import Derived.Lib.Hide
import Derived.Laws.MakeOwn
set_option linter.unusedSimpArgs false
set_option linter.unusedVariables false
namespace Go.Proofs.YtejjlojfgcgopaaGreatDoor
open Go.RowKit Go.Proofs.Fw
set_option maxHeartbeats 4000000 in
set_option maxRecDepth 100000 in
theorem fd (s:ByteArray) (w:World) (tN:s.size≤281474976710656) :
  Calls Tryz.prog 221 #[.string s] w fun e w'=>e = .returned (.string s)∧Below w.heap.size w w':=by
 have L37:Tryz.prog.underlying 139=some (.slice 5):=by kernel_rfl
 have L127:Tryz.prog.underlying 306=some (.pointer 5):=by kernel_rfl
 by_cases h0:s.size=0
 ·have hs:s=⟨#[]⟩:=by
   apply ByteArray.ext;exact Array.eq_empty_of_size_eq_zero h0
  subst hs
  go_enter Tryz.func221,Tryz.ntmps221
  go_wp2
  go_ret
  exact ⟨rfl,Below.refl _ _⟩
 ·have i5:(Tryz.prog.info? 5).map (fun i=>(i.zero,i.size,i.bytes))=some (some (Value.int IntKind.u8 0),1,1):=by kernel_rfl
  obtain ⟨i0,hi,uC,rT,qy⟩:=info_parts i5;have z3:(Tryz.prog.info? 5).map (·.size)=some 1:=by rw [hi];simp [rT]
  have hco:Tryz.prog.cellsOf 5=1:=by simp [Program.cellsOf,hi,rT]
  obtain ⟨M,hM⟩:∃M,M=madeCells (Value.int .u8 0).cells (((s.size:Nat):Int).toNat*i0.size):=⟨_,rfl⟩
  have hMs:M.size=s.size:=by rw [hM,size_madeCells,rT];simp
  have hmk:∀W:World,(Instr.makeSlice 139 (.int .i64 (s.size:Int)) (.int .i64 (s.size:Int))).run Tryz.prog W = .ok (.slice (some ⟨W.heap.size,0,none⟩) s.size s.size) (W.alloc (.cells M 5)):=fun W=>by have h:=run_make (P:=Tryz.prog) W 139 5 i0 (.int .u8 0) L37 hi uC .i64 .i64 (s.size:Int) (s.size:Int) (by omega) (by omega) (by rw [qy];omega) (by omega);rw [←hM] at h;simpa using h
  clear hM;have hcp:=Lib.run_copy_row_string (P:=Tryz.prog) (w.alloc (.cells M 5)) 139 9 3 5 w.heap.size 0 s.size s.size s M 5 L37 z3 (heap_alloc_new w _) (Nat.le_refl _) (by omega);obtain ⟨Y,hY⟩:∃Y,Y=(M.toList.take 0++Lib.byteCells s.data.toList++M.toList.drop (0+s.size)).toArray:=⟨_,rfl⟩
  rw [←hY] at hcp
  have zI:Y.toList=Lib.byteCells s.data.toList:=by rw [hY,List.toList_toArray,List.take_zero,List.nil_append,List.drop_of_length_le (by rw [Array.length_toList];omega),List.append_nil]
  have hYs:Y.size=s.size:=by rw [←Array.length_toList,zI,Lib.byteCells_length,←Lib.size_eq]
  have zJ:((w.alloc (.cells M 5)).setRow w.heap.size Y).heap[w.heap.size]? = some (.cells Y 5 (0,0)):=setRow_heap _ _ M _ 5 (0,0) (heap_alloc_new w _);have pp:s.data.toList≠[]:=fun e=>h0 (by rw [Lib.size_eq,e];rfl)
  have hUS:=Lib.run_unsafeString_row (P:=Tryz.prog) ((w.alloc (.cells M 5)).setRow w.heap.size Y) 306 3 9 5 L127 hco w.heap.size Y.size (by unfold World.shape?;rw [zJ]) s.data.toList pp (by rw [←Lib.size_eq];omega) (by rw [←Lib.size_eq];omega)
   (fun j x hx=>Lib.cells_of_row zJ Y.size j _ (by rw [List.take_of_length_le (by rw [Array.length_toList];exact Nat.le_refl _),zI];simp [Lib.byteCells,hx]))
  rw [←Lib.size_eq] at hUS;clear hY
  go_enter Tryz.func221,Tryz.ntmps221
  go_wp2
  go_ret
  have qF:Below w.heap.size w (w.alloc (.cells M 5)):=(Below.refl _ w).alloc (Nat.le_refl _) _;have qA:Below w.heap.size (w.alloc (.cells M 5)) ((w.alloc (.cells M 5)).setRow w.heap.size Y):=⟨rfl,rfl,rfl,by simp,fun k hk=>setRow_other _ _ _ _ (by omega)⟩
  exact ⟨rfl,Lib.below_freeze (qF.trans qA) (p:=⟨w.heap.size,0,none⟩) (Nat.le_refl _) _⟩
theorem fe (E:Env) (s:List UInt8) (H:AH) (hs:s.length≤281474976710656):CS zP E 221 [.str s] H (.str s) H:=by
 refine CS.of_below fun g w cargs hA => ?_
 simp only [AB,AA] at hA;obtain ⟨_,_,rfl,rfl,rfl⟩:=hA;refine (fd ⟨s.toArray⟩ w (by simpa [ByteArray.size] using hs)).mono fun e w' => ?_
 rintro ⟨rfl,hb⟩;exact ⟨_,rfl,fun g=>by simp only [AA],hb⟩
set_option maxRecDepth 100000
set_option maxHeartbeats 4000000
theorem fg (a b:Int):aeq zP 33 (.iface 323 (.int .i64 a)) (.iface 323 (.int .i64 b))=some (a==b):=by kernel_rfl
theorem fh:AN.glob 6=PG:=rfl
theorem fj:AN.imm 341=true:=rfl
theorem fk (a b:List UInt8) (t:TypeId) (v:AV):A3 zP 341 [(0,.str a),(1,.str b),(2,.iface t v)]=some (.agg [.str a,.str b,.iface t v]):=by kernel_rfl
def HU (f s:List UInt8):AV := .vptr [.str f,.str s,.iface 357 (.vptr [.str TT] 0)] 0
theorem fo (O:Orc) (X:Cx O zP AN) (f s:List UInt8) (h64:∀H,O 221 [.str s] H=some (.str s,H)) (H:AH):CS zP AN 206 [.str f,.str s] H (HU f s) H :=
 (CS.of_Tr (H0:=[]) (H1:=[]) (c:=Ar Tryz.f206) Tryz.func206 (by kernel_rfl) 0 (by simp [Tryz.f206]) (fun B hB hG=>by
  refine Tr.run X hG (by kernel_rfl) ?_;rw [Dm]
  simp [Tryz.f206,h64,fh,PG,fk,fj,HU]) rfl rfl).frame yEq rfl H
theorem fp (O:Orc) (X:Cx O zP AN) (f s:List UInt8) (h57:∀H,O 206 [.str f,.str s] H=some (HU f s,H)) (H:AH) :
  CS zP AN 176 [.str f,.str s,.int .i64 10,.int .i64 64,.iface 323 (.int .i64 1)] H (.iface 326 (HU f s)) H :=
 (CS.of_Tr (H0:=[]) (H1:=[]) (c:=Ar Tryz.f176) Tryz.func176 (by kernel_rfl) 0 (by simp [Tryz.f176]) (fun B hB hG=>by
  refine Tr.run X hG (by kernel_rfl) ?_;rw [Dm]
  simp [Tryz.f176,h57,↓fg,HU]) rfl rfl).frame yEq rfl H
def Mt:List UInt8:=[80,97,114,115,101,73,110,116]
def KK (s:List UInt8):AV:=if Ba s<9223372036854775808 then .tup [.int .i64 (Ba s),.nilIface] else .tup [.int .i64 9223372036854775807,.iface 326 (HU Mt s)]
theorem fq (O:Orc) (X:Cx O zP AN) (s:List UInt8) (vz:∀H,O 175 [.str s,.int .i64 10,.int .i64 64] H=some (IU s,H))
  (zK:∀H,O 176 [.str Mt,.str s,.int .i64 10,.int .i64 64,.iface 323 (.int .i64 1)] H=some (.iface 326 (HU Mt s),H)) (H:AH) :
  CS zP AN 135 [.str s,.int .i64 10,.int .i64 64] H (KK s) H:=by
 refine CS.frame (CS.of_Tr (H0:=[]) (H1:=[]) (c:=Ar Tryz.f135) Tryz.func135 (by kernel_rfl) 0 (by simp [Tryz.f135]) (fun B hB hG => ?_) ?_ rfl) yEq rfl H
 ·refine Tr.run X hG (by kernel_rfl) ?_
  rw [Dm];unfold IU at vz;unfold KK;unfold Mt at zK ⊢
  by_cases h:Ba s<9223372036854775808
  ·rw [if_pos h] at vz ⊢
   simp [Tryz.f135,vz]
  ·rw [if_neg h] at vz ⊢
   simp [Tryz.f135,vz,zK,HU]
 ·unfold KK
  split<;>rfl
def DN (s:List UInt8):Bool:=decide (1≤s.length)&&(s.drop (s.length-1)==[10])
def B4 (s:List UInt8):List UInt8:=if DN s then s.take (s.length-1) else s
theorem ft (O:Orc) (s:List UInt8) (N:Nat) (H:AH) (hs:s.length<9223372036854775807):Ax O zP AN N 171 [.str s,.str [10]] H=some (.bool (DN s),H):=by
 by_cases h:1≤s.length
 ·have h1:(1:Int)≤(s.length:Int):=by omega
  have w:IntKind.i64.wrap ((s.length:Int)-1)=((s.length-1:Nat):Int):=by rw [Ab (by omega) (by omega)];omega
  have k1:((s.length-1:Nat):Int)≤(s.length:Int):=by omega
  simp [Tryz.func171,Tryz.f171,Ax,AL,Bf,AX,Ao,Ai,grow,A8,Aw,AU,callee,aop,AT,AC,BP,BW,BU,AQ,BE,BK,alen,BI,Bc,Be,aun,BQ,BG,BZ,BR,BS,BV,Av,BH,BN,BB,BL,A9,aeq,DN,h,h1,w,k1,Tryz.underlying9]
 ·have h1:¬(1:Int)≤(s.length:Int):=by omega
  simp [Tryz.func171,Tryz.f171,Ax,AL,Bf,AX,Ao,Ai,grow,A8,Aw,AU,callee,aop,AT,AC,BP,BW,BU,AQ,BE,BK,alen,BI,Bc,Be,aun,BQ,BG,BZ,BR,BS,BV,Av,BH,BN,BB,BL,A9,aeq,DN,h,h1]
theorem go53:AE zP 171=true:=EW _ (by simp)
theorem go46:AE zP 129=true:=EW _ (by simp)
theorem T8:AE zP 85=true:=EW _ (by simp)
theorem T9:AE zP 86=true:=EW _ (by simp)
theorem go47:AE zP 130=true:=EW _ (by simp)
theorem fu (O:Orc) (s:List UInt8) (N:Nat) (H:AH) (hs:s.length<9223372036854775807) (ho:O 171 [.str s,.str [10]] H=some (.bool (DN s),H)) :
  Ax O zP AN N 129 [.str s,.str [10]] H=some (.tup [.str (B4 s),.bool (DN s)],H):=by
 unfold B4;cases h:DN s
 ·rw [h] at ho
  simp [Tryz.func129,Tryz.f129,Ax,AL,Bf,AX,Ao,Ai,grow,A8,Aw,AU,callee,aop,AT,AC,BP,BW,BU,AQ,BE,BK,alen,BI,Bc,Be,aun,BQ,BG,BZ,BR,BS,BV,Av,BH,BN,BB,BL,A9,aeq,go53,ho]
 ·rw [h] at ho
  have h1:1≤s.length:=by unfold DN at h;simp only [Bool.and_eq_true,decide_eq_true_eq] at h;exact h.1
  have w:IntKind.i64.wrap ((s.length:Int)-1)=((s.length-1:Nat):Int):=by rw [Ab (by omega) (by omega)];omega
  have k1:((s.length-1:Nat):Int)≤(s.length:Int):=by omega
  simp [Tryz.func129,Tryz.f129,Ax,AL,Bf,AX,Ao,Ai,grow,A8,Aw,AU,callee,aop,AT,AC,BP,BW,BU,AQ,BE,BK,alen,BI,Bc,Be,aun,BQ,BG,BZ,BR,BS,BV,Av,BH,BN,BB,BL,A9,aeq,go53,ho,w,k1,Tryz.underlying9]
theorem fw (O:Orc) (s:List UInt8) (N:Nat) (H:AH) (ho:O 129 [.str s,.str [10]] H=some (.tup [.str (B4 s),.bool (DN s)],H)) :
  Ax O zP AN N 85 [.str s,.str [10]] H=some (.tup [.str (B4 s),.bool (DN s)],H):=by
 simp [Tryz.func85,Tryz.f85,Ax,AL,Bf,AX,Ao,Ai,grow,A8,Aw,AU,callee,aop,AT,AC,BP,BW,BU,AQ,BE,BK,alen,BI,Bc,Be,aun,BQ,BG,BZ,BR,BS,BV,Av,BH,BN,BB,BL,A9,aeq,go46,ho]
theorem fx (O:Orc) (s:List UInt8) (c m:Int) (N:Nat) (H:AH) (ho:O 130 [.str s,.int .u8 c] H=some (.int .i64 m,H)):Ax O zP AN N 86 [.str s,.int .u8 c] H=some (.int .i64 m,H):=by simp [Tryz.func86,Tryz.f86,Ax,AL,Bf,AX,Ao,Ai,grow,A8,Aw,AU,callee,aop,AT,AC,BP,BW,BU,AQ,BE,BK,alen,BI,Bc,Be,aun,BQ,BG,BZ,BR,BS,BV,Av,BH,BN,BB,BL,A9,aeq,go47,ho]
def Gv (s:List UInt8):List UInt8:=if DN s then [10] else []
theorem fy (O:Orc) (s:List UInt8) (m:Int) (N:Nat) (H:AH) (tU:O 85 [.str s,.str [10]] H=some (.tup [.str (B4 s),.bool (DN s)],H)) (s9:O 86 [.str (B4 s),.int .u8 33] H=some (.int .i64 m,H)) (hm:m<0) :
  Ax O zP AN N 50 [.str s] H=some (.tup [.str (B4 s),.str [],.str (Gv s)],H):=by
 have hm':¬(0:Int)≤m:=by omega
 unfold Gv
 cases h:DN s<;>rw [h] at tU <;>
  simp [Tryz.func50,Tryz.f50,Ax,AL,Bf,AX,Ao,Ai,grow,A8,Aw,AU,callee,aop,AT,AC,BP,BW,BU,AQ,BE,BK,alen,BI,Bc,Be,aun,BQ,BG,BZ,BR,BS,BV,Av,BH,BN,BB,BL,A9,aeq,T8,T9,tU,s9,hm']
noncomputable def P16:Code:=Aj (Aj (Bh (Aj (Aj (Aj (Ar Tryz.f50))))))
noncomputable def R16:Code:=Sw P16
theorem p16:P16 = .cond (.tmp 16) (.region 6 (HM R16) true) .skip:=by kernel_rfl
theorem gA:Ai AN (HM R16).toList=0:=by kernel_rfl
theorem gB (n:Nat):JD (HM R16) (Ds 0 (CK [] (HM R16).toList) (AX AN (HM R16).toList n))=true:=by kernel_rfl
theorem gC:GG 0 (HM R16).toList=true:=by kernel_rfl
theorem gD (O:Orc) (b:List UInt8) (m:Nat) (t:List AV) (H:AH) (hl:t.length=26) (h2:t[2]? = some (.str b)) (h6:t[6]? = some (.int .i64 m)) (hm:m≤b.length) (Q:List AV→Prop)
  (hQ:∀t':List AV,t'.length=26→t'[2]? = some (.str (b.take m))→t'[3]? = some (.str (b.drop m))→t'[4]? = t[4]? → Q t') :
  ∃t',ET O zP AN (HM R16) t H=some (t',H)∧Q t':=by
 obtain ⟨_,g2⟩:=List.getElem?_eq_some_iff.1 h2;obtain ⟨_,g6⟩:=List.getElem?_eq_some_iff.1 h6;have k1:(m:Int)≤(b.length:Int):=by omega
 have key:∃t',evP O zP AN (HM R16) (AX AN (HM R16).toList H.length) t H=some t'∧Q t':=by simp [evP,Ce,BJ,BF,R16,P16,Ar,Tryz.f50,Sw,Bh,Aj,HM,Ax,AL,Bf,AX,Ao,Ai,grow,A8,Aw,AU,callee,aop,AT,AC,BP,BW,BU,AQ,BE,BK,alen,BI,Bc,Be,aun,BQ,BG,BZ,BR,BS,BV,Av,BH,BN,BB,BL,A9,aeq,Fl,hl,g2,g6,k1,Tryz.underlying9];refine hQ _ ?_ ?_ ?_ ?_<;>simp [hl]
 obtain ⟨t',h1,h2⟩:=key;exact ⟨t',S2 gA h1 gB gC,h2⟩
theorem gE (O:Orc) (s:List UInt8) (t:List AV) (N:Nat) (H:AH) (hl:t.length=26) (h0:t[0]? = some (.str s)) (tU:O 85 [.str s,.str [10]] H=some (.tup [.str (B4 s),.bool (DN s)],H)) (Q:AEx→List AV→AH→Prop)
  (hQ:∀t':List AV,t'.length=26→t'[2]? = some (.str (B4 s))→t'[4]? = some (.str (Gv s))→Q .normal t' H):Al (AL O zP AN N (DB 3 (Ar Tryz.f50)) t H) Q:=by
 obtain ⟨_,g0⟩:=List.getElem?_eq_some_iff.1 h0;unfold Gv at hQ
 cases h:DN s<;>rw [h] at tU hQ <;>
  simp [Ar,Tryz.f50,DB,Ax,AL,Bf,AX,Ao,Ai,grow,A8,Aw,AU,callee,aop,AT,AC,BP,BW,BU,AQ,BE,BK,alen,BI,Bc,Be,aun,BQ,BG,BZ,BR,BS,BV,Av,BH,BN,BB,BL,A9,aeq,Al,hl,g0,T8,tU] <;>
  (refine hQ _ ?_ ?_ ?_<;>simp [hl])
noncomputable def t16:Code:=Aj (Aj (Aj (Ar Tryz.f50)))
theorem gF:Cq 3 (Ar Tryz.f50)=t16:=by kernel_rfl
noncomputable def x16:Code:=Bh t16
theorem gG (O:Orc) (b:List UInt8) (m:Nat) (t:List AV) (N:Nat) (H:AH) (hl:t.length=26) (h2:t[2]? = some (.str b)) (s9:O 86 [.str b,.int .u8 33] H=some (.int .i64 m,H)) (Q:AEx→List AV→AH→Prop)
  (hQ:∀t':List AV,t'.length=26→t'[2]? = t[2]? → t'[4]? = t[4]? → t'[6]? = some (.int .i64 m)→t'[16]? = some (.bool true)→Q .normal t' H):Al (AL O zP AN N (DB 2 x16) t H) Q:=by
 obtain ⟨_,g2⟩:=List.getElem?_eq_some_iff.1 h2;simp [x16,t16,Ar,Tryz.f50,DB,Bh,Aj,Ax,AL,Bf,AX,Ao,Ai,grow,A8,Aw,AU,callee,aop,AT,AC,BP,BW,BU,AQ,BE,BK,alen,BI,Bc,Be,aun,BQ,BG,BZ,BR,BS,BV,Av,BH,BN,BB,BL,A9,aeq,Al,hl,g2,T9,s9];refine hQ _ ?_ ?_ ?_ ?_ ?_<;>simp [hl,g2]
theorem gH:Cq 2 x16=P16:=by kernel_rfl
theorem gI (O:Orc) (x y z:AV) (t:List AV) (N:Nat) (H:AH) (hl:t.length=26) (h2:t[2]? = some x) (h3:t[3]? = some y) (h4:t[4]? = some z) (Q:AEx→List AV→AH→Prop)
  (hQ:∀t':List AV,t'.length=26→t'[2]? = some x→t'[3]? = some y→t'[4]? = some z→Q .ret t' H):Al (AL O zP AN N (Aj t16) t H) Q:=by
 obtain ⟨_,g2⟩:=List.getElem?_eq_some_iff.1 h2;obtain ⟨_,g3⟩:=List.getElem?_eq_some_iff.1 h3;obtain ⟨_,g4⟩:=List.getElem?_eq_some_iff.1 h4;simp [t16,Ar,Tryz.f50,Aj,Ax,AL,Bf,AX,Ao,Ai,grow,A8,Aw,AU,callee,aop,AT,AC,BP,BW,BU,AQ,BE,BK,alen,BI,Bc,Be,aun,BQ,BG,BZ,BR,BS,BV,Av,BH,BN,BB,BL,A9,aeq,Al,hl,g2,g3,g4];refine hQ _ ?_ ?_ ?_ ?_<;>simp [hl]
theorem gJ (t:List AV) (H:AH) (x y z:AV) (h2:t[2]? = some x) (h3:t[3]? = some y) (h4:t[4]? = some z):fin zP Tryz.f50 (some (.ret,t,H))=some (.tup [x,y,z],H):=by simp [fin,Tryz.f50,BE,h2,h3,h4,BK]
theorem gK (O:Orc) (s:List UInt8) (m:Nat) (N:Nat) (H:AH) (tU:O 85 [.str s,.str [10]] H=some (.tup [.str (B4 s),.bool (DN s)],H)) (s9:O 86 [.str (B4 s),.int .u8 33] H=some (.int .i64 m,H)) (hm:m≤(B4 s).length) :
  Ax O zP AN N 50 [.str s] H=some (.tup [.str ((B4 s).take m),.str ((B4 s).drop m),.str (Gv s)],H):=by
 refine Oz (c:=Ar Tryz.f50) Tryz.func50 (by kernel_rfl) ?_;refine Al.split 3 _ ?_;refine gE O s _ _ H (by simp [Tryz.f50]) (by rfl) tU _ ?_;intro t hl k2 k4
 show Al (AL O zP AN N (Cq 3 (Ar Tryz.f50)) t H) _
 rw [gF];refine Al.seq (A:=x16) (B:=Aj t16) (by kernel_rfl) ?_;refine Al.split 2 _ ?_;refine gG O _ m t _ H hl k2 s9 _ ?_;intro t2 p6 j2 j4 j6 j16
 show Al (AL O zP AN N (Cq 2 x16) t2 H) _
 rw [gH,p16];obtain ⟨t3,e3,qI,i2,i3,i4⟩:=gD O (B4 s) m t2 H p6 (j2.trans k2) j6 hm (fun t'=>t'.length=26∧t'[2]? = some (.str ((B4 s).take m))∧t'[3]? = some (.str ((B4 s).drop m))∧t'[4]? = t2[4]?) (fun t' a b c d=>⟨a,b,c,d⟩);have hc:AC AN t2 (.tmp 16) = .bool true:=by simp [AC,j16]
 simp only [AL,hc,if_true,e3];refine Al.some_iff.2 ?_
 show Al (AL O zP AN N (Aj t16) t3 H) (fun e t H'=>fin zP Tryz.f50 (some (e,t,H'))=some (.tup [.str ((B4 s).take m),.str ((B4 s).drop m),.str (Gv s)],H))
 refine gI O _ _ _ t3 _ H qI i2 i3 (i4.trans (j4.trans k4)) _ ?_;intro t4 u9 a b c
 show fin zP Tryz.f50 (some (.ret,t4,H))=_
 rw [gJ t4 H _ _ _ a b c]
def By:Nat:=137438953470
theorem EE:By=137438953470:=rfl
def Mu:Orc:=Bw 131 (fun args=>match args with
  | [.str s,.func (.func g) [] []]=>if s.length<By then (if g=132 then some (Bi,s) else if g=134 then some (A5,s) else none) else none
  | _=>none) fun x => .int .i64 (Ap x.1 x.2)
theorem gL:AS zP AN Mu:=D7 fun args x H h=>by
 split at h
 ·rename_i s g
  split at h
  ·rename_i hs
   rw [EE] at hs
   split at h
   ·rename_i hg
    subst hg;injection h with h;subst h;exact Ej yLE DD Af (TY GN s _ Bi (EW _ (by simp)) dw (by omega) H)
   ·split at h
    ·rename_i hg
     subst hg;injection h with h;subst h;exact Ej yLE DD Af (TY GN s _ A5 (EW _ (by simp)) TX (by omega) H)
    ·cases h
  ·cases h
 ·cases h
def PU:Orc:=Bw 136 (fun args=>match args with
  | [.str (c::r)]=>some (c,r)
  | _=>none) fun x => .int .i64 (Cf (x.1::x.2))
theorem gM:AS zP AN PU:=D7 fun args x H h=>by
 split at h
 ·injection h with h
  subst h;exact Ej IS DD Af (eJ Gp _ _ H)
 ·cases h
def KL:List AV→Option (List UInt8)
 | [.str s,.int .i64 10,.int .i64 64]=>if s≠[]∧s.length<By∧s.all (fun b=>decide (48≤b.toNat)&&decide (b.toNat≤57))=true then some s else none
 | _=>none
theorem PV {args:List AV} {s:List UInt8} (h:KL args=some s):args=[.str s,.int .i64 10,.int .i64 64]∧s≠[]∧s.length<By∧Ht s:=by
 unfold KL at h
 split at h
 ·split at h
  ·rename_i s' hs
   injection h with h;subst h;obtain ⟨h1,h2,h3⟩:=hs;refine ⟨rfl,h1,h2,fun b hb => ?_⟩;have:=List.all_eq_true.1 h3 b hb;simpa using this
  ·cases h
 ·cases h
theorem PW {s:List UInt8} (h1:s≠[]) (h2:s.length<By) (h3:Ht s):KL [.str s,.int .i64 10,.int .i64 64]=some s:=by exact if_pos ⟨h1,h2,List.all_eq_true.2 fun b hb=>by simpa using h3 b hb⟩
def oPu:Orc:=Bw 204 KL IT
theorem gN:AS zP AN oPu:=D7 fun args x H h=>by obtain ⟨rfl,h1,h2,h3⟩:=PV h;rw [EE] at h2;exact Ej IS DD Af (eV Gp x h1 h3 (by omega) H)
def oPi:Orc:=Bw 175 KL IU
theorem gO:AS zP AN oPi:=D7 fun args x H h=>by obtain ⟨rfl,h1,h2,h3⟩:=PV h;exact Ej gN DD Af (eY oPu x h1 h3 H (by simp [oPu,Bw,PW h1 h2 h3]))
def Mv:Orc:=Bw 221 (fun args=>match args with
  | [.str s]=>if s.length<By then some s else none
  | _=>none) .str
theorem gP:AS zP AN Mv:=D7 fun args x H h=>by
 split at h
 ·split at h
  ·rename_i hs
   rw [EE] at hs;injection h with h;subst h;exact fe AN _ H (by omega)
  ·cases h
 ·cases h
theorem gQ {s:List UInt8} (h:s.length<By) (H:AH):Mv 221 [.str s] H=some (.str s,H):=by simp [Mv,Bw,h]
def PX:Orc:=Bw 206 (fun args=>match args with
  | [.str f,.str s]=>if s.length<By then some (f,s) else none
  | _=>none) fun x=>HU x.1 x.2
theorem gR:AS zP AN PX:=D7 fun args x H h=>by
 split at h
 ·split at h
  ·rename_i hs
   injection h with h;subst h;exact fo Mv ⟨gP,DD,Af⟩ _ _ (fun H=>gQ hs H) H
  ·cases h
 ·cases h
def PY:Orc:=Bw 176 (fun args=>match args with
  | [.str f,.str s,.int .i64 10,.int .i64 64,.iface 323 (.int .i64 1)]=>if s.length<By then some (f,s) else none
  | _=>none) fun x => .iface 326 (HU x.1 x.2)
theorem gS:AS zP AN PY:=D7 fun args x H h=>by
 split at h
 ·split at h
  ·rename_i hs
   injection h with h;subst h;exact fp PX ⟨gR,DD,Af⟩ _ _ (fun H=>by simp [PX,Bw,hs]) H
  ·cases h
 ·cases h
def PZ:Orc:=Bw 135 KL KK
theorem gT:AS zP AN PZ:=D7 fun args x H h=>by
 obtain ⟨rfl,h1,h2,h3⟩:=PV h;refine fq (A4 [(175,oPi),(176,PY)]) ⟨FM fun p hp => ?_,DD,Af⟩ x (fun H => ?_) (fun H => ?_) H
 ·simp only [List.mem_cons,List.not_mem_nil,or_false] at hp
  rcases hp with rfl|rfl
  ·exact gO
  ·exact gS
 ·simp [A4,oPi,Bw,PW h1 h2 h3]
 ·simp [A4,PY,Bw,h2]
def oWs:Orc:=A4 [(88,GN),(134,GN),(131,Mu),(133,PH),(135,PZ),(136,PU)]
theorem gU:AS zP AN oWs:=FM fun p hp=>by
 simp only [List.mem_cons,List.not_mem_nil,or_false] at hp;rcases hp with rfl|rfl|rfl|rfl|rfl|rfl
 ·exact yLE
 ·exact yLE
 ·exact gL
 ·exact eI
 ·exact gT
 ·exact gM
theorem Mw:∀s:List UInt8,Cf s≤s.length
 | []=>Nat.le_refl _
 | [c]=>by
  simp only [Cf,List.length_cons,List.length_nil]
  split
  ·omega
  ·split<;>omega
 | c::d::r=>by
  unfold Cf;simp only [List.length_cons]
  split
  ·split<;>omega
  ·split<;>omega
theorem Pa (p:UInt8→Bool):∀(s:List UInt8),∀b∈s.take (Ap p s),p b=true
 | [],b,h=>by simp at h
 | c::s,b,h=>by
  unfold Ap at h;rw [List.takeWhile_cons] at h
  split at h
  ·rename_i hc
   simp only [List.length_cons,List.take_succ_cons,List.mem_cons] at h;rcases h with rfl|h
   ·exact hc
   ·exact Pa p s b (by unfold Ap;exact h)
  ·simp at h
theorem Pb {p:UInt8→Bool} {c:UInt8} {s:List UInt8} (h:p c=true):0<Ap p (c::s):=by unfold Ap;rw [List.takeWhile_cons,if_pos h];simp
theorem gV (c:UInt8) (r:List UInt8) (hs:(c::r).length<By) (H:AH):CS zP AN 87 [.str (c::r)] H (HP (c::r)) H:=by
 have key:∀(v:AV),(∃H',Ax oWs zP AN 0 87 [.str (c::r)] []=some (v,H'))→v=HP (c::r)→CS zP AN 87 [.str (c::r)] H (HP (c::r)) H:=by rintro v ⟨H',h⟩ rfl;have:=CS.of_ev gU DD Af yEq (f:=87) (args:=[.str (c::r)]) (v:=HP (c::r)) 0 ⟨H',h,rfl,rfl⟩ rfl H;exact this
 have pw:∀p,(Ap p (c::r):Int)≤(r.length:Int)+1:=fun p=>by have:=Fq p (c::r);simp only [List.length_cons] at this;omega
 have sX:∀p,min (Ap p (c::r)) (r.length+1)=Ap p (c::r):=fun p=>by have:=Fq p (c::r);simp only [List.length_cons] at this;omega
 have hfr:∀H,oWs 131 [.str (c::r),.func (.func 132) [] []] H=some (.int .i64 (Ap Bi (c::r)),H):=fun H=>by simp only [List.length_cons] at hs;simp [oWs,A4,Mu,Bw,hs]
 have zL:∀H,oWs 131 [.str (c::r),.func (.func 134) [] []] H=some (.int .i64 (Ap A5 (c::r)),H):=fun H=>by simp only [List.length_cons] at hs;simp [oWs,A4,Mu,Bw,hs]
 have rG:∀H,oWs 88 [.int .u8 (c.toNat:Int)] H=some (.bool (B5 c),H):=fun H=>TW c H
 have s8:∀H,oWs 134 [.int .u8 (c.toNat:Int)] H=some (.bool (A5 c),H):=fun H=>TX c H
 cases h1:B5 c
 ·rw [h1] at rG
  cases h2:A5 c
  ·rw [h2] at s8
   have vt:∀H,oWs 136 [.str (c::r)] H=some (.int .i64 (Cf (c::r)),H):=fun H=>by simp [oWs,A4,PU,Bw]
   refine key _ (ed oWs c r 0 rG s8 vt (by have:=Mw (c::r);simp only [List.length_cons] at this;omega)) ?_
   by_cases h0:Cf (c::r)=0
   all_goals
    simp [HP,BC,h1,h2,h0,FQ]
  ·rw [h2] at s8
   have hd:Ht ((c::r).take (Ap A5 (c::r))):=fun b hb=>by have:=Pa A5 (c::r) b hb;simpa [A5] using this
   have pp:(c::r).take (Ap A5 (c::r))≠[]:=fun h=>by
    have h3:=Pb (s:=r) h2;rw [List.take_eq_nil_iff] at h;rcases h with h|h
    ·omega
    ·cases h
   have p9:((c::r).take (Ap A5 (c::r))).length<By:=Nat.lt_of_le_of_lt (List.length_take_le _ _) (by have:=Fq A5 (c::r);omega)
   have th:∀H,oWs 135 [.str ((c::r).take (Ap A5 (c::r))),.int .i64 10,.int .i64 64] H=some (KK ((c::r).take (Ap A5 (c::r))),H):=fun H=>by simp only [oWs,A4,List.lookup];simp [PZ,Bw,PW pp p9 hd]
   unfold KK at th
   by_cases h3:Ba ((c::r).take (Ap A5 (c::r)))<9223372036854775808
   ·rw [if_pos h3] at th
    refine key _ (Td oWs c r _ .nilIface false (by simp) 0 rG s8 zL th (pw _) (sX _)) ?_;simp [HP,BC,h1,h2,h3,FQ]
   ·rw [if_neg h3] at th
    refine key _ (Td oWs c r _ _ true (by simp) 0 rG s8 zL th (pw _) (sX _)) ?_;simp [HP,BC,h1,h2,h3,FQ]
 ·rw [h1] at rG
  have vr:∀H,oWs 133 [.str ((c::r).take (Ap Bi (c::r)))] H=some (.bool (DE ((c::r).take (Ap Bi (c::r)))),H):=fun H=>by simp only [oWs,A4,List.lookup];simp [PH,callS]
  refine key _ (eZ oWs c r _ 0 rG hfr vr (pw _) (sX _)) ?_;simp only [HP,BC,h1,FQ]
  by_cases h2:DE ((c::r).take (Ap Bi (c::r)))=true
  all_goals
   by_cases h3:31<Ap Bi (c::r)
   ·simp [h2,h3]
   ·simp [h2,h3]
def Pc:Orc:=Bw 87 (fun args=>match args with
  | [.str (c::r)]=>if (c::r).length<By then some (c,r) else none
  | _=>none) fun x=>HP (x.1::x.2)
theorem gW:AS zP AN Pc:=D7 fun args x H h=>by
 split at h
 ·split at h
  ·rename_i hs
   injection h with h;subst h;exact gV _ _ hs H
  ·cases h
 ·cases h
def Do (l:List Wd) (x:Except (Nat × Nat) (List Wd)):Except (Nat × Nat) (List Wd):=match x with
 | .ok r => .ok (l++r)
 | .error x => .error x
theorem Mx {c:UInt8} {r:List UInt8} (h:(BC (c::r)).2=0):0<(BC (c::r)).1.2.1.length:=by
 unfold BC at h ⊢;simp only at h ⊢
 split
 ·rename_i h1
  have:=Pb (p:=Bi) (c:=c) (s:=r) (by simp [Bi,h1]);have h2:=Fq Bi (c::r);simp only [List.length_take];omega
 ·rename_i h1
  rw [if_neg h1] at h
  split
  ·rename_i h1
   have:=Pb (p:=A5) (s:=r) h1;have h2:=Fq A5 (c::r)
   split<;>(simp only [List.length_take];omega)
  ·rename_i h1
   rw [if_neg h1] at h
   split
   ·rename_i h2
    rw [if_pos h2] at h;cases h
   ·have h2:=Mw (c::r)
    simp only [List.length_take];omega
theorem My (c:UInt8) (r:List UInt8):(BC (c::r)).1.2.1.length≤(c::r).length:=by
 have key:∀n,((c::r).take n).length≤(c::r).length:=fun n=>by rw [List.length_take];omega
 unfold BC;simp only
 split
 ·exact key _
 ·split
  ·split<;>exact key _
  ·split
   ·exact Nat.zero_le _
   ·exact key _
def DG (num:Bool) (c:UInt8) (r:List UInt8):Nat:=if num&&B5 c then 3 else (BC (c::r)).2
theorem GP (n:Nat) (c:UInt8) (r:List UInt8) (p:Nat) (num:Bool) (hb:EB c=false) :
  lex (n+1) (c::r) p num=if DG num c r≠0 then .error (p,DG num c r) else
   Do [⟨(BC (c::r)).1.1,(BC (c::r)).1.2.1,p,(BC (c::r)).1.2.2⟩] (lex n ((c::r).drop (BC (c::r)).1.2.1.length) (p+(BC (c::r)).1.2.1.length) ((BC (c::r)).1.1==2)):=by
 simp only [lex,hb,Bool.false_eq_true,if_false]
 show (if DG num c r≠0 then _ else _)=_
 by_cases h:DG num c r≠0
 ·rw [if_pos h,if_pos h]
  rfl
 ·rw [if_neg h,if_neg h]
  rfl
theorem Pd {num:Bool} {c:UInt8} {r:List UInt8} (h:DG num c r=0):(BC (c::r)).2=0:=by
 unfold DG at h
 split at h
 ·cases h
 ·exact h
theorem UA:∀(n m:Nat) (s:List UInt8) (p:Nat) (b:Bool),s.length<n→s.length<m→lex n s p b=lex m s p b:=by
 intro n
 induction n with
 | zero=>intro m s p b h;omega
 | succ n ih =>
  intro m s p b hn hm;cases m with
  | zero=>omega
  | succ m =>
   cases s with
   | nil=>rfl
   | cons c r =>
    simp only [List.length_cons] at hn hm;cases hb:EB c with
    | true=>simp only [lex,hb,if_true];exact ih m r _ _ (by omega) (by omega)
    | false =>
     rw [GP n c r p b hb,GP m c r p b hb]
     by_cases h:DG b c r≠0
     ·rw [if_pos h,if_pos h]
     ·rw [if_neg h,if_neg h]
      have h1:=Mx (r:=r) (Pd (by simpa using h));rw [ih m _ _ _ (by simp only [List.length_drop,List.length_cons];omega) (by simp only [List.length_drop,List.length_cons];omega)]
theorem UB (l m:List Wd) (x:Except (Nat × Nat) (List Wd)):Do l (Do m x)=Do (l++m) x:=by cases x<;>simp [Do]
def Mz (s:List UInt8) (k:Nat) (t:List AV) (H:AH):Prop :=
 ∃i l,i+k=s.length∧t=mkT 89 [(0,.str s),(4,Fv l),(5,.int .i64 i)]∧H=EC l∧(∀x∈l,x.at_+x.text.length≤i)∧l.length≤i ∧
  lex (s.length+1) s 0 false=Do l (lex (k+1) (s.drop i) i (FC l i))
theorem gX (l:List Wd):low (EC l).length (Fv l)=true:=by
 unfold Fv EC
 split
 ·rfl
 ·simp [Ah (Nat.zero_le 1) _ (Hu l)]
theorem gY (l:List Wd):AP (EC l).length (EC l)=true:=by
 unfold EC
 split<;>rfl
theorem UC (us:List Wd) (u:Wd) (i:Nat):FC (us++[u]) i=(u.kind==2&&u.at_+u.text.length==i):=by simp [FC]
theorem UD {s:List UInt8} {i k:Nat} {l:List Wd} {c:UInt8} {r:List UInt8} (px:i+(k+1)=s.length) (hd:s.drop i=c::r) (hb:EB c=false) (he:DG (FC l i) c r=0) (hl:∀x∈l,x.at_+x.text.length≤i) (qZ:l.length≤i)
  (q9:lex (s.length+1) s 0 false=Do l (lex (k+1+1) (s.drop i) i (FC l i))) :
  ∃j,j<k+1∧Mz s j (mkT 89 [(0,.str s),(4,Fv (l++[⟨(BC (c::r)).1.1,(BC (c::r)).1.2.1,i,(BC (c::r)).1.2.2⟩])),(5,.int .i64 ((i+(BC (c::r)).1.2.1.length:Nat):Int))])
   (EC (l++[⟨(BC (c::r)).1.1,(BC (c::r)).1.2.1,i,(BC (c::r)).1.2.2⟩])):=by
 have h1:=Mx (r:=r) (Pd he);have h2:=My c r;have pw:(c::r).length=k+1:=by rw [←hd,List.length_drop];omega
 generalize hL:(BC (c::r)).1.2.1.length=L at h1 h2 ⊢;refine ⟨k+1-L,by omega,i+L,_,by omega,rfl,rfl,?_,?_,?_⟩
 ·intro x hx
  rcases List.mem_append.1 hx with hx|hx
  ·have:=hl x hx;omega
  ·simp only [List.mem_singleton] at hx
   subst hx;simp only [hL];omega
 ·simp only [List.length_append,List.length_cons,List.length_nil];omega
 ·rw [q9,hd,GP _ _ _ _ _ hb,if_neg (by simp [he]),UB,UC,hL]
  have:s.drop (i+L)=(c::r).drop L:=by rw [←hd,List.drop_drop]
  rw [this]
  congr 1
  simp only [beq_self_eq_true,Bool.and_true];have tV:((c::r).drop L).length=k+1-L:=by rw [List.length_drop,pw]
  exact UA _ _ _ _ _ (by omega) (by omega)
theorem gZ {s:List UInt8} {i k:Nat} {l:List Wd} {c:UInt8} {r:List UInt8} (px:i+(k+1)=s.length) (hd:s.drop i=c::r) (hb:EB c=true) (hl:∀x∈l,x.at_+x.text.length≤i) (qZ:l.length≤i)
  (q9:lex (s.length+1) s 0 false=Do l (lex (k+1+1) (s.drop i) i (FC l i))) :
  Mz s k (mkT 89 [(0,.str s),(4,Fv l),(5,.int .i64 ((i+1:Nat):Int))]) (EC l):=by
 refine ⟨i+1,l,by omega,rfl,rfl,fun x hx=>by have:=hl x hx;omega,by omega,?_⟩;have:s.drop (i+1)=r:=by rw [←List.drop_drop,hd];rfl
 rw [q9,hd,this]
 have hn:FC l (i+1)=false:=by
  unfold FC;cases h:l.getLast? with
  | none=>rfl
  | some t =>
   have:=hl t (List.mem_of_getLast? h);have h2:(t.at_+t.text.length==i+1)=false:=by simp only [beq_eq_false_iff_ne];omega
   simp [h2]
 simp only [lex,hb,if_true,hn]
def oLn:Orc:=A4 [(87,Pc),(88,GN)]
theorem ga:AS zP AN oLn:=FM fun p hp=>by
 simp only [List.mem_cons,List.not_mem_nil,or_false] at hp;rcases hp with rfl|rfl
 ·exact gW
 ·exact yLE
theorem M0:Cx oLn zP AN:=⟨ga,DD,Af⟩
theorem gb (x:Except (Nat × Nat) (List Wd)):low 0 (Es x)=true:=by
 cases x with
 | error x=>rfl
 | ok l =>
  simp only [Es,AD]
  split
  ·rfl
  ·simp [Hu]
theorem gf (us:List Wd) (u:Wd):(A6 (us++[u]))[us.length*4]? = some (.int .i64 u.kind)∧(A6 (us++[u]))[us.length*4+1]? = some (.str u.text)∧(A6 (us++[u]))[us.length*4+2]? = some (.int .i64 u.at_):=by
 have h:=KC us;simp only [A6,List.flatMap_append] at h ⊢;refine ⟨?_,?_,?_⟩
 ·rw [List.getElem?_append_right (by omega),h];simp [BD]
 ·rw [List.getElem?_append_right (by omega),h,show us.length*4+1-us.length*4=1 by omega];simp [BD]
 ·rw [List.getElem?_append_right (by omega),h,show us.length*4+2-us.length*4=2 by omega];simp [BD]
theorem gg (B:Bs) (hB:B.H=[]) (s:List UInt8) (hs:s.length<By) (k i:Nat) (l:List Wd) (px:i+(k+1)=s.length) (hl:∀x∈l,x.at_+x.text.length≤i) (qZ:l.length≤i)
  (q9:lex (s.length+1) s 0 false=Do l (lex (k+1+1) (s.drop i) i (FC l i))) (Q:AEx→List AV→AH→Prop)
  (hN:∀t H,(∃j t2 H2,j<k+1∧AF B t H t2 H2∧Mz s j t2 H2)→Q .normal t H)
  (hE:∀t H,Fin zP Tryz.f51 0 4 (Es (lex (s.length+1) s 0 false)) [] .ret t H→Q .ret t H) :
  Wx oLn zP AN Fx (mkT 89 [(0,.str s),(4,Fv l),(5,.int .i64 i)]) (EC l) Q:=by
 have hi:i<s.length:=by omega
 rw [EE] at hs;obtain ⟨c,r,hd⟩:∃c r,s.drop i=c::r:=⟨s[i],s.drop (i+1),List.drop_eq_getElem_cons hi⟩
 have hc:s[i]=c:=by have:=List.drop_eq_getElem_cons hi;rw [hd] at this;injection this with this _;exact this.symm
 cases hb:EB c with
 | true =>refine eg B hB oLn s i (Fv l) (EC l) hi (by omega) ?_ Q (fun t pv=>hN _ _ ⟨k,_,_,by omega,pv,gZ px hd hb hl qZ q9⟩) (gX l) (gY l);rw [hc];simpa [EB] using hb
 | false =>
  have qF:((s[i].toNat:Int)==32)=false:=by rw [hc];simp only [EB,Bool.or_eq_false_iff,beq_eq_false_iff_ne] at hb;simp only [beq_eq_false_iff_ne];omega
  have qA:((s[i].toNat:Int)==9)=false:=by rw [hc];simp only [EB,Bool.or_eq_false_iff,beq_eq_false_iff_ne] at hb;simp only [beq_eq_false_iff_ne];omega
  have pw:(c::r).length=k+1:=by rw [←hd,List.length_drop];omega
  have tj:∀H,oLn 87 [.str (s.drop i)] H=some (HP (c::r),H):=fun H=>by
   rw [hd];have:(c::r).length<By:=by rw [pw,EE];omega
   simp only [List.length_cons] at this;simp [oLn,A4,Pc,Bw,this]
  have rG:∀H,oLn 88 [.int .u8 (s[i].toNat:Int)] H=some (.bool (B5 c),H):=fun H=>by rw [hc];exact TW c H
  have hw:=My c r
  have vK:DG (FC l i) c r≠0→lex (s.length+1) s 0 false = .error (i,DG (FC l i) c r):=fun h=>by rw [q9,hd,GP _ _ _ _ _ hb,if_pos h];rfl
  rcases List.eq_nil_or_concat l with rfl|⟨us,u,rfl⟩
  ·have he:DG (FC [] i) c r=(BC (c::r)).2:=by simp [DG,FC]
   refine eh B hB oLn s i _ _ _ _ hi (by omega) qF qA tj (by omega) Q (fun h0 t H pv => ?_) (fun h0 t H hf=>hE _ _ ?_)
   ·obtain ⟨j,hj,hI⟩:=UD (l:=[]) px hd hb (he.trans h0) hl qZ q9
    exact hN _ _ ⟨j,_,_,hj,pv,hI⟩
   ·rw [vK (by rw [he];exact h0),he];exact hf
  ·rw [List.concat_eq_append] at *
   obtain ⟨c0,c1,c2⟩:=gf us u;have hu:=hl u (by simp);have pp:us++[u]≠[]:=by simp
   have he:DG (FC (us++[u]) i) c r=if B5 c=true∧u.kind=2∧u.at_+u.text.length=i then 3 else (BC (c::r)).2:=by
    rw [UC];unfold DG
    by_cases h1:B5 c=true<;>by_cases h2:u.kind=2<;>by_cases h3:u.at_+u.text.length=i<;>simp [h1,h2,h3]
   have rE:∀l:List Wd,l≠[]→Fv l = .slice (.tok 0) 4 l.length (A6 l)∧EC l=[some (.tok l.length)]:=fun l h=>by simp [Fv,EC,h]
   rw [(rE _ pp).1,(rE _ pp).2];simp only [List.length_append,List.length_cons,List.length_nil,Nat.zero_add] at qZ ⊢;refine ei B hB oLn s i us.length (A6 (us++[u])) u.kind u.at_ u.text (B5 c) _ _ _ _ hi (by omega) qF qA c0 c1 c2 (Hu _) (by omega) (by omega) rG tj (by omega) Q _ he (fun h0 t H pv => ?_) (fun h0 t H hf=>hE _ _ ?_)
   ·obtain ⟨j,hj,hI⟩:=UD px hd hb h0 hl (by simpa using qZ) q9
    refine hN _ _ ⟨j,_,_,hj,pv,?_⟩;have h3:=rE ((us++[u])++[⟨(BC (c::r)).1.1,(BC (c::r)).1.2.1,i,(BC (c::r)).1.2.2⟩]) (by simp);rw [h3.1,h3.2] at hI;simpa [A6] using hI
   ·rw [vK h0];exact hf
noncomputable def M1:Code:=Cq 2 c11
noncomputable def Pe:Code:=Aj M1
noncomputable def gh:Code:=Aj Gr
theorem gi (s:List UInt8) (hs:s.length<By) (H:AH):CS zP AN 51 [.str s] H (Es (lex (s.length+1) s 0 false)) H:=by
 refine CS.frame (CS.of_Tr (H0:=[]) (H1:=[]) (c:=c11) Tryz.func51 (by kernel_rfl) 4 (by simp [Tryz.f51]) (fun B hB hG => ?_) (gb _) rfl) yEq rfl H;refine Tr.pre M0 hG 2 (R:=M1) rfl (by kernel_rfl) (by kernel_rfl) ?_;rw [Dm];simp [c11,Tryz.f51];refine Tr.seqD (a:=Gr) (b:=Pe) (by kernel_rfl) ?_;refine Tr.pre M0 hG 1 (R:=gh) (by kernel_rfl) (by kernel_rfl) (by kernel_rfl) ?_;rw [Dm];simp [Gr,c11,Tryz.f51];refine Tr.less (t':=mkT 89 [(0,.str s),(4,.nilSlice),(5,.int .i64 ((0:Nat):Int))]) (H':=[]) (AF.mkT 0 (by simp [hB]) ?_ rfl rfl) ?_
 ·simp
  exact ⟨.same rfl rfl,.same rfl rfl,.same rfl rfl⟩
 refine Tr.forD (a:=Fx) (id:=0) (by kernel_rfl) (Mz s) s.length ⟨0,[],by omega,rfl,rfl,by simp,by simp,?_⟩ ?_
 ·simp only [List.drop_zero,FC,List.getLast?_nil]
  cases lex (s.length+1) s 0 false<;>rfl
 rintro k t H ⟨i,l,px,rfl,rfl,hl,qZ,q9⟩;refine Tr.run M0 hG ef ?_;cases k with
 | succ k=>exact gg B hB s hs k i l px hl qZ q9 _ (fun t H h=>h) (fun t H h=>h)
 | zero =>
  obtain rfl:i=s.length:=by omega
  have pq:lex (s.length+1) s 0 false = .ok l:=by rw [q9,List.drop_length];simp [lex,Do]
  rw [pq];rw [Dm];simp [Fx,Gr,c11,Tryz.f51,Bt];refine Tr.run M0 hG (by kernel_rfl) ?_;rw [Dm]
  by_cases h:l=[]
  ·subst h
   simp [Pe,M1,c11,Tryz.f51,Fv,EC,Es,AD]
  ·simp [Pe,M1,c11,Tryz.f51,Fv,EC,Es,AD,h,Hu]
def Ag:Env:=⟨Cg.glob,LI,fun t=>Cg.imm t || t==27 || t==42,fun _=>false,fun _=>false⟩
@[simp] theorem nr (t:TypeId):Ag.soft t=false:=AR rfl
theorem Dx:Cz zP Ag:=KJ
theorem DO:∀i,low 0 (Ag.glob i)=true:=LJ
theorem CS.toX {f:FuncId} {args:List AV} {H H':AH} {v:AV} (h:CS zP Cg f args H v H'):CS zP Ag f args H v H':=fun g w cargs R hG hA=>h g w cargs R hG hA
theorem AS.toX {O:Orc} (h:AS zP Cg O):AS zP Ag O:=fun f args H v H' ho=>by obtain ⟨h1,h2,h3⟩:=h f args H v H' ho;exact ⟨CS.toX h1,h2,h3⟩
@[simp] theorem immXF:Ag.imm 156=true:=by decide
@[simp] theorem immXE:Ag.imm 27=true:=by decide
@[simp] theorem immXR:Ag.imm 304=false:=by decide
theorem KM:Cx Bk zP Ag:=⟨JI,Dx,Af⟩
def Dy:List UInt8:=[101,120,112,114]
def eAV:Option (Nat × Nat)→AV
 | none => .nilIface
 | some (p,c)=>AZ [(Dy,(p:Int))] (c:Int)
@[simp ↓ high] theorem gj (x:Option (Nat × Nat)):low 0 (eAV x)=true:=by
 cases x with
 | none=>rfl
 | some x=>exact GO _ _
@[simp ↓ high] theorem ns (x:Option (Nat × Nat)):Bg (eAV x)=[]:=by
 cases x with
 | none=>rfl
 | some x=>simp [eAV,AZ,Bg]
@[simp high] theorem nt (x:Option (Nat × Nat)):BI zP .eql 33 true (eAV x) .nilIface=some (.bool x.isNone):=by
 cases x with
 | none=>simp [eAV]
 | some x=>simp [eAV]
@[simp high] theorem nu (x:Option (Nat × Nat)):BI zP .neq 33 true (eAV x) .nilIface=some (.bool x.isSome):=by
 cases x with
 | none=>simp [eAV]
 | some x=>simp [eAV]
@[simp ↓ high] theorem nv (x:Option (Nat × Nat)):(eAV x).known=true:=by cases x<;>simp [eAV,AZ]
@[simp ↓ high] theorem nw (x:Option (Nat × Nat)):(eAV x).one=true:=by cases x<;>simp [eAV,AZ]
@[simp ↓ high] theorem ny (x:Option (Nat × Nat)):At (eAV x)=[eAV x]:=by cases x<;>simp [eAV,AZ]
theorem gk {x y:Option (Nat × Nat)} (h:eAV x=eAV y):x=y:=by
 cases x with
 | none=>cases y with
  | none=>rfl
  | some y=>simp [eAV,AZ] at h
 | some x=>cases y with
  | none=>simp [eAV,AZ] at h
  | some y =>
   obtain ⟨p,c⟩:=x;obtain ⟨q,d⟩:=y;simp [eAV,AZ] at h;obtain ⟨h1,h2⟩:=h;have e1:p=q:=by omega
   have e2:c=d:=by omega
   rw [e1,e2]
@[simp ↓ high] theorem Pf (l:List Wd):low 0 (AD l)=true:=by
 unfold AD;split
 ·rfl
 ·exact Hu l
@[simp ↓ high] theorem gl (l:List Wd):Bg (AD l)=[]:=by unfold AD;split<;>rfl
@[simp ↓ high] theorem nz (l:List Wd):(AD l).known=true:=by unfold AD;split<;>rfl
@[simp ↓ high] theorem n3 (l:List Wd):(AD l).one=true:=by unfold AD;split<;>rfl
@[simp ↓ high] theorem n4 (l:List Wd):At (AD l)=[AD l]:=by unfold AD;split<;>rfl
@[simp high] theorem alenX (l:List Wd):alen zP 125 (AD l)=some (.int .i64 l.length):=by
 unfold AD
 split
 ·rename_i h;subst h;simp [alen]
 ·simp [alen]
theorem KN:∀(l:List Wd) (i:Nat) (w:Wd),l[i]? = some w→((A6 l).drop (i*4)).take 4=BD w∧i*4+4≤(A6 l).length
 | [],i,w,h=>by simp at h
 | x::l,i,w,h=>by
  have hc:A6 (x::l)=BD x++A6 l:=rfl;have hx:(BD x).length=4:=rfl;cases i with
  | zero =>simp only [List.getElem?_cons_zero,Option.some.injEq] at h;subst h;rw [hc];refine ⟨?_,by simp [hx]⟩;rw [Nat.zero_mul,List.drop_zero,List.take_append_of_le_length (by omega),List.take_of_length_le (by omega)]
  | succ i =>simp only [List.getElem?_cons_succ] at h;obtain ⟨h1,h2⟩:=KN l i w h;rw [hc];refine ⟨?_,by simp only [List.length_append,hx];omega⟩;rw [List.drop_append,List.drop_of_length_le (by omega),hx,List.nil_append,show (i+1)*4-4=i*4 by omega];exact h1
@[simp high] theorem gm {l:List Wd} {i:Nat} (h:i<l.length):Av zP 125 (AD l) (.int .i64 (i:Int))=some (.vptr (A6 l) (i*4)):=by
 have pp:l≠[]:=by rintro rfl;simp at h
 have:(i:Int)<l.length:=by omega
 simp [AD,pp,Av,h]
theorem Ea {l:List Wd} {i:Nat} {w:Wd} (h:l[i]? = some w):(A6 l)[i*4]? = some (.int .i64 w.kind)∧(A6 l)[i*4+1]? = some (.str w.text)∧(A6 l)[i*4+3]? = some (.int .i64 w.n):=by
 obtain ⟨h1,h2⟩:=KN l i w h
 have key:∀k,k<4→(A6 l)[i*4+k]? = (BD w)[k]? := by intro k hk;rw [←h1,List.getElem?_take,if_pos hk,List.getElem?_drop]
 exact ⟨by simpa [BD] using key 0 (by omega),by simpa [BD] using key 1 (by omega),by simpa [BD] using key 3 (by omega)⟩
def rdC (ts:List Wd) (a d:Int) (x:Option (Nat × Nat)):List AV:=[AD ts,.int .i64 a,.int .i64 d,eAV x]
@[simp] theorem gn (ts:List Wd) (a d:Int) (x:Option (Nat × Nat)):rdC ts a d x=[AD ts,.int .i64 a,.int .i64 d,eAV x]:=AR rfl
def St.cells (ts:List Wd) (r:St):List AV:=rdC ts r.at_ r.deep r.err
theorem St.cells_low (ts:List Wd) (r:St):lowL 0 (r.cells ts)=true:=by simp [St.cells]
theorem St.cells_inj {ts:List Wd} {r q:St} (h:r.cells ts=q.cells ts):r=q:=by obtain ⟨a,d,x⟩:=r;obtain ⟨b,e,y⟩:=q;simp only [St.cells,gn,List.cons.injEq,AV.int.injEq,true_and,and_true] at h;obtain ⟨h1,h2,h3⟩:=h;have:=gk h3;subst this;simp only [St.mk.injEq,and_true];omega
theorem gp (ts:List Wd) (r:St) (p e:Nat) {H:AH} {id:Nat} (hH:H.at id=some (.box (r.cells ts))) :
  CS zP Ag 181 [.ptr id 0,.int .i64 (p:Int),.int .i64 (e:Int)] H (.tup []) (H.set id (some (.box ((r.fail p e).cells ts)))):=by
 refine CS.rd DO Tryz.func181 (by kernel_rfl) 0 (by simp [Tryz.f181]) (fun B hB hG => ?_) (by simp) rfl (St.cells_low ts r) (St.cells_low ts _) hH;refine Tr.goD KM hG (by kernel_rfl) ?_;cases he:r.err with
 | none=>simp [Tryz.f181,St.cells,St.fail,he,eAV,AZ,KD,Dy]
 | some x=>simp [Tryz.f181,St.cells,St.fail,he]
def Ex.kd:Ex→Int
 | .none=>0
 | .num _=>1
 | .var _=>2
 | .elem _ _=>3
 | .neg _=>4
 | .bin k _ _=>k
def Ex.nn:Ex→Int
 | .num n=>n
 | _=>0
def Ex.nm:Ex→List UInt8
 | .var s=>s
 | .elem s _=>s
 | _=>[]
mutual
def exC:Ex→List AV
 | .none=>[.int .i64 0,.int .i64 0,.str [],.nilSlice]
 | .num n=>[.int .i64 1,.int .i64 n,.str [],.nilSlice]
 | .var s=>[.int .i64 2,.int .i64 0,.str s,.nilSlice]
 | .elem s a=>[.int .i64 3,.int .i64 0,.str s,.slice .unk 4 a.length (B7 a)]
 | .neg e=>[.int .i64 4,.int .i64 0,.str [],.slice .full 4 1 (exC e)]
 | .bin k a b=>[.int .i64 k,.int .i64 0,.str [],.slice .full 4 2 (exC a++exC b)]
def B7:List Ex→List AV
 | []=>[]
 | e::l=>exC e++B7 l
end
def Ex.ar (e:Ex):AV:=(exC e).getD 3 .undef
@[simp] theorem Pg (e:Ex):exC e=[.int .i64 e.kd,.int .i64 e.nn,.str e.nm,e.ar]:=by cases e<;>rfl
theorem gq:Ex.none.ar = .nilSlice:=AR rfl
theorem gr (n:Nat):(Ex.num n).ar = .nilSlice:=AR rfl
theorem gt (s:List UInt8):(Ex.var s).ar = .nilSlice:=AR rfl
theorem gu (s:List UInt8) (a:List Ex):(Ex.elem s a).ar = .slice .unk 4 a.length (B7 a):=AR rfl
theorem gv (e:Ex):(Ex.neg e).ar = .slice .full 4 1 (exC e):=AR rfl
theorem gx (k:Nat) (a b:Ex):(Ex.bin k a b).ar = .slice .full 4 2 (exC a++exC b):=AR rfl
mutual
theorem LK:∀e:Ex,lowL 0 (exC e)=true
 | .none=>rfl
 | .num _=>rfl
 | .var _=>rfl
 | .elem s a=>by rw [exC];have:=Gw a;simp [this]
 | .neg e=>by rw [exC];have:=LK e;simpa using this
 | .bin k a b=>by rw [exC];have h1:=LK a;have h2:=LK b;simp only [Pg] at h1 h2;simp only [lowL,low,Bool.and_eq_true,true_and,and_true,Bool.true_and] at h1 h2;simp [h1,h2]
theorem Gw:∀l:List Ex,lowL 0 (B7 l)=true
 | []=>rfl
 | e::l=>by rw [B7,Dt,LK e,Gw l];rfl
end
theorem HV:∀a b:List Ex,B7 (a++b)=B7 a++B7 b
 | [],b=>rfl
 | e::a,b=>by rw [List.cons_append,B7,B7,HV a b,List.append_assoc]
@[simp ↓ high] theorem gy (e:Ex):low 0 e.ar=true:=by have:=LK e;rw [Pg] at this;simpa using this
@[simp ↓ high] theorem n5 (e:Ex):Bg e.ar=[]:=by cases e<;>rfl
@[simp ↓ high] theorem n6 (e:Ex):e.ar.known=true:=by cases e<;>rfl
@[simp ↓ high] theorem n7 (e:Ex):e.ar.one=true:=by cases e<;>rfl
@[simp ↓ high] theorem n9 (e:Ex):At e.ar=[e.ar]:=by cases e<;>rfl
def CN (e:Ex):AV := .agg (exC e)
@[simp] theorem oA (e:Ex):CN e = .agg [.int .i64 e.kd,.int .i64 e.nn,.str e.nm,e.ar]:=by rw [CN,Pg]
@[simp] theorem buE0:A3 zP 27 []=some (.agg [.int .i64 0,.int .i64 0,.str [],.nilSlice]):=by kernel_rfl
@[simp] theorem buE1 (k n:Int):A3 zP 27 [(0,.int .i64 k),(1,.int .i64 n)]=some (.agg [.int .i64 k,.int .i64 n,.str [],.nilSlice]):=by kernel_rfl
@[simp] theorem buE2 (k:Int) (s:List UInt8):A3 zP 27 [(0,.int .i64 k),(2,.str s)]=some (.agg [.int .i64 k,.int .i64 0,.str s,.nilSlice]):=by kernel_rfl
@[simp] theorem buE3 (k:Int) (ow:Own) (sz n:Nat) (cs:List AV):A3 zP 27 [(0,.int .i64 k),(3,.slice ow sz n cs)]=some (.agg [.int .i64 k,.int .i64 0,.str [],.slice ow sz n cs]):=by kernel_rfl
@[simp] theorem bsE1 (a b c d:AV):Ch zP 25 1 [(0,.agg [a,b,c,d])]=some (.slice .full 4 1 [a,b,c,d]):=by kernel_rfl
@[simp] theorem bsE2 (a b c d e f g h:AV):Ch zP 25 2 [(0,.agg [a,b,c,d]),(1,.agg [e,f,g,h])]=some (.slice .full 4 2 [a,b,c,d,e,f,g,h]):=by kernel_rfl
theorem gz (ts:List Wd) (r:St) (s:List UInt8) {H:AH} {id:Nat} (hH:H.at id=some (.box (r.cells ts))) :
  CS zP Ag 180 [.ptr id 0,.str s] H (.bool (Ac ts r s)) (H.set id (some (.box (r.cells ts)))):=by
 refine CS.rd DO Tryz.func180 (by kernel_rfl) 0 (by simp [Tryz.f180]) (fun B hB hG => ?_) (by simp) rfl (St.cells_low ts r) (St.cells_low ts _) hH;refine Tr.goD KM hG (by kernel_rfl) ?_;simp [Tryz.f180,St.cells];refine LpD.turns KM hG [] [] (by kernel_rfl) ?_;cases he:r.err with
 | some x=>simp [Ac,he]
 | none =>
  by_cases hl:r.at_<ts.length
  ·have hl':(r.at_:Int)<ts.length:=by omega
   obtain ⟨w,hw⟩:∃w,ts[r.at_]? = some w:=⟨_,List.getElem?_eq_getElem hl⟩
   obtain ⟨c0,c1,c3⟩:=Ea hw;have hn:isS ts r.at_ s=(w.kind==3&&w.text==s):=by simp only [isS,hw]
   by_cases hk:w.kind=3
   ·simp [Ac,hn,he,hl,hl',hk,c0,c1]
   ·have hk':((w.kind:Int)==3)=false:=by rw [beq_eq_false_iff_ne];omega
    simp [Ac,hn,he,hl,hl',hk,hk',c0,c1]
  ·have hl':¬((r.at_:Int)<ts.length):=by omega
   have hw:ts[r.at_]? = none:=List.getElem?_eq_none (by omega);have hn:isS ts r.at_ s=false:=by simp only [isS,hw]
   simp [Ac,hn,he,hl',hw]
theorem HW (r:St) (p e:Nat):r.fail p e=⟨r.at_,r.deep,some (r.err.getD (p,e))⟩:=by obtain ⟨a,d,x⟩:=r;cases x<;>rfl
theorem M2 {H:AH} {i j:Nat} {e x:Ent} (hx:H.at i=some x) (hj:H.at j=none):AH.at (H.set i (some e)) j=none:=by
 have x3:i≠j:=fun h=>by subst h;rw [hx] at hj;cases hj
 unfold AH.at at hj ⊢;rw [List.getElem?_set_ne x3];exact hj
open Classical in
noncomputable def oRd (ts:List Wd) (f0:FuncId) (spec:List AV→St→Option (AV × St)):Orc:=fun f args H =>
 if f=f0 then (match args with
  | .ptr id 0::rest=>if h:∃r:St,H.at id=some (.box (r.cells ts)) then (spec rest h.choose).map fun x=>(x.1,H.set id (some (.box (x.2.cells ts)))) else none
  | _=>none) else none
theorem Hx {ts:List Wd} {f0:FuncId} {spec:List AV→St→Option (AV × St)} {id:Nat} {rest:List AV} {H:AH} {r:St} (h:H.at id=some (.box (r.cells ts))) :
  oRd ts f0 spec f0 (.ptr id 0::rest) H=(spec rest r).map fun x=>(x.1,H.set id (some (.box (x.2.cells ts)))):=by
 have hx:∃r:St,H.at id=some (.box (r.cells ts)):=⟨r,h⟩
 have hc:=h.symm.trans hx.choose_spec;simp only [Option.some.injEq,Ent.box.injEq] at hc;have:hx.choose=r:=(St.cells_inj hc).symm;simp only [oRd,if_true,dif_pos hx,this]
theorem KO {ts:List Wd} {f0:FuncId} {spec:List AV→St→Option (AV × St)}
  (h:∀rest r v r',spec rest r=some (v,r')→∀H id,H.at id=some (.box (r.cells ts))→CS zP Ag f0 (.ptr id 0::rest) H v (H.set id (some (.box (r'.cells ts))))):AS zP Ag (oRd ts f0 spec):=by
 intro f args H v H' ho;unfold oRd at ho
 split at ho
 ·rename_i hf
  subst hf
  split at ho
  ·rename_i id rest
   split at ho
   ·rename_i hx
    obtain ⟨x,hs,sj⟩:=Option.map_eq_some_iff.1 ho;simp only [Prod.mk.injEq] at sj;obtain ⟨rfl,rfl⟩:=sj;refine ⟨h _ _ _ _ hs _ _ hx.choose_spec,by simp,fun j _ hj=>M2 hx.choose_spec hj⟩
   ·cases ho
  ·cases ho
 ·cases ho
def Eu (ts:List Wd) (rest:List AV) (r:St):Option (AV × St):=match rest with
 | [.str s]=>some (.bool (Ac ts r s),r)
 | _=>none
def F1 (rest:List AV) (r:St):Option (AV × St):=match rest with
 | [.int .i64 p,.int .i64 e]=>if 0≤p∧0≤e then some (.tup [],r.fail p.toNat e.toNat) else none
 | _=>none
theorem M3 (ts:List Wd):AS zP Ag (oRd ts 180 (Eu ts)):=KO fun rest r v r' h H id hH=>by
 unfold Eu at h
 split at h
 ·injection h with h
  simp only [Prod.mk.injEq] at h;obtain ⟨rfl,rfl⟩:=h;exact gz ts r _ hH
 ·cases h
theorem KP (ts:List Wd):AS zP Ag (oRd ts 181 F1):=KO fun rest r v r' h H id hH=>by
 unfold F1 at h
 split at h
 ·rename_i p e
  split at h
  ·rename_i wA
   injection h with h;simp only [Prod.mk.injEq] at h;obtain ⟨rfl,rfl⟩:=h;have:=gp ts r p.toNat e.toNat hH
   rwa [Int.toNat_of_nonneg wA.1,Int.toNat_of_nonneg wA.2] at this
  ·cases h
 ·cases h
theorem HX {ts:List Wd} {a d:Int} {x:Option (Nat × Nat)} {H:AH} (ha:0≤a) (hd:0≤d):AH.at (some (.box [AD ts,.int .i64 a,.int .i64 d,eAV x])::H) 0=some (.box ((⟨a.toNat,d.toNat,x⟩:St).cells ts)):=by simp [AH.at,St.cells,Int.toNat_of_nonneg ha,Int.toNat_of_nonneg hd]
structure Sm1 (O:Orc) (ts:List Wd):Prop where
 next:∀(a d:Int) (x:Option (Nat × Nat)) (s:List UInt8) (H:AH),0≤a→0≤d→O 180 [.ptr 0 0,.str s] (some (.box [AD ts,.int .i64 a,.int .i64 d,eAV x])::H) =
  some (.bool (Ac ts ⟨a.toNat,d.toNat,x⟩ s),some (.box [AD ts,.int .i64 a,.int .i64 d,eAV x])::H)
 fail:∀(a d:Int) (x:Option (Nat × Nat)) (p e:Int) (H:AH),0≤a→0≤d→0≤p→0≤e→O 181 [.ptr 0 0,.int .i64 p,.int .i64 e] (some (.box [AD ts,.int .i64 a,.int .i64 d,eAV x])::H) =
  some (.tup [],some (.box [AD ts,.int .i64 a,.int .i64 d,eAV (some (x.getD (p.toNat,e.toNat)))])::H)
theorem M4 {ts:List Wd} {a d:Int} {x:Option (Nat × Nat)} (s:List UInt8) (H:AH) (ha:0≤a) (hd:0≤d):oRd ts 180 (Eu ts) 180 [.ptr 0 0,.str s] (some (.box [AD ts,.int .i64 a,.int .i64 d,eAV x])::H) =
  some (.bool (Ac ts ⟨a.toNat,d.toNat,x⟩ s),some (.box [AD ts,.int .i64 a,.int .i64 d,eAV x])::H):=by
 rw [Hx (HX ha hd)];simp [Eu,St.cells,Int.toNat_of_nonneg ha,Int.toNat_of_nonneg hd]
theorem LL {ts:List Wd} {a d:Int} {x:Option (Nat × Nat)} (p e:Int) (H:AH) (ha:0≤a) (hd:0≤d) (hp:0≤p) (he:0≤e):oRd ts 181 F1 181 [.ptr 0 0,.int .i64 p,.int .i64 e] (some (.box [AD ts,.int .i64 a,.int .i64 d,eAV x])::H) =
  some (.tup [],some (.box [AD ts,.int .i64 a,.int .i64 d,eAV (some (x.getD (p.toNat,e.toNat)))])::H):=by
 rw [Hx (HX ha hd)];simp [F1,HW,St.cells,Int.toNat_of_nonneg ha,Int.toNat_of_nonneg hd,hp,he]
noncomputable def M5 (ts:List Wd):Orc:=A4 [(180,oRd ts 180 (Eu ts)),(181,oRd ts 181 F1)]
theorem g9 (ts:List Wd):Cx (M5 ts) zP Ag:=⟨FM (by
 intro p hp;simp only [List.mem_cons,List.not_mem_nil,or_false] at hp;rcases hp with rfl|rfl
 ·exact M3 ts
 ·exact KP ts),Dx,Af⟩
theorem UE (ts:List Wd):Sm1 (M5 ts) ts:=⟨fun a d x s H ha hd=>by
  rw [←M4 s H ha hd];simp [M5,A4,List.lookup],fun a d x p e H ha hd hp he=>by
  rw [←LL p e H ha hd hp he];simp [M5,A4,List.lookup]⟩
theorem FE {ts:List Wd} {r:St} {s:List UInt8} (h:Ac ts r s=true):r.at_<ts.length:=by
 simp only [Ac,isS,Bool.and_eq_true] at h;have h2:=h.2
 split at h2
 ·rename_i hw;exact (List.getElem?_eq_some_iff.1 hw).1
 ·cases h2
def GQ (ts:List Wd) (r:St) (s:List UInt8):St:=if Ac ts r s=true then r.step else r
theorem hJ (ts:List Wd) (po:ts.length<1000000) (r:St) (s:List UInt8) {H:AH} {id:Nat} (hH:H.at id=some (.box (r.cells ts))) :
  CS zP Ag 233 [.ptr id 0,.str s] H (.bool (Ac ts r s)) (H.set id (some (.box ((GQ ts r s).cells ts)))):=by
 refine CS.rd DO Tryz.func233 (by kernel_rfl) 0 (by simp [Tryz.f233]) (fun B hB hG => ?_) (by simp) rfl (St.cells_low ts r) (St.cells_low ts _) hH;refine Tr.goD (g9 ts) hG (by kernel_rfl) ?_;cases hn:Ac ts r s with
 | true =>have hl:=FE hn;have w1:IntKind.i64.wrap ((r.at_:Int)+1)=(r.at_:Int)+1:=Ab (by omega) (by omega);simp [Tryz.f233,St.cells,GQ,hn,(UE ts).next,w1,St.step]
 | false=>simp [Tryz.f233,St.cells,GQ,hn,(UE ts).next]
def Dz (ts:List Wd) (rest:List AV) (r:St):Option (AV × St):=match rest with
 | [.str s]=>some (.bool (Ac ts r s),GQ ts r s)
 | _=>none
theorem Ph (ts:List Wd) (po:ts.length<1000000):AS zP Ag (oRd ts 233 (Dz ts)):=KO fun rest r v r' h H id hH=>by
 unfold Dz at h
 split at h
 ·injection h with h
  simp only [Prod.mk.injEq] at h;obtain ⟨rfl,rfl⟩:=h;exact hJ ts po r _ hH
 ·cases h
theorem Pi {ts:List Wd} {a d:Int} {x:Option (Nat × Nat)} (s:List UInt8) (H:AH) (ha:0≤a) (hd:0≤d) (hn:Ac ts ⟨a.toNat,d.toNat,x⟩ s=true) :
  oRd ts 233 (Dz ts) 233 [.ptr 0 0,.str s] (some (.box [AD ts,.int .i64 a,.int .i64 d,eAV x])::H)=some (.bool true,some (.box [AD ts,.int .i64 (a+1),.int .i64 d,eAV x])::H):=by
 rw [Hx (HX ha hd)];simp [Dz,GQ,hn,St.step,St.cells,Int.toNat_of_nonneg ha,Int.toNat_of_nonneg hd]
theorem Pj {ts:List Wd} {a d:Int} {x:Option (Nat × Nat)} (s:List UInt8) (H:AH) (ha:0≤a) (hd:0≤d) (hn:Ac ts ⟨a.toNat,d.toNat,x⟩ s=false) :
  oRd ts 233 (Dz ts) 233 [.ptr 0 0,.str s] (some (.box [AD ts,.int .i64 a,.int .i64 d,eAV x])::H)=some (.bool false,some (.box [AD ts,.int .i64 a,.int .i64 d,eAV x])::H):=by
 rw [Hx (HX ha hd)];simp [Dz,GQ,hn,St.cells,Int.toNat_of_nonneg ha,Int.toNat_of_nonneg hd]
noncomputable def JP (ts:List Wd):Orc:=A4 [(233,oRd ts 233 (Dz ts)),(181,oRd ts 181 F1)]
theorem hU (ts:List Wd) (po:ts.length<1000000):Cx (JP ts) zP Ag:=⟨FM (by
 intro p hp;simp only [List.mem_cons,List.not_mem_nil,or_false] at hp;rcases hp with rfl|rfl
 ·exact Ph ts po
 ·exact KP ts),Dx,Af⟩
theorem iA {ts:List Wd}:∀(a d:Int) (x:Option (Nat × Nat)) (s:List UInt8) (H:AH),0≤a→0≤d→Ac ts ⟨a.toNat,d.toNat,x⟩ s=true →
  JP ts 233 [.ptr 0 0,.str s] (some (.box [AD ts,.int .i64 a,.int .i64 d,eAV x])::H)=some (.bool true,some (.box [AD ts,.int .i64 (a+1),.int .i64 d,eAV x])::H):=fun a d x s H ha hd hn=>by
 rw [←Pi s H ha hd hn];simp [JP,A4,List.lookup]
theorem iB {ts:List Wd}:∀(a d:Int) (x:Option (Nat × Nat)) (s:List UInt8) (H:AH),0≤a→0≤d→Ac ts ⟨a.toNat,d.toNat,x⟩ s=false →
  JP ts 233 [.ptr 0 0,.str s] (some (.box [AD ts,.int .i64 a,.int .i64 d,eAV x])::H)=some (.bool false,some (.box [AD ts,.int .i64 a,.int .i64 d,eAV x])::H):=fun a d x s H ha hd hn=>by
 rw [←Pj s H ha hd hn];simp [JP,A4,List.lookup]
theorem iC {ts:List Wd}:∀(a d:Int) (x:Option (Nat × Nat)) (p e:Int) (H:AH),0≤a→0≤d→0≤p→0≤e→JP ts 181 [.ptr 0 0,.int .i64 p,.int .i64 e] (some (.box [AD ts,.int .i64 a,.int .i64 d,eAV x])::H) =
  some (.tup [],some (.box [AD ts,.int .i64 a,.int .i64 d,eAV (some (x.getD (p.toNat,e.toNat)))])::H):=fun a d x p e H ha hd hp he=>by
 rw [←LL p e H ha hd hp he];simp [JP,A4,List.lookup]
theorem iD (ts:List Wd) (po:ts.length<1000000) (r:St) (s:List UInt8) {H:AH} {id:Nat} (hH:H.at id=some (.box (r.cells ts))) :
  CS zP Ag 235 [.ptr id 0,.str s] H (.tup []) (H.set id (some (.box ((CL ts r s).cells ts)))):=by
 refine CS.rd DO Tryz.func235 (by kernel_rfl) 0 (by simp [Tryz.f235]) (fun B hB hG => ?_) (by simp) rfl (St.cells_low ts r) (St.cells_low ts _) hH;refine Tr.goD (hU ts po) hG (by kernel_rfl) ?_;cases hn:Ac ts r s with
 | true=>simp [Tryz.f235,St.cells,CL,hn,iA,St.step]
 | false=>simp [Tryz.f235,St.cells,CL,hn,iB,iC,HW]
def KQ (ts:List Wd) (rest:List AV) (r:St):Option (AV × St):=match rest with
 | [.str s]=>some (.tup [],CL ts r s)
 | _=>none
theorem UF (ts:List Wd) (po:ts.length<1000000):AS zP Ag (oRd ts 235 (KQ ts)):=KO fun rest r v r' h H id hH=>by
 unfold KQ at h
 split at h
 ·injection h with h
  simp only [Prod.mk.injEq] at h;obtain ⟨rfl,rfl⟩:=h;exact iD ts po r _ hH
 ·cases h
theorem AF.mkK {B:Bs} {n:Nat} {l l':List (Nat × AV)} {H H':AH} (m:Nat) (hm:B.H.length≤m) (h:∀p∈l',(l.lookup p.1).getD .undef=p.2∧low m p.2=true) (hH:H.take m=H') (hl:AP m H'=true):AF B (Fw.mkT n l) H (Fw.mkT n l') H' :=AF.mkT m hm (fun p hp => .same (h p hp).1 (h p hp).2) hH hl
theorem M6 (m:Nat) {a:AV} (h:low 0 a=true):low m a=true:=CY (Nat.zero_le m) a h
@[simp ↓ high] theorem oB (m:Nat) (e:Ex):low m e.ar=true:=M6 m (gy e)
@[simp ↓ high] theorem oC (m:Nat) (x:Option (Nat × Nat)):low m (eAV x)=true:=M6 m (gj x)
@[simp ↓ high] theorem oD (m:Nat) (l:List Wd):low m (AD l)=true:=M6 m (Pf l)
@[simp] theorem oE:Ex.none.kd=0:=AR rfl
@[simp] theorem oF (n:Nat):(Ex.num n).kd=1:=AR rfl
@[simp] theorem oG (s:List UInt8):(Ex.var s).kd=2:=AR rfl
@[simp] theorem oH (s:List UInt8) (a:List Ex):(Ex.elem s a).kd=3:=AR rfl
@[simp] theorem oI (e:Ex):(Ex.neg e).kd=4:=AR rfl
@[simp] theorem oJ (k:Nat) (a b:Ex):(Ex.bin k a b).kd=(k:Int):=AR rfl
@[simp] theorem oK:Ex.none.nn=0:=AR rfl
@[simp] theorem oL (n:Nat):(Ex.num n).nn=n:=AR rfl
@[simp] theorem oM (s:List UInt8):(Ex.var s).nn=0:=AR rfl
@[simp] theorem oN (s:List UInt8) (a:List Ex):(Ex.elem s a).nn=0:=AR rfl
@[simp] theorem oO (e:Ex):(Ex.neg e).nn=0:=AR rfl
@[simp] theorem oP (k:Nat) (a b:Ex):(Ex.bin k a b).nn=0:=AR rfl
@[simp] theorem oQ:Ex.none.nm=[]:=AR rfl
@[simp] theorem oS (n:Nat):(Ex.num n).nm=[]:=AR rfl
@[simp] theorem oT (s:List UInt8):(Ex.var s).nm=s:=AR rfl
@[simp] theorem oU (s:List UInt8) (a:List Ex):(Ex.elem s a).nm=s:=AR rfl
@[simp] theorem oV (e:Ex):(Ex.neg e).nm=[]:=AR rfl
@[simp] theorem oW (k:Nat) (a b:Ex):(Ex.bin k a b).nm=[]:=AR rfl
attribute [simp] gq gr gt gu gv gx
def upw (of:Rd):Prop:=∀r,r.at_≤(of r).2.at_
theorem Pk {ts:List Wd} {of:Rd} (h:upw of) {f s:List UInt8} {one two:Nat}:∀(n:Nat) (e:Ex),upw (DF ts of f one s two n e)
 | 0,e,r=>Nat.le_refl _
 | n+1,e,r=>by
  have h1:=h r.step;simp only [DF]
  split
  ·exact Nat.le_refl _
  ·split
   ·have:=Pk h (ts:=ts) (f:=f) (s:=s) (one:=one) (two:=two) n (.bin two e (of r.step).1) (of r.step).2
    simp only [St.step] at h1 this ⊢;omega
   ·split
    ·have:=Pk h (ts:=ts) (f:=f) (s:=s) (one:=one) (two:=two) n (.bin one e (of r.step).1) (of r.step).2
     simp only [St.step] at h1 this ⊢;omega
    ·exact Nat.le_refl _
theorem M7 {ts:List Wd} {of:Rd} (h:upw of) {f s:List UInt8} {one two:Nat}:upw (Et ts of f one s two):=fun r=>Nat.le_trans (h r) (Pk h _ _ _)
def Ans (O:Orc) (ts:List Wd) (g:FuncId) (of:Rd) (n:Nat):Prop:=∀(a d:Int) (x:Option (Nat × Nat)) (H:AH),0≤a→0≤d→d≤20→ts.length-a.toNat<n →
 O g [.ptr 0 0] (some (.box [AD ts,.int .i64 a,.int .i64 d,eAV x])::H)=some (CN (of ⟨a.toNat,d.toNat,x⟩).1,some (.box ((of ⟨a.toNat,d.toNat,x⟩).2.cells ts))::H)
def RowI (ts:List Wd) (of:Rd) (g:FuncId) (f:List UInt8) (one:Nat) (s:List UInt8) (two:Nat) (n:Nat) (res:Ex × St) (k:Nat) (t:List AV) (H:AH):Prop :=
 ∃(e:Ex) (r:St),DF ts of f one s two k e r=res∧ts.length-r.at_<k∧ts.length-r.at_<n∧r.deep≤20 ∧
  t=mkT 47 [(0,.ptr 0 0),(1,.func (.func g) [.ptr 0 0] []),(2,.str f),(3,.int .i64 one),(4,.str s),(5,.int .i64 two),(12,.ptr 1 0),(13,.ptr 2 0)] ∧
  H=[some (.box (r.cells ts)),some (.box (exC .none)),some (.box (exC e))]
theorem iE (ts:List Wd) (po:ts.length<1000000) {O:Orc} (X:Cx O zP Ag) (hN:∀(a d:Int) (x:Option (Nat × Nat)) (s:List UInt8) (H:AH),0≤a→0≤d→O 180 [.ptr 0 0,.str s] (some (.box [AD ts,.int .i64 a,.int .i64 d,eAV x])::H) =
  some (.bool (Ac ts ⟨a.toNat,d.toNat,x⟩ s),some (.box [AD ts,.int .i64 a,.int .i64 d,eAV x])::H)) {g:FuncId} (hg:AE zP g=true) {of:Rd} {n:Nat} (hA:Ans O ts g of n) (hu:upw of) (hd:∀r,(of r).2.deep=r.deep)
  (f:List UInt8) (one:Nat) (s:List UInt8) (two:Nat) (r:St) (hr:r.deep≤20) (hn:ts.length-r.at_<n) (B:Bs) (hB:B.H=[some (.box (r.cells ts))]) (hG:An Ag B.g) :
  Tr zP B (Ar Tryz.f209) (mkT 47 (D8 0 [.ptr 0 0,.func (.func g) [.ptr 0 0] [],.str f,.int .i64 one,.str s,.int .i64 two])) [some (.box (r.cells ts))]
   (Fin zP Tryz.f209 1 0 (CN (Et ts of f one s two r).1) [some (.box ((Et ts of f one s two r).2.cells ts))]):=by
 have rL:((r.deep:Int))≤20:=by omega
 have h1:=fun H=>hA r.at_ r.deep r.err H (by omega) (by omega) rL (by simpa using hn)
 simp only [Int.toNat_natCast] at h1;have uf:=hu r;have qJ:=hd r;simp only [Et];generalize x4:of r=p at *;obtain ⟨e,q⟩:=p;simp only at h1 uf qJ;refine Tr.goD X hG (by kernel_rfl) ?_;simp [St.cells] at h1;simp [Tryz.f209,St.cells,hg,h1]
 refine LpD.loopN X hG (by kernel_rfl) (RowI ts of g f one s two n (DF ts of f one s two (ts.length+1) e q)) (ts.length+1)
  (t':=mkT 47 [(0,.ptr 0 0),(1,.func (.func g) [.ptr 0 0] []),(2,.str f),(3,.int .i64 one),(4,.str s),(5,.int .i64 two),(12,.ptr 1 0),(13,.ptr 2 0)])
  (H':=[some (.box (q.cells ts)),some (.box (exC .none)),some (.box (exC e))]) (AF.mkK 3 (by simp [hB]) (by simp) (by simp [St.cells]) (by simp [St.cells])) ⟨e,q,rfl,by omega,by omega,by omega,rfl,rfl⟩ ?_
 rintro k t H ⟨e',r',pq,hk,uJ,qu,rfl,rfl⟩;cases k with
 | zero=>omega
 | succ k =>
  have wB:(r'.deep:Int)≤20:=by omega
  cases he:r'.err with
  | some x =>
   have qN:DF ts of f one s two (k+1) e' r'=(.none,r'):=by simp [DF,he]
   rw [←pq,qN];simp [St.cells,he,Bt]
  | none =>
   obtain ⟨a,d,x⟩:=r';simp only at he hk uJ qu wB;subst he;cases hs:Ac ts ⟨a,d,none⟩ s with
   | true =>
    have hl:a<ts.length:=FE hs;have w1:IntKind.i64.wrap ((a:Int)+1)=(a:Int)+1:=Ab (by omega) (by omega);have h2:=fun H=>hA (a+1:Nat) d none H (by omega) (by omega) wB (by simp only [Int.toNat_natCast];omega)
    simp [St.cells] at h2;simp [St.cells,hN,hs,w1,Bt];refine LpD.turns X hG [3,6] [(0,3),(1,3)] (by kernel_rfl) ?_;simp [hg,h2]
    refine Nxt.mk k (by omega) (AF.mkK 3 (l':=[(0,.ptr 0 0),(1,.func (.func g) [.ptr 0 0] []),(2,.str f),(3,.int .i64 one),(4,.str s),(5,.int .i64 two),(12,.ptr 1 0),(13,.ptr 2 0)])
     (H':=[some (.box ((of ⟨a+1,d,none⟩).2.cells ts)),some (.box (exC .none)),some (.box (exC (.bin two e' (of ⟨a+1,d,none⟩).1)))]) (by simp [hB]) (by simp) (by simp [St.cells]) (by simp [St.cells]))
     ⟨.bin two e' (of ⟨a+1,d,none⟩).1,(of ⟨a+1,d,none⟩).2,?_,?_,?_,?_,rfl,rfl⟩
    ·rw [←pq];simp [DF,hs,St.step]
    ·have:=hu ⟨a+1,d,none⟩;simp only at this;omega
    ·have:=hu ⟨a+1,d,none⟩;simp only at this;omega
    ·have:=hd ⟨a+1,d,none⟩;simp only at this;omega
   | false =>
    cases hf:Ac ts ⟨a,d,none⟩ f with
    | true =>
     have hl:a<ts.length:=FE hf;have w1:IntKind.i64.wrap ((a:Int)+1)=(a:Int)+1:=Ab (by omega) (by omega);have h2:=fun H=>hA (a+1:Nat) d none H (by omega) (by omega) wB (by simp only [Int.toNat_natCast];omega)
     simp [St.cells] at h2;simp [St.cells,hN,hs,hf,w1,Bt];refine LpD.turns X hG [3,6] [(0,3),(1,3)] (by kernel_rfl) ?_;simp [hg,h2]
     refine Nxt.mk k (by omega) (AF.mkK 3 (l':=[(0,.ptr 0 0),(1,.func (.func g) [.ptr 0 0] []),(2,.str f),(3,.int .i64 one),(4,.str s),(5,.int .i64 two),(12,.ptr 1 0),(13,.ptr 2 0)])
      (H':=[some (.box ((of ⟨a+1,d,none⟩).2.cells ts)),some (.box (exC .none)),some (.box (exC (.bin one e' (of ⟨a+1,d,none⟩).1)))]) (by simp [hB]) (by simp) (by simp [St.cells]) (by simp [St.cells]))
      ⟨.bin one e' (of ⟨a+1,d,none⟩).1,(of ⟨a+1,d,none⟩).2,?_,?_,?_,?_,rfl,rfl⟩
     ·rw [←pq];simp [DF,hs,hf,St.step]
     ·have:=hu ⟨a+1,d,none⟩;simp only at this;omega
     ·have:=hu ⟨a+1,d,none⟩;simp only at this;omega
     ·have:=hd ⟨a+1,d,none⟩;simp only at this;omega
    | false =>
     have qN:DF ts of f one s two (k+1) e' ⟨a,d,none⟩=(e',⟨a,d,none⟩):=by simp [DF,hs,hf]
     rw [←pq,qN];simp [St.cells,hN,hs,hf,Bt]
theorem iF (ts:List Wd) (po:ts.length<1000000) {O:Orc} (X:Cx O zP Ag) (hN:∀(a d:Int) (x:Option (Nat × Nat)) (s:List UInt8) (H:AH),0≤a→0≤d→O 180 [.ptr 0 0,.str s] (some (.box [AD ts,.int .i64 a,.int .i64 d,eAV x])::H) =
  some (.bool (Ac ts ⟨a.toNat,d.toNat,x⟩ s),some (.box [AD ts,.int .i64 a,.int .i64 d,eAV x])::H)) {g:FuncId} (hg:AE zP g=true) {of:Rd} {n:Nat} (hA:Ans O ts g of n) (hu:upw of) (hd:∀r,(of r).2.deep=r.deep)
  (f:List UInt8) (one:Nat) (s:List UInt8) (two:Nat) (r:St) (hr:r.deep≤20) (hn:ts.length-r.at_<n) {H:AH} {id:Nat} (hH:H.at id=some (.box (r.cells ts))) :
  CS zP Ag 209 [.ptr id 0,.func (.func g) [.ptr id 0] [],.str f,.int .i64 one,.str s,.int .i64 two] H (CN (Et ts of f one s two r).1) (H.set id (some (.box ((Et ts of f one s two r).2.cells ts)))):=by
 have:=CS.rdR (rest:=[.func (.func g) [.ptr 0 0] [],.str f,.int .i64 one,.str s,.int .i64 two]) DO Tryz.func209 (by kernel_rfl) 0 (by simp [Tryz.f209])
  (fun B hB hG=>iE ts po X hN hg hA hu hd f one s two r hr hn B hB hG) (by simp) (by simp) (St.cells_low ts r) (St.cells_low ts _) hH
 simpa [AM,ren] using this
theorem UG {p:Nat} {f:Rd} (h:upw f):upw (inF p f):=by
 intro r
 by_cases hd:r.deep+1>20
 ·cases he:r.err with
  | none=>simp [inF,hd,he,St.fail]
  | some x=>simp [inF,hd,he,St.fail]
 ·cases he:r.err with
  | none=>simp only [inF,if_neg hd,he,Option.isNone_none,if_true];exact h ⟨r.at_,r.deep+1,none⟩
  | some x=>simp [inF,hd,he]
theorem Ic (r:St) (p e:Nat):(r.fail p e).at_=r.at_:=by unfold St.fail;split<;>rfl
theorem M8 (ts:List Wd) (r:St) (s:List UInt8):r.at_≤(CL ts r s).at_:=by
 unfold CL;split
 ·simp [St.step]
 ·rw [Ic];exact Nat.le_refl _
theorem UH {ts:List Wd} {f:Rd} (h:upw f):∀(n:Nat) (a:List Ex) (r:St),r.at_≤(C7 ts f n a r).2.at_
 | 0,_,_=>Nat.le_refl _
 | n+1,a,r=>by
  have h1:=h r;simp only [C7]
  split
  ·have h2:=UH h (ts:=ts) n (a++[(f r).1]) (if a.length+1==4 then (f r).2.fail (f r).2.at_ 4 else (f r).2).step
   have h3:(f r).2.at_≤(if a.length+1==4 then (f r).2.fail (f r).2.at_ 4 else (f r).2).step.at_:=by
    split
    ·simp [St.step,Ic]
    ·simp [St.step]
   omega
  ·exact h1
theorem iG {ts:List Wd} {sf f:Rd} (hs:upw sf) (h:upw f):upw (Cj ts sf f):=by
 intro r;unfold Cj
 split
 ·split
  ·simp [St.step]
  ·split
   ·unfold Dw
    split
    ·have h1:=UH (ts:=ts) hs 6 [] r.step.step
     have h2:=M8 ts (C7 ts sf 6 [] r.step.step).2 A0;simp only [St.step] at h1 h2 ⊢;omega
    ·simp [St.step]
   ·split
    ·have:=UG (p:=r.at_) h r.step
     simp only [St.step] at this ⊢;omega
    ·split
     ·have h1:=UG (p:=r.at_) hs r.step
      have h2:=M8 ts (inF r.at_ sf r.step).2 A0;simp only [St.step] at h1 h2 ⊢;omega
     ·rw [Ic];exact Nat.le_refl _
 ·rw [Ic];exact Nat.le_refl _
theorem M9 (ts:List Wd):∀n,upw (fac ts n)
 | 0=>fun _=>Nat.le_refl _
 | n+1=>iG (M7 (M7 (M9 ts n))) (M9 ts n)
theorem UI (ts:List Wd) (n:Nat):∀r,(fac ts n r).2.deep=r.deep:=(FS ts n).2.2.2.1
theorem iH (ts:List Wd) (n:Nat):∀r,(JN ts (fac ts n) r).2.deep=r.deep:=(KF (ts:=ts) (f:=Du) (s:=Dv) (FS ts n) (by decide) 7 8).2.2.2.1
theorem Pl (ts:List Wd) (n:Nat):∀r,(CR ts (fac ts n) r).2.deep=r.deep:=(IW (ts:=ts) (FS ts n)).2.2.2.1
theorem UJ (ts:List Wd) (n:Nat):upw (JN ts (fac ts n)):=M7 (M9 ts n)
theorem iI (ts:List Wd) (n:Nat):upw (CR ts (fac ts n)):=M7 (UJ ts n)
open Classical in
noncomputable def GR (ts:List Wd) (f0:FuncId) (spec:Nat→List AV→St→Option (AV × St)):Orc:=fun f args H =>
 if f=f0 then (match args with
  | .ptr id 0::rest=>if h:∃r:St,H.at id=some (.box (r.cells ts)) then (spec id rest h.choose).map fun x=>(x.1,H.set id (some (.box (x.2.cells ts)))) else none
  | _=>none) else none
theorem Pm {ts:List Wd} {f0:FuncId} {spec:Nat→List AV→St→Option (AV × St)} {id:Nat} {rest:List AV} {H:AH} {r:St} (h:H.at id=some (.box (r.cells ts))) :
  GR ts f0 spec f0 (.ptr id 0::rest) H=(spec id rest r).map fun x=>(x.1,H.set id (some (.box (x.2.cells ts)))):=by
 have hx:∃r:St,H.at id=some (.box (r.cells ts)):=⟨r,h⟩
 have hc:=h.symm.trans hx.choose_spec;simp only [Option.some.injEq,Ent.box.injEq] at hc;have:hx.choose=r:=(St.cells_inj hc).symm;simp only [GR,if_true,dif_pos hx,this]
theorem UK {ts:List Wd} {f0:FuncId} {spec:Nat→List AV→St→Option (AV × St)}
  (h:∀id rest r v r',spec id rest r=some (v,r')→∀H,H.at id=some (.box (r.cells ts))→CS zP Ag f0 (.ptr id 0::rest) H v (H.set id (some (.box (r'.cells ts))))):AS zP Ag (GR ts f0 spec):=by
 intro f args H v H' ho;unfold GR at ho
 split at ho
 ·rename_i hf
  subst hf
  split at ho
  ·rename_i id rest
   split at ho
   ·rename_i hx
    obtain ⟨x,hs,sj⟩:=Option.map_eq_some_iff.1 ho;simp only [Prod.mk.injEq] at sj;obtain ⟨rfl,rfl⟩:=sj;refine ⟨h _ _ _ _ _ hs _ hx.choose_spec,by simp,fun j _ hj=>M2 hx.choose_spec hj⟩
   ·cases ho
  ·cases ho
 ·cases ho
def Gx (ts:List Wd) (of:Rd) (n:Nat) (rest:List AV) (r:St):Option (AV × St):=match rest with
 | []=>if r.deep≤20∧ts.length-r.at_<n then some (CN (of r).1,(of r).2) else none
 | _=>none
def Dp (ts:List Wd) (g:FuncId) (of:Rd) (n:Nat):Prop:=AS zP Ag (oRd ts g (Gx ts of n))
theorem Dp.mk' {ts:List Wd} {g:FuncId} {of:Rd} {n:Nat} (h:∀r:St,r.deep≤20→ts.length-r.at_<n→∀H id,H.at id=some (.box (r.cells ts))→CS zP Ag g [.ptr id 0] H (CN (of r).1) (H.set id (some (.box ((of r).2.cells ts))))):Dp ts g of n :=
 KO fun rest r v r' hs H id hH=>by
  unfold Gx at hs
  split at hs
  ·split at hs
   ·rename_i hc
    injection hs with hs;simp only [Prod.mk.injEq] at hs;obtain ⟨rfl,rfl⟩:=hs;exact h r hc.1 hc.2 H id hH
   ·cases hs
  ·cases hs
theorem Pn {ts:List Wd} {g:FuncId} {of:Rd} {n:Nat}:Ans (oRd ts g (Gx ts of n)) ts g of n:=fun a d x H ha hd qD hm=>by
 rw [Hx (HX ha hd)];have h1:d.toNat≤20:=by omega
 simp only [Gx,if_pos (And.intro h1 hm),Option.map_some,List.set_cons_zero]
noncomputable def oNG (ts:List Wd) (g:FuncId) (of:Rd) (n:Nat):Orc:=orElse (oRd ts 180 (Eu ts)) (oRd ts g (Gx ts of n))
theorem iJ {ts:List Wd} {g:FuncId} {of:Rd} {n:Nat} (h:Dp ts g of n):Cx (oNG ts g of n) zP Ag:=⟨AS.orElse (M3 ts) h,Dx,Af⟩
theorem iK {ts:List Wd} {g:FuncId} {of:Rd} {n:Nat} (a d:Int) (x:Option (Nat × Nat)) (s:List UInt8) (H:AH) (ha:0≤a) (hd:0≤d):oNG ts g of n 180 [.ptr 0 0,.str s] (some (.box [AD ts,.int .i64 a,.int .i64 d,eAV x])::H) =
  some (.bool (Ac ts ⟨a.toNat,d.toNat,x⟩ s),some (.box [AD ts,.int .i64 a,.int .i64 d,eAV x])::H):=by
 simp only [oNG,orElse,M4 s H ha hd]
theorem iL {ts:List Wd} {g:FuncId} {of:Rd} {n:Nat} (hg:g≠180):Ans (oNG ts g of n) ts g of n:=fun a d x H ha hd qD hm=>by
 have:=Pn (g:=g) (of:=of) (n:=n) a d x H ha hd qD hm;have h1:oRd ts 180 (Eu ts) g [.ptr 0 0] (some (.box [AD ts,.int .i64 a,.int .i64 d,eAV x])::H)=none:=by simp [oRd,hg]
 simp only [oNG,orElse,h1,this]
def KR (ts:List Wd) (g:FuncId) (of:Rd) (n:Nat) (id:Nat) (rest:List AV) (r:St):Option (AV × St):=match rest with
 | [.func (.func g') [.ptr id' 0] [],.str f,.int .i64 one,.str s,.int .i64 two] =>if g'=g∧id'=id∧0≤one∧0≤two∧r.deep≤20∧ts.length-r.at_<n then some (CN (Et ts of f one.toNat s two.toNat r).1,(Et ts of f one.toNat s two.toNat r).2) else none
 | _=>none
theorem UL {ts:List Wd} (po:ts.length<1000000) {g:FuncId} {of:Rd} {n:Nat} (h:Dp ts g of n) (pp:g≠180) (hg:AE zP g=true) (hu:upw of) (hd:∀r,(of r).2.deep=r.deep) :
  AS zP Ag (GR ts 209 (KR ts g of n)):=UK fun id rest r v r' hs H hH=>by
 unfold KR at hs
 split at hs
 ·rename_i g' id' f one s two
  split at hs
  ·rename_i hc
   obtain ⟨rfl,rfl,h1,h2,h3,h4⟩:=hc;injection hs with hs;simp only [Prod.mk.injEq] at hs;obtain ⟨rfl,rfl⟩:=hs;have:=iF ts po (iJ h) (fun a d x s H ha hd=>iK a d x s H ha hd) hg (iL pp) hu hd f one.toNat s two.toNat r h3 h4 hH
   rwa [Int.toNat_of_nonneg h1,Int.toNat_of_nonneg h2] at this
  ·cases hs
 ·cases hs
theorem UM {ts:List Wd} {g:FuncId} {of:Rd} {n:Nat} {a d:Int} {x:Option (Nat × Nat)} (f s:List UInt8) (one two:Nat) (H:AH) (ha:0≤a) (hd:0≤d) (qD:d≤20) (hm:ts.length-a.toNat<n) :
  GR ts 209 (KR ts g of n) 209 [.ptr 0 0,.func (.func g) [.ptr 0 0] [],.str f,.int .i64 one,.str s,.int .i64 two] (some (.box [AD ts,.int .i64 a,.int .i64 d,eAV x])::H) =
  some (CN (Et ts of f one s two ⟨a.toNat,d.toNat,x⟩).1,some (.box ((Et ts of f one s two ⟨a.toNat,d.toNat,x⟩).2.cells ts))::H):=by
 rw [Pm (HX ha hd)];have h1:d.toNat≤20:=by omega
 simp [KR,h1,hm]
theorem iM {ts:List Wd} (po:ts.length<1000000) {n:Nat} (h:Dp ts 224 (fac ts n) n):Dp ts 210 (JN ts (fac ts n)) n:=Dp.mk' fun r hr hn H id hH=>by
 have X:Cx (GR ts 209 (KR ts 224 (fac ts n) n)) zP Ag:=⟨UL po h (by decide) Tx.go224 (M9 ts n) (UI ts n),Dx,Af⟩
 refine CS.rd DO Tryz.func210 (by kernel_rfl) 0 (by simp [Tryz.f210]) (fun B hB hG => ?_) rfl (by simp) (St.cells_low ts r) (St.cells_low ts _) hH;refine Tr.goD X hG (by kernel_rfl) ?_;have h1:=fun H=>UM (g:=224) (of:=fac ts n) (x:=r.err) Du Dv 7 8 H (a:=r.at_) (d:=r.deep) (by omega) (by omega) (by omega) (by simpa using hn)
 simp [Du,Dv] at h1;simp [Tryz.f210,St.cells,h1,JN,Du,Dv]
theorem UN {ts:List Wd} (po:ts.length<1000000) {n:Nat} (h:Dp ts 224 (fac ts n) n):Dp ts 178 (CR ts (fac ts n)) n:=Dp.mk' fun r hr hn H id hH=>by
 have X:Cx (GR ts 209 (KR ts 210 (JN ts (fac ts n)) n)) zP Ag:=⟨UL po (iM po h) (by decide) Tx.go210 (UJ ts n) (iH ts n),Dx,Af⟩
 refine CS.rd DO Tryz.func178 (by kernel_rfl) 0 (by simp [Tryz.f178]) (fun B hB hG => ?_) rfl (by simp) (St.cells_low ts r) (St.cells_low ts _) hH;refine Tr.goD X hG (by kernel_rfl) ?_;have h1:=fun H=>UM (g:=210) (of:=JN ts (fac ts n)) (x:=r.err) EX Bb 5 6 H (a:=r.at_) (d:=r.deep) (by omega) (by omega) (by omega) (by simpa using hn)
 simp [EX,Bb] at h1;simp [Tryz.f178,St.cells,h1,CR,EX,Bb]
theorem iN (ts:List Wd) {O:Orc} (X:Cx O zP Ag) (hF:∀(a d:Int) (x:Option (Nat × Nat)) (p e:Int) (H:AH),0≤a→0≤d→0≤p→0≤e→O 181 [.ptr 0 0,.int .i64 p,.int .i64 e] (some (.box [AD ts,.int .i64 a,.int .i64 d,eAV x])::H) =
  some (.tup [],some (.box [AD ts,.int .i64 a,.int .i64 d,eAV (some (x.getD (p.toNat,e.toNat)))])::H)) {g:FuncId} (hg:AE zP g=true) {of:Rd} {n:Nat} (hA:Ans O ts g of n) (hd:∀r,(of r).2.deep=r.deep)
  (p:Nat) (r:St) (hr:r.deep≤20) (hn:ts.length-r.at_<n) {H:AH} {id:Nat} (hH:H.at id=some (.box (r.cells ts))) :
  CS zP Ag 234 [.ptr id 0,.int .i64 p,.func (.func g) [.ptr id 0] []] H (CN (inF p of r).1) (H.set id (some (.box ((inF p of r).2.cells ts)))):=by
 have:=CS.rdR (rest:=[.int .i64 p,.func (.func g) [.ptr 0 0] []]) DO Tryz.func234 (by kernel_rfl) 0 (by simp [Tryz.f234])
  (fun B hB hG=>show Tr zP B (Ar Tryz.f234) _ _ (Fin zP Tryz.f234 1 0 (CN (inF p of r).1) [some (.box ((inF p of r).2.cells ts))]) from by
   refine Tr.goD X hG (by kernel_rfl) ?_;obtain ⟨a,d,x⟩:=r;simp only at hr hn;have w1:IntKind.i64.wrap ((d:Int)+1)=(d:Int)+1:=Ab (by omega) (by omega);have w2:IntKind.i64.wrap (d:Int)=(d:Int):=Ab (by omega) (by omega);have h0:0≤(d:Int)+1:=by omega
   have pp:IntKind.i64.wrap (4:Int)=4:=by decide
   by_cases wu:d+1>20
   ·have wC:(20:Int)<(d:Int)+1:=by omega
    cases x with
    | none=>simp [Tryz.f234,St.cells,w1,w2,h0,wC,hF,inF,wu,HW]
    | some x=>simp [Tryz.f234,St.cells,w1,w2,h0,wC,hF,inF,wu,HW]
   ·have wC:¬(20:Int)<(d:Int)+1:=by omega
    cases x with
    | some x=>simp [Tryz.f234,St.cells,w1,w2,h0,wC,inF,wu]
    | none =>
     have h1:=fun H=>hA a (d+1:Nat) none H (by omega) (by omega) (by omega) (by simpa using hn)
     have uM:=hd ⟨a,d+1,none⟩;simp only at uM;simp [St.cells,uM] at h1
     simp [Tryz.f234,St.cells,w1,w2,h0,wC,inF,wu,hg,h1,uM]) (by simp) (by simp) (St.cells_low ts r) (St.cells_low ts _) hH
 simpa [AM,ren] using this
@[simp high] theorem oX (m:Nat) (l:List Ex):lowL m (B7 l)=true:=Ah (Nat.zero_le m) _ (Gw l)
theorem UO:Bu zP 25 4=true:=by kernel_rfl
theorem NA (e:Ex):([.int .i64 e.kd,.int .i64 e.nn,.str e.nm,e.ar]:List AV).all AV.one=true:=by cases e<;>rfl
def FT (a:List Ex):AV:=if a=[] then .nilSlice else .slice (.tok 3) 4 a.length (B7 a)
def EF (ts:List Wd) (s:List UInt8) (a:List Ex) (r:St):AH:=[some (.box (r.cells ts)),some (.box (exC .none)),some (.box [.int .i64 3,.int .i64 0,.str s,FT a])]++(if a=[] then [] else [some (.tok a.length)])
def iO (ts:List Wd) (sum:Rd) (n:Nat) (s:List UInt8) (res:List Ex × St) (k:Nat) (t:List AV) (H:AH):Prop :=∃(a:List Ex) (r:St),C7 ts sum k a r=res∧k+a.length=6∧a.length≤4∧(a.length=4→r.err.isSome=true)∧ts.length-r.at_<n∧r.deep≤20∧t=mkT 58 [(0,.ptr 0 0),(2,.ptr 1 0),(3,.ptr 2 0)]∧H=EF ts s a r
structure UP (O:Orc) (ts:List Wd) (sum:Rd) (n:Nat):Prop where
 fail:∀(a d:Int) (x:Option (Nat × Nat)) (p e:Int) (H:AH),0≤a→0≤d→0≤p→0≤e→O 181 [.ptr 0 0,.int .i64 p,.int .i64 e] (some (.box [AD ts,.int .i64 a,.int .i64 d,eAV x])::H) =
  some (.tup [],some (.box [AD ts,.int .i64 a,.int .i64 d,eAV (some (x.getD (p.toNat,e.toNat)))])::H)
 next:∀(a d:Int) (x:Option (Nat × Nat)) (s:List UInt8) (H:AH),0≤a→0≤d→O 180 [.ptr 0 0,.str s] (some (.box [AD ts,.int .i64 a,.int .i64 d,eAV x])::H) =
  some (.bool (Ac ts ⟨a.toNat,d.toNat,x⟩ s),some (.box [AD ts,.int .i64 a,.int .i64 d,eAV x])::H)
 takesT:∀(a d:Int) (x:Option (Nat × Nat)) (s:List UInt8) (H:AH),0≤a→0≤d→Ac ts ⟨a.toNat,d.toNat,x⟩ s=true →
  O 233 [.ptr 0 0,.str s] (some (.box [AD ts,.int .i64 a,.int .i64 d,eAV x])::H)=some (.bool true,some (.box [AD ts,.int .i64 (a+1),.int .i64 d,eAV x])::H)
 takesF:∀(a d:Int) (x:Option (Nat × Nat)) (s:List UInt8) (H:AH),0≤a→0≤d→Ac ts ⟨a.toNat,d.toNat,x⟩ s=false →
  O 233 [.ptr 0 0,.str s] (some (.box [AD ts,.int .i64 a,.int .i64 d,eAV x])::H)=some (.bool false,some (.box [AD ts,.int .i64 a,.int .i64 d,eAV x])::H)
 must:∀(a d:Int) (x:Option (Nat × Nat)) (s:List UInt8) (H:AH),0≤a→0≤d→O 235 [.ptr 0 0,.str s] (some (.box [AD ts,.int .i64 a,.int .i64 d,eAV x])::H) =
  some (.tup [],some (.box ((CL ts ⟨a.toNat,d.toNat,x⟩ s).cells ts))::H)
 sum:Ans O ts 178 sum n
theorem iP (ts:List Wd) (po:ts.length<1000000) {O:Orc} (X:Cx O zP Ag) {sum:Rd} {n:Nat} (hO:UP O ts sum n) (hu:upw sum) (hd:∀r,(sum r).2.deep=r.deep) (hk:Ml sum)
  (w:Wd) (r:St) (he:r.err=none) (hw:ts[r.at_]? = some w) (hr:r.deep≤20) (hn:ts.length-r.at_<n+1) {H:AH} {id:Nat} (hH:H.at id=some (.box (r.cells ts))) :
  CS zP Ag 232 [.ptr id 0] H (CN (Dw ts sum w.text r).1) (H.set id (some (.box ((Dw ts sum w.text r).2.cells ts)))):=by
 refine CS.rd DO Tryz.func232 (by kernel_rfl) 0 (by simp [Tryz.f232]) (fun B hB hG => ?_) rfl (by simp) (St.cells_low ts r) (St.cells_low ts _) hH;obtain ⟨a,d,x⟩:=r;simp only at he hw hr hn;subst he;have hl:a<ts.length:=(List.getElem?_eq_some_iff.1 hw).1;have hl':(a:Int)<ts.length:=by omega
 obtain ⟨c0,c1,c3⟩:=Ea hw;have w1:IntKind.i64.wrap ((a:Int)+1)=(a:Int)+1:=Ab (by omega) (by omega);have h0:0≤(a:Int)+1:=by omega
 refine Tr.goD X hG (by kernel_rfl) ?_;simp [Tryz.f232,St.cells];refine LpD.turns X hG [12,13] [(0,12),(1,12),(2,12),(3,12),(4,12),(5,12),(6,12),(7,12),(8,12),(9,12),(10,12),(11,12)] (by kernel_rfl) ?_;cases ho:Ac ts ⟨a+1,d,none⟩ Ay with
 | false =>
  have h1:Dw ts sum w.text ⟨a,d,none⟩=(.var w.text,⟨a+1,d,none⟩):=by simp [Dw,St.step,ho]
  have h2:=fun H=>hO.takesF ((a:Int)+1) d none Ay H h0 (by omega) (by simpa using ho)
  simp [Ay] at h2;simp [hl,hl',c1,w1,h2,h1]
 | true =>
  have h2:=fun H=>hO.takesT ((a:Int)+1) d none Ay H h0 (by omega) (by simpa using ho)
  simp [Ay] at h2;have p6:a+1<ts.length:=FE ho;have h1:Dw ts sum w.text ⟨a,d,none⟩=(.elem w.text (C7 ts sum 6 [] ⟨a+1+1,d,none⟩).1,CL ts (C7 ts sum 6 [] ⟨a+1+1,d,none⟩).2 A0):=by simp [Dw,St.step,ho]
  simp [hl,hl',c1,w1,h2,h1];generalize uN:C7 ts sum 6 [] ⟨a+1+1,d,none⟩=res
  refine LpD.loopN X hG (by kernel_rfl) (iO ts sum n w.text res) 6 (t':=mkT 58 [(0,.ptr 0 0),(2,.ptr 1 0),(3,.ptr 2 0)]) (H':=EF ts w.text [] ⟨a+1+1,d,none⟩)
   (AF.mkK 3 (by simp [hB]) (by simp) (by simp [EF,FT,St.cells]) (by simp [EF,FT,St.cells])) ⟨[],⟨a+1+1,d,none⟩,uN,rfl,by simp,by simp,by simp only;omega,hr,rfl,rfl⟩ ?_
  rintro k t H ⟨a',r',pq,vL,pv,h4,hm,qu,rfl,rfl⟩;obtain ⟨b,d',x⟩:=r';simp only at h4 hm qu;have wB:(d':Int)≤20:=by omega
  have hs:=fun H=>hO.sum b d' x H (by omega) (by omega) wB (by simpa using hm)
  have wv:=hu ⟨b,d',x⟩;have rj:=hd ⟨b,d',x⟩;have tl:=hk ⟨b,d',x⟩;simp only at wv rj tl;cases k with
  | zero =>omega
  | succ k =>
  have vH:C7 ts sum (k+1) a' ⟨b,d',x⟩=if Ac ts (sum ⟨b,d',x⟩).2 A7 then C7 ts sum k (a'++[(sum ⟨b,d',x⟩).1]) (if a'.length+1==4 then (sum ⟨b,d',x⟩).2.fail (sum ⟨b,d',x⟩).2.at_ 4 else (sum ⟨b,d',x⟩).2).step else (a'++[(sum ⟨b,d',x⟩).1],(sum ⟨b,d',x⟩).2):=rfl
  rw [vH] at pq;simp only [Int.toNat_natCast] at hs;generalize sum ⟨b,d',x⟩=p at *;obtain ⟨e,⟨b2,d2,x2⟩⟩:=p;simp only at wv rj tl pq;subst rj;have zM:=fun H=>GI (P:=zP) (t:=25) (sz:=4) (m:=1) (H:=H) (fid:=3) (ow := .full) UO (by decide) (by decide) (NA e)
  have x5:=fun H (h:AH.at H 3=some (.tok a'.length))=>Em (P:=zP) (t:=25) (sz:=4) (m:=1) (H:=H) (fid:=4) (ow := .full) (xs:=B7 a') UO h (by decide) (by omega) (NA e)
  simp [St.cells] at hs;cases hc:Ac ts ⟨b2,d2,x2⟩ A7 with
  | false =>
   rw [hc] at pq;simp only [Bool.false_eq_true,if_false] at pq;subst pq;have so:=fun H=>hO.must b2 d2 x2 A0 H (by omega) (by omega)
   have pp:=fun H=>hO.next b2 d2 x2 A7 H (by omega) (by omega)
   simp [A0,St.cells] at so;simp [A7] at pp;have hc':=hc;simp [A7] at hc'
   by_cases ha:a'=[]
   ·subst ha
    simp [EF,FT,St.cells];refine LpD.turns X hG [3,5,7] [(0,3),(1,3)] (by kernel_rfl) ?_;simp [hs,zM,pp,hc',Bt,so,A0,B7]
   ·have pz:a'.length≠0:=fun h=>ha (List.eq_nil_of_length_eq_zero h)
    simp [EF,FT,St.cells,ha];refine LpD.turns X hG [3,5,7] [(0,3),(1,3)] (by kernel_rfl) ?_;simp [hs,x5,pp,hc',Bt,so,A0,B7,HV,Gw]
  | true =>
   have qA:b2<ts.length:=FE hc
   obtain rfl:x2=none:=by
    cases x2 with
    | none=>rfl
    | some y=>simp [Ac] at hc
   have h3:a'.length≤3:=by
    rcases Nat.lt_or_ge a'.length 4 with h|h
    ·omega
    ·have:=h4 (by omega)
     cases x with
     | none=>cases this
     | some y=>have:=tl y rfl;cases this
   have w5:IntKind.i64.wrap ((b2:Int)+1)=(b2:Int)+1:=Ab (by omega) (by omega);rw [hc] at pq;simp only [if_true] at pq;have pp:=fun H=>hO.next b2 d2 none A7 H (by omega) (by omega)
   simp [A7] at pp;have hc':=hc;simp [A7] at hc'
   by_cases ha:a'=[]
   ·subst ha
    simp [EF,FT,St.cells];refine LpD.turns X hG [3,5,7] [(0,3),(1,3)] (by kernel_rfl) ?_;simp [hs,zM,pp,hc',w5,B7]
    refine Nxt.mk k (by omega) (AF.mkK 4 (l':=[(0,.ptr 0 0),(2,.ptr 1 0),(3,.ptr 2 0)]) (H':=EF ts w.text [e] ⟨b2+1,d2,none⟩) (by simp [hB]) (by simp) (by simp [EF,FT,St.cells,B7]) (by simp [EF,FT,St.cells,B7]))
     ⟨[e],⟨b2+1,d2,none⟩,?_,?_,by simp,by simp,?_,qu,rfl,rfl⟩
    ·rw [←pq];simp [St.step]
    ·simp only [List.length_cons,List.length_nil] at vL ⊢;omega
    ·simp only;omega
   ·have pz:a'.length≠0:=fun h=>ha (List.eq_nil_of_length_eq_zero h)
    by_cases hf:a'.length+1=4
    ·have hf':((a'.length:Int)+1=4):=by omega
     have tX:a'.length=3:=by omega
     have qG:=fun H=>hO.fail b2 d2 none b2 4 H (by omega) (by omega) (by omega) (by omega)
     simp at qG;simp [EF,FT,St.cells,ha];refine LpD.turns X hG [3,5,7] [(0,3),(1,3)] (by kernel_rfl) ?_;simp [hs,x5,pp,hc',w5,B7,HV,hf',qG,Gw]
     refine Nxt.mk k (by omega) (AF.mkK 4 (l':=[(0,.ptr 0 0),(2,.ptr 1 0),(3,.ptr 2 0)]) (H':=EF ts w.text (a'++[e]) ⟨b2+1,d2,some (b2,4)⟩) (by simp [hB]) (by simp) (by simp [EF,FT,St.cells,B7,HV]) (by simp [EF,FT,St.cells,B7,HV,Gw]))
      ⟨a'++[e],⟨b2+1,d2,some (b2,4)⟩,?_,?_,?_,by simp,?_,qu,rfl,rfl⟩
     ·rw [←pq];simp [St.step,tX,HW]
     ·simp only [List.length_append,List.length_cons,List.length_nil] at vL ⊢;omega
     ·simp only [List.length_append,List.length_cons,List.length_nil];omega
     ·simp only;omega
    ·have hf':¬((a'.length:Int)+1=4):=by omega
     have tX:¬a'.length=3:=by omega
     simp [EF,FT,St.cells,ha];refine LpD.turns X hG [3,5,7] [(0,3),(1,3)] (by kernel_rfl) ?_;simp [hs,x5,pp,hc',w5,B7,HV,hf',Gw]
     refine Nxt.mk k (by omega) (AF.mkK 4 (l':=[(0,.ptr 0 0),(2,.ptr 1 0),(3,.ptr 2 0)]) (H':=EF ts w.text (a'++[e]) ⟨b2+1,d2,none⟩) (by simp [hB]) (by simp) (by simp [EF,FT,St.cells,B7,HV]) (by simp [EF,FT,St.cells,B7,HV,Gw]))
      ⟨a'++[e],⟨b2+1,d2,none⟩,?_,?_,?_,?_,?_,qu,rfl,rfl⟩
     ·rw [←pq];simp [St.step,tX]
     ·simp only [List.length_append,List.length_cons,List.length_nil] at vL ⊢;omega
     ·simp only [List.length_append,List.length_cons,List.length_nil];omega
     ·simp only [List.length_append,List.length_cons,List.length_nil];omega
     ·simp only;omega
structure UQ (O:Orc) (ts:List Wd) (n:Nat):Prop where
 fail:∀(a d:Int) (x:Option (Nat × Nat)) (p e:Int) (H:AH),0≤a→0≤d→0≤p→0≤e→O 181 [.ptr 0 0,.int .i64 p,.int .i64 e] (some (.box [AD ts,.int .i64 a,.int .i64 d,eAV x])::H) =
  some (.tup [],some (.box [AD ts,.int .i64 a,.int .i64 d,eAV (some (x.getD (p.toNat,e.toNat)))])::H)
 takesT:∀(a d:Int) (x:Option (Nat × Nat)) (s:List UInt8) (H:AH),0≤a→0≤d→Ac ts ⟨a.toNat,d.toNat,x⟩ s=true →
  O 233 [.ptr 0 0,.str s] (some (.box [AD ts,.int .i64 a,.int .i64 d,eAV x])::H)=some (.bool true,some (.box [AD ts,.int .i64 (a+1),.int .i64 d,eAV x])::H)
 takesF:∀(a d:Int) (x:Option (Nat × Nat)) (s:List UInt8) (H:AH),0≤a→0≤d→Ac ts ⟨a.toNat,d.toNat,x⟩ s=false →
  O 233 [.ptr 0 0,.str s] (some (.box [AD ts,.int .i64 a,.int .i64 d,eAV x])::H)=some (.bool false,some (.box [AD ts,.int .i64 a,.int .i64 d,eAV x])::H)
 must:∀(a d:Int) (x:Option (Nat × Nat)) (s:List UInt8) (H:AH),0≤a→0≤d→O 235 [.ptr 0 0,.str s] (some (.box [AD ts,.int .i64 a,.int .i64 d,eAV x])::H) =
  some (.tup [],some (.box ((CL ts ⟨a.toNat,d.toNat,x⟩ s).cells ts))::H)
 name:∀(a d:Int) (w:Wd) (H:AH),0≤a→0≤d→d≤20→ts[a.toNat]? = some w→ts.length-a.toNat<n+1→O 232 [.ptr 0 0] (some (.box [AD ts,.int .i64 a,.int .i64 d,eAV none])::H) =
  some (CN (Dw ts (CR ts (fac ts n)) w.text ⟨a.toNat,d.toNat,none⟩).1,some (.box ((Dw ts (CR ts (fac ts n)) w.text ⟨a.toNat,d.toNat,none⟩).2.cells ts))::H)
 inFac:∀(a d p:Int) (x:Option (Nat × Nat)) (H:AH),0≤a→0≤d→d≤20→0≤p→ts.length-a.toNat<n→O 234 [.ptr 0 0,.int .i64 p,.func (.func 224) [.ptr 0 0] []] (some (.box [AD ts,.int .i64 a,.int .i64 d,eAV x])::H) =
  some (CN (inF p.toNat (fac ts n) ⟨a.toNat,d.toNat,x⟩).1,some (.box ((inF p.toNat (fac ts n) ⟨a.toNat,d.toNat,x⟩).2.cells ts))::H)
 inSum:∀(a d p:Int) (x:Option (Nat × Nat)) (H:AH),0≤a→0≤d→d≤20→0≤p→ts.length-a.toNat<n→O 234 [.ptr 0 0,.int .i64 p,.func (.func 178) [.ptr 0 0] []] (some (.box [AD ts,.int .i64 a,.int .i64 d,eAV x])::H) =
  some (CN (inF p.toNat (CR ts (fac ts n)) ⟨a.toNat,d.toNat,x⟩).1,some (.box ((inF p.toNat (CR ts (fac ts n)) ⟨a.toNat,d.toNat,x⟩).2.cells ts))::H)
theorem iQ (ts:List Wd) (po:ts.length<1000000) {n:Nat} {O:Orc} (X:Cx O zP Ag) (hO:UQ O ts n) (r:St) (hr:r.deep≤20) (hn:ts.length-r.at_<n+1) {H:AH} {id:Nat} (hH:H.at id=some (.box (r.cells ts))) :
  CS zP Ag 224 [.ptr id 0] H (CN (fac ts (n+1) r).1) (H.set id (some (.box ((fac ts (n+1) r).2.cells ts)))):=by
 refine CS.rd DO Tryz.func224 (by kernel_rfl) 0 (by simp [Tryz.f224]) (fun B hB hG => ?_) rfl (by simp) (St.cells_low ts r) (St.cells_low ts _) hH;obtain ⟨a,d,x⟩:=r;simp only at hr hn;have hr':(d:Int)≤20:=by omega
 have x6:fac ts (n+1) ⟨a,d,x⟩=Cj ts (CR ts (fac ts n)) (fac ts n) ⟨a,d,x⟩:=rfl;rw [x6];have qG:=fun H=>hO.fail a d x a 2 H (by omega) (by omega) (by omega) (by omega)
 simp at qG;refine Tr.goD X hG (by kernel_rfl) ?_;simp [Tryz.f224,St.cells];refine LpD.turns X hG [] [] (by kernel_rfl) ?_;cases x with
 | some y =>
  have h1:Cj ts (CR ts (fac ts n)) (fac ts n) ⟨a,d,some y⟩=(.none,⟨a,d,some y⟩):=by simp [Cj,St.fail]
  simp [h1,qG]
 | none =>
  by_cases hl:a<ts.length
  ·have hl':(a:Int)<ts.length:=by omega
   have p6:¬((ts.length:Int)≤a):=by omega
   obtain ⟨w,hw⟩:∃w,ts[a]? = some w:=⟨_,List.getElem?_eq_getElem hl⟩
   obtain ⟨c0,c1,c3⟩:=Ea hw;obtain ⟨cc1,cc2⟩:=KN ts a w hw;have w1:IntKind.i64.wrap ((a:Int)+1)=(a:Int)+1:=Ab (by omega) (by omega);simp [hl,hl',p6];refine LpD.turns X hG [14,16] [(0,14),(1,14),(2,14),(3,14),(4,14),(5,14),(6,14),(7,14),(8,14),(9,14),(10,14),(11,14),(12,14),(13,14)] (by kernel_rfl) ?_;simp [hl,hl',cc1,cc2,BD]
   by_cases rU:w.kind=2
   ·have e2:(w.kind:Int)=2:=by omega
    have h1:Cj ts (CR ts (fac ts n)) (fac ts n) ⟨a,d,none⟩=(.num w.n,⟨a+1,d,none⟩):=by simp only [Cj,hw,rU];rfl
    simp [e2,w1,h1]
   ·have e2:¬(w.kind:Int)=2:=by omega
    have b2:(w.kind==2)=false:=by rw [beq_eq_false_iff_ne];exact rU
    by_cases rH:w.kind=1
    ·have e1:(w.kind:Int)=1:=by omega
     have h1:Cj ts (CR ts (fac ts n)) (fac ts n) ⟨a,d,none⟩=Dw ts (CR ts (fac ts n)) w.text ⟨a,d,none⟩:=by simp only [Cj,hw,rH];rfl
     have uO:=fun H=>hO.name a d w H (by omega) (by omega) hr' (by simpa using hw) (by simpa using hn)
     simp [St.cells] at uO;simp [e1,uO,h1]
    ·have e1:¬(w.kind:Int)=1:=by omega
     have b1:(w.kind==1)=false:=by rw [beq_eq_false_iff_ne];exact rH
     have nx:∀s,Ac ts ⟨a,d,none⟩ s=isS ts a s:=fun s=>by simp [Ac]
     have sc:ts.length-(a+1)<n:=by omega
     have h0:0≤(a:Int)+1:=by omega
     cases sC:isS ts a Bb with
     | true =>
      have h1:Cj ts (CR ts (fac ts n)) (fac ts n) ⟨a,d,none⟩=(.neg (inF a (fac ts n) ⟨a+1,d,none⟩).1,(inF a (fac ts n) ⟨a+1,d,none⟩).2):=by simp only [Cj,hw,b2,b1,sC];rfl
      have ht:=fun H=>hO.takesT a d none Bb H (by omega) (by omega) (by simp [nx,sC])
      have hi:=fun H=>hO.inFac ((a:Int)+1) d a none H h0 (by omega) hr' (by omega) (by simpa using sc)
      simp [Bb] at ht;simp [St.cells] at hi;simp [e2,e1,ht,hi,h1]
     | false =>
      have ht:=fun H=>hO.takesF a d none Bb H (by omega) (by omega) (by simp [nx,sC])
      simp [Bb] at ht;cases qX:isS ts a Ay with
      | true =>
       have h1:Cj ts (CR ts (fac ts n)) (fac ts n) ⟨a,d,none⟩=((inF a (CR ts (fac ts n)) ⟨a+1,d,none⟩).1,CL ts (inF a (CR ts (fac ts n)) ⟨a+1,d,none⟩).2 A0):=by simp only [Cj,hw,b2,b1,sC,qX];rfl
       have tA:=fun H=>hO.takesT a d none Ay H (by omega) (by omega) (by simp [nx,qX])
       have hi:=fun H=>hO.inSum ((a:Int)+1) d a none H h0 (by omega) hr' (by omega) (by simpa using sc)
       simp [Ay] at tA;simp [St.cells] at hi;rw [h1];generalize inF a (CR ts (fac ts n)) ⟨a+1,d,none⟩=p at *;obtain ⟨e,⟨a2,d2,x2⟩⟩:=p;have so:=fun H=>hO.must a2 d2 x2 A0 H (by omega) (by omega)
       simp [A0,St.cells] at so;simp only at hi;simp [e2,e1,ht,tA,hi,so,A0]
      | false =>
       have h1:Cj ts (CR ts (fac ts n)) (fac ts n) ⟨a,d,none⟩=(.none,⟨a,d,some (a,2)⟩):=by simp only [Cj,hw,b2,b1,sC,qX];rfl
       have tA:=fun H=>hO.takesF a d none Ay H (by omega) (by omega) (by simp [nx,qX])
       simp [Ay] at tA;simp [e2,e1,ht,tA,qG,h1]
  ·have hw:ts[a]? = none:=List.getElem?_eq_none (by omega)
   have hl':¬(a:Int)<ts.length:=by omega
   have p6:((ts.length:Int)≤a):=by omega
   have h1:Cj ts (CR ts (fac ts n)) (fac ts n) ⟨a,d,none⟩=(.none,⟨a,d,some (a,2)⟩):=by simp only [Cj,hw];rfl
   simp [h1,qG,hl',p6]
theorem UR {ts:List Wd} {a d:Int} {x:Option (Nat × Nat)} (s:List UInt8) (H:AH) (ha:0≤a) (hd:0≤d) :
  oRd ts 235 (KQ ts) 235 [.ptr 0 0,.str s] (some (.box [AD ts,.int .i64 a,.int .i64 d,eAV x])::H)=some (.tup [],some (.box ((CL ts ⟨a.toNat,d.toNat,x⟩ s).cells ts))::H):=by
 rw [Hx (HX ha hd)];simp [KQ]
noncomputable def oNm (ts:List Wd) (n:Nat):Orc:=A4 [(181,oRd ts 181 F1),(180,oRd ts 180 (Eu ts)),
 (233,oRd ts 233 (Dz ts)),(235,oRd ts 235 (KQ ts)),
 (178,oRd ts 178 (Gx ts (CR ts (fac ts n)) n))]
theorem iR {ts:List Wd} (po:ts.length<1000000) {n:Nat} (h:Dp ts 178 (CR ts (fac ts n)) n):Cx (oNm ts n) zP Ag:=⟨FM (by
 intro p hp;simp only [List.mem_cons,List.not_mem_nil,or_false] at hp;rcases hp with rfl|rfl|rfl|rfl|rfl
 ·exact KP ts
 ·exact M3 ts
 ·exact Ph ts po
 ·exact UF ts po
 ·exact h),Dx,Af⟩
theorem iS (ts:List Wd) (n:Nat):UP (oNm ts n) ts (CR ts (fac ts n)) n where
 fail:=fun a d x p e H ha hd hp he=>by rw [←LL p e H ha hd hp he];simp [oNm,A4,List.lookup]
 next:=fun a d x s H ha hd=>by rw [←M4 s H ha hd];simp [oNm,A4,List.lookup]
 takesT:=fun a d x s H ha hd hn=>by rw [←Pi s H ha hd hn];simp [oNm,A4,List.lookup]
 takesF:=fun a d x s H ha hd hn=>by rw [←Pj s H ha hd hn];simp [oNm,A4,List.lookup]
 must:=fun a d x s H ha hd=>by rw [←UR s H ha hd];simp [oNm,A4,List.lookup]
 sum:=fun a d x H ha hd qD hm=>by rw [←Pn (g:=178) (of:=CR ts (fac ts n)) (n:=n) a d x H ha hd qD hm];simp [oNm,A4,List.lookup]
def LM (ts:List Wd) (n:Nat) (rest:List AV) (r:St):Option (AV × St):=match rest,r.err,ts[r.at_]? with
 | [],none,some w=>if r.deep≤20∧ts.length-r.at_<n+1 then some (CN (Dw ts (CR ts (fac ts n)) w.text r).1,(Dw ts (CR ts (fac ts n)) w.text r).2) else none
 | _,_,_=>none
theorem iT {ts:List Wd} (po:ts.length<1000000) {n:Nat} (h:Dp ts 178 (CR ts (fac ts n)) n):AS zP Ag (oRd ts 232 (LM ts n)):=KO fun rest r v r' hs H id hH=>by
 unfold LM at hs
 split at hs
 ·rename_i w he hw
  split at hs
  ·rename_i hc
   injection hs with hs;simp only [Prod.mk.injEq] at hs;obtain ⟨rfl,rfl⟩:=hs;exact iP ts po (iR po h) (iS ts n) (iI ts n) (Pl ts n) (IW (ts:=ts) (FS ts n)).2.1 w r he hw hc.1 hc.2 hH
  ·cases hs
 ·cases hs
noncomputable def oFG (ts:List Wd) (g:FuncId) (of:Rd) (n:Nat):Orc:=orElse (oRd ts 181 F1) (oRd ts g (Gx ts of n))
theorem US {ts:List Wd} {g:FuncId} {of:Rd} {n:Nat} (h:Dp ts g of n) (pp:g≠181) (hg:AE zP g=true) (hd:∀r,(of r).2.deep=r.deep) (p:Nat) (r:St) (hr:r.deep≤20) (hn:ts.length-r.at_<n) {H:AH} {id:Nat} (hH:H.at id=some (.box (r.cells ts))) :
  CS zP Ag 234 [.ptr id 0,.int .i64 p,.func (.func g) [.ptr id 0] []] H (CN (inF p of r).1) (H.set id (some (.box ((inF p of r).2.cells ts)))):=by
 have X:Cx (oFG ts g of n) zP Ag:=⟨AS.orElse (KP ts) h,Dx,Af⟩
 refine iN ts X (fun a d x p e H ha hd hp he => ?_) hg (n:=n) (fun a d x H ha hd qD hm => ?_) hd p r hr hn hH
 ·simp only [oFG,orElse,LL p e H ha hd hp he]
 ·have h1:oRd ts 181 F1 g [.ptr 0 0] (some (.box [AD ts,.int .i64 a,.int .i64 d,eAV x])::H)=none:=by simp [oRd,pp]
  simp only [oFG,orElse,h1,Pn (g:=g) (of:=of) (n:=n) a d x H ha hd qD hm]
def JQ (ts:List Wd) (n:Nat) (id:Nat) (rest:List AV) (r:St):Option (AV × St):=match rest with
 | [.int .i64 p,.func (.func g) [.ptr id' 0] []] =>
  if id'=id∧0≤p∧r.deep≤20∧ts.length-r.at_<n then
   (if g=224 then some (CN (inF p.toNat (fac ts n) r).1,(inF p.toNat (fac ts n) r).2)
   else if g=178 then some (CN (inF p.toNat (CR ts (fac ts n)) r).1,(inF p.toNat (CR ts (fac ts n)) r).2) else none)
  else none
 | _=>none
theorem iU {ts:List Wd} {n:Nat} (hf:Dp ts 224 (fac ts n) n) (hs:Dp ts 178 (CR ts (fac ts n)) n):AS zP Ag (GR ts 234 (JQ ts n)):=UK fun id rest r v r' hq H hH=>by
 unfold JQ at hq
 split at hq
 ·rename_i p g id'
  split at hq
  ·rename_i hc
   obtain ⟨rfl,h1,h2,h3⟩:=hc
   split at hq
   ·rename_i hg
    subst hg;injection hq with hq;simp only [Prod.mk.injEq] at hq;obtain ⟨rfl,rfl⟩:=hq;have:=US hf (by decide) Tx.go224 (UI ts n) p.toNat r h2 h3 hH
    rwa [Int.toNat_of_nonneg h1] at this
   ·split at hq
    ·rename_i hg
     subst hg;injection hq with hq;simp only [Prod.mk.injEq] at hq;obtain ⟨rfl,rfl⟩:=hq;have:=US hs (by decide) Tx.go178 (Pl ts n) p.toNat r h2 h3 hH
     rwa [Int.toNat_of_nonneg h1] at this
    ·cases hq
  ·cases hq
 ·cases hq
noncomputable def oFc (ts:List Wd) (n:Nat):Orc:=A4 [(181,oRd ts 181 F1),(233,oRd ts 233 (Dz ts)),
 (235,oRd ts 235 (KQ ts)),(232,oRd ts 232 (LM ts n)),(234,GR ts 234 (JQ ts n))]
theorem iV {ts:List Wd} (po:ts.length<1000000) {n:Nat} (hf:Dp ts 224 (fac ts n) n):Cx (oFc ts n) zP Ag:=⟨FM (by
 have hs:=UN po hf;intro p hp;simp only [List.mem_cons,List.not_mem_nil,or_false] at hp;rcases hp with rfl|rfl|rfl|rfl|rfl
 ·exact KP ts
 ·exact Ph ts po
 ·exact UF ts po
 ·exact iT po hs
 ·exact iU hf hs),Dx,Af⟩
theorem iW (ts:List Wd) (n:Nat):UQ (oFc ts n) ts n where
 fail:=fun a d x p e H ha hd hp he=>by rw [←LL p e H ha hd hp he];simp [oFc,A4,List.lookup]
 takesT:=fun a d x s H ha hd hn=>by rw [←Pi s H ha hd hn];simp [oFc,A4,List.lookup]
 takesF:=fun a d x s H ha hd hn=>by rw [←Pj s H ha hd hn];simp [oFc,A4,List.lookup]
 must:=fun a d x s H ha hd=>by rw [←UR s H ha hd];simp [oFc,A4,List.lookup]
 name:=fun a d w H ha hd qD hw hm=>by
  have e1:oFc ts n 232 [.ptr 0 0] (some (.box [AD ts,.int .i64 a,.int .i64 d,eAV none])::H)=oRd ts 232 (LM ts n) 232 [.ptr 0 0] (some (.box [AD ts,.int .i64 a,.int .i64 d,eAV none])::H):=by simp [oFc,A4,List.lookup]
  rw [e1,Hx (HX ha hd)];have h1:d.toNat≤20:=by omega
  simp only [LM,hw,if_pos (And.intro h1 hm),Option.map_some,List.set_cons_zero]
 inFac:=fun a d p x H ha hd qD hp hm=>by
  have e1:oFc ts n 234 [.ptr 0 0,.int .i64 p,.func (.func 224) [.ptr 0 0] []] (some (.box [AD ts,.int .i64 a,.int .i64 d,eAV x])::H)=GR ts 234 (JQ ts n) 234 [.ptr 0 0,.int .i64 p,.func (.func 224) [.ptr 0 0] []] (some (.box [AD ts,.int .i64 a,.int .i64 d,eAV x])::H):=by simp [oFc,A4,List.lookup]
  rw [e1,Pm (HX ha hd)];have h1:d.toNat≤20:=by omega
  simp only [JQ,if_pos (show (True∧0≤p∧d.toNat≤20∧ts.length-a.toNat<n) from ⟨trivial,hp,h1,hm⟩),if_true,Option.map_some,List.set_cons_zero]
 inSum:=fun a d p x H ha hd qD hp hm=>by
  have e1:oFc ts n 234 [.ptr 0 0,.int .i64 p,.func (.func 178) [.ptr 0 0] []] (some (.box [AD ts,.int .i64 a,.int .i64 d,eAV x])::H)=GR ts 234 (JQ ts n) 234 [.ptr 0 0,.int .i64 p,.func (.func 178) [.ptr 0 0] []] (some (.box [AD ts,.int .i64 a,.int .i64 d,eAV x])::H):=by simp [oFc,A4,List.lookup]
  rw [e1,Pm (HX ha hd)];have h1:d.toNat≤20:=by omega
  have h2:¬(178=224):=by decide
  simp only [JQ,if_pos (show (True∧0≤p∧d.toNat≤20∧ts.length-a.toNat<n) from ⟨trivial,hp,h1,hm⟩),if_neg h2,if_true,Option.map_some,List.set_cons_zero]
theorem UT {ts:List Wd} (po:ts.length<1000000):∀n,Dp ts 224 (fac ts n) n
 | 0=>Dp.mk' fun r _ hn=>absurd hn (Nat.not_lt_zero _)
 | n+1=>Dp.mk' fun r hr hn H id hH=>iQ ts po (iV po (UT po n)) (iW ts n) r hr hn hH
theorem UU {ts:List Wd} (po:ts.length<1000000):Dp ts 178 (B6 ts) (ts.length+1):=UN po (UT po _)
theorem UV {ts:List Wd} {a d:Int} {x:Option (Nat × Nat)} {e0:Option Ent} (H:AH) (ha:0≤a) (hd:0≤d) (qD:d≤20) :
  oRd ts 178 (Gx ts (B6 ts) (ts.length+1)) 178 [.ptr 1 0] (e0::some (.box [AD ts,.int .i64 a,.int .i64 d,eAV x])::H) =
   some (CN (B6 ts ⟨a.toNat,d.toNat,x⟩).1,e0::some (.box ((B6 ts ⟨a.toNat,d.toNat,x⟩).2.cells ts))::H):=by
 have h0:AH.at (e0::some (.box [AD ts,.int .i64 a,.int .i64 d,eAV x])::H) 1=some (.box ((⟨a.toNat,d.toNat,x⟩:St).cells ts)):=by simp [AH.at,St.cells,Int.toNat_of_nonneg ha,Int.toNat_of_nonneg hd]
 rw [Hx h0];have h1:d.toNat≤20:=by omega
 have h2:ts.length-a.toNat<ts.length+1:=by omega
 simp only [Gx,if_pos (And.intro h1 h2),Option.map_some,List.set_cons_succ,List.set_cons_zero]
@[simp] theorem buRd (ts:List Wd):A3 zP 304 [(0,AD ts)]=some (.agg [AD ts,.int .i64 0,.int .i64 0,.nilIface]):=by
 unfold AD
 split<;>kernel_rfl
theorem NB:eAV none = .nilIface:=AR rfl
def LN (x:Ex × Nat × Option (Nat × Nat)):AV := .tup [CN x.1,.int .i64 x.2.1,eAV x.2.2]
theorem iX (ts:List Wd) (po:ts.length<1000000) (H:AH):CS zP Ag 145 [AD ts] H (LN (B1 ts)) H:=by
 have X:Cx (oRd ts 178 (Gx ts (B6 ts) (ts.length+1))) zP Ag:=⟨UU po,Dx,Af⟩
 refine CS.tr0 DO Tryz.func145 (by kernel_rfl) 0 (by simp [Tryz.f145]) (fun B hB hG => ?_) (by simp [LN]) (by simp) H;refine Tr.goD X hG (by kernel_rfl) ?_;have h1:=fun H e0=>UV (ts:=ts) (a:=0) (d:=0) (x:=none) (e0:=e0) H (by omega) (by omega) (by omega)
 simp only [B1];simp [St.cells,NB] at h1;generalize B6 ts ⟨0,0,none⟩=p at *;obtain ⟨e,⟨b,d,x⟩⟩:=p;simp only at h1;cases x with
 | none =>simp [Tryz.f145,h1];refine LpD.turns X hG [5] [(1,5),(2,5),(3,5),(4,5)] (by kernel_rfl) ?_;simp [LN,NB]
 | some y =>simp [Tryz.f145,h1];refine LpD.turns X hG [5] [(1,5),(2,5),(3,5),(4,5)] (by kernel_rfl) ?_;simp [LN]
theorem cxN:Cx Bk zP AN:=⟨JI,DD,Af⟩
theorem iY (b:UInt8) (H:AH):CS zP AN 61 [.int .u8 (b.toNat:Int)] H (.bool (B5 b)) H:=by
 refine CS.run0 cxN yEq Tryz.func61 (by kernel_rfl) (by kernel_rfl) 0 (by simp [Tryz.f61]) ?_ rfl rfl H
 by_cases h1:(97:Int)≤(b.toNat:Int)
 ·have h3:97≤b.toNat:=by omega
  by_cases h2:(b.toNat:Int)≤122
  ·have h4:b.toNat≤122:=by omega
   simp [Tryz.f61,B5,h1,h2,h3,h4]
  ·have h4:¬b.toNat≤122:=by omega
   simp [Tryz.f61,B5,h1,h2,h3,h4]
 ·have h3:¬97≤b.toNat:=by omega
  simp [Tryz.f61,B5,h1,h3]
theorem iZ (b:UInt8) (H:AH):CS zP AN 64 [.int .u8 (b.toNat:Int)] H (.bool (A5 b)) H:=by
 refine CS.run0 cxN yEq Tryz.func64 (by kernel_rfl) (by kernel_rfl) 0 (by simp [Tryz.f64]) ?_ rfl rfl H
 by_cases h1:(48:Int)≤(b.toNat:Int)
 ·have h3:48≤b.toNat:=by omega
  by_cases h2:(b.toNat:Int)≤57
  ·have h4:b.toNat≤57:=by omega
   simp [Tryz.f64,A5,h1,h2,h3,h4]
  ·have h4:¬b.toNat≤57:=by omega
   simp [Tryz.f64,A5,h1,h2,h3,h4]
 ·have h3:¬48≤b.toNat:=by omega
  simp [Tryz.f64,A5,h1,h3]
def oRb:Orc:=A4 [(61,Fp 61 B5),(64,Fp 64 A5)]
theorem Po:AS zP AN oRb:=FM fun p hp=>by
 simp only [List.mem_cons,List.not_mem_nil,or_false] at hp;rcases hp with rfl|rfl
 ·exact Jv iY
 ·exact Jv iZ
theorem NC (b:UInt8) (H:AH):oRb 61 [.int .u8 (b.toNat:Int)] H=some (.bool (B5 b),H):=by simp [oRb,A4,Jw]
theorem Pp (b:UInt8) (H:AH):oRb 64 [.int .u8 (b.toNat:Int)] H=some (.bool (A5 b),H):=by simp [oRb,A4,Jw]
theorem ia (b:UInt8) (H:AH):CS zP AN 62 [.int .u8 (b.toNat:Int)] H (.bool (Bi b)) H:=by
 refine CS.run0 ⟨Po,DD,Af⟩ yEq Tryz.func62 (by kernel_rfl) (by kernel_rfl) 0 (by simp [Tryz.f62]) ?_ rfl rfl H;cases h1:B5 b
 ·cases h2:A5 b
  ·simp [Tryz.f62,Bi,h1,h2,NC,Pp]
   rw [Bool.eq_iff_iff];simp only [beq_iff_eq];omega
  ·simp [Tryz.f62,Bi,h1,h2,NC,Pp]
 ·simp [Tryz.f62,Bi,h1,NC]
theorem ib (w:List UInt8) (p e:Int) (H:AH):CS zP AN 24 [.str w,.int .i64 p,.int .i64 e] H (.agg [.slice .full 2 1 [.str w,.int .i64 p],.int .i64 e]) H:=by
 have b1:A3 zP 158 [(0,.str w),(1,.int .i64 p)]=some (.agg [.str w,.int .i64 p]):=by kernel_rfl
 have b2:Ch zP 55 1 [(0,.agg [.str w,.int .i64 p])]=some (.slice .full 2 1 [.str w,.int .i64 p]):=by kernel_rfl
 have b3:A3 zP 57 [(0,.slice .full 2 1 [.str w,.int .i64 p]),(1,.int .i64 e)]=some (.agg [.slice .full 2 1 [.str w,.int .i64 p],.int .i64 e]):=by kernel_rfl
 refine CS.run0 cxN yEq Tryz.func24 (by kernel_rfl) (by kernel_rfl) 0 (by simp [Tryz.f24]) ?_ rfl rfl H;simp [Tryz.f24,b1,b2,b3]
theorem ic (s:List UInt8) (i:Nat) (hi:i<s.length) (hs:s.length<By) (H:AH):CS zP AN 66 [.str s,.int .i64 i] H (.int .i64 (Cf (s.drop i))) H:=by
 rw [EE] at hs;refine CS.run0 cxN yEq Tryz.func66 (by kernel_rfl) (by kernel_rfl) 0 (by simp [Tryz.f66]) ?_ rfl rfl H;have hd:s.drop i=s[i]::s.drop (i+1):=List.drop_eq_getElem_cons hi;have w:IntKind.i64.wrap ((i:Int)+1)=(i:Int)+1:=Ab (by omega) (by omega);have ht:((i:Int)+1).toNat=i+1:=by omega
 have wD:(0:Int)≤(i:Int)+1:=by omega
 rw [hd];generalize hc:s[i]=c
 by_cases h:c.toNat=60∨c.toNat=62∨c.toNat=61∨c.toNat=47∨c.toNat=43∨c.toNat=45∨c.toNat=42∨c.toNat=40∨c.toNat=41∨c.toNat=44
 ·by_cases hl:i+1<s.length
  ·have hl':(i:Int)+1<s.length:=by omega
   have qD:s.drop (i+1)=s[i+1]::s.drop (i+1+1):=List.drop_eq_getElem_cons hl;rw [qD];generalize hd:s[i+1]=d
   by_cases he:d.toNat=61
   ·rcases h with h|h|h|h|h|h|h|h|h|h <;>
     simp [Tryz.f66,Cf,h,hc,hd,he,hl,hl',w,ht,wD,hi]
   ·have he':¬(d.toNat:Int)=61:=by omega
    rcases h with h|h|h|h|h|h|h|h|h|h <;>
     simp [Tryz.f66,Cf,h,hc,hd,he,he',hl,hl',w,ht,wD,hi]
  ·have hl':¬(i:Int)+1<s.length:=by omega
   have qD:s.drop (i+1)=[]:=List.drop_of_length_le (by omega);rw [qD]
   rcases h with h|h|h|h|h|h|h|h|h|h <;>
    simp [Tryz.f66,Cf,h,hc,hl,hl',w,ht,wD,hi]
 ·simp only [not_or] at h
  obtain ⟨a0,a1,a2,a3,a4,a5,a6,a7,a8,a9⟩:=h;have b0:¬(c.toNat:Int)=60:=by omega
  have b1:¬(c.toNat:Int)=62:=by omega
  have b2:¬(c.toNat:Int)=61:=by omega
  have b3:¬(c.toNat:Int)=47:=by omega
  have b4:¬(c.toNat:Int)=43:=by omega
  have b5:¬(c.toNat:Int)=45:=by omega
  have b6:¬(c.toNat:Int)=42:=by omega
  have b7:¬(c.toNat:Int)=40:=by omega
  have b8:¬(c.toNat:Int)=41:=by omega
  have b9:¬(c.toNat:Int)=44:=by omega
  by_cases hl:i+1<s.length
  ·have hl':(i:Int)+1<s.length:=by omega
   simp [Tryz.f66,Cf,hc,hl,hl',w,ht,wD,hi,a0,a1,a2,a3,a4,a5,a6,a7,a8,a9,b0,b1,b2,b3,b4,b5,b6,b7,b8,b9]
  ·have hl':¬(i:Int)+1<s.length:=by omega
   simp [Tryz.f66,Cf,hc,hl,hl',w,ht,wD,hi,a0,a1,a2,a3,a4,a5,a6,a7,a8,a9,b0,b1,b2,b3,b4,b5,b6,b7,b8,b9]
noncomputable def cK:Code:=Ar Tryz.f63
noncomputable def JR:Code:=Cq 2 cK
noncomputable def LO:Code:=Bh JR
noncomputable def UW:Code:=Aj JR
noncomputable def ND:Code:=Aj LO
noncomputable def Pq:Code:=inC (inC ND)
def yId:AV := .slice .full 1 8 (GM.map .str)
theorem ie (s:List UInt8) (H:AH):CS zP AN 63 [.str s] H (.bool (DE s)) H:=by
 have bs:Ch zP 23 8 [(0,.str [105,110,116,101,103,101,114]),(1,.str [100,111]),(2,.str [101,110,100]),(3,.str [105,102]),(4,.str [116,104,101,110]),(5,.str [101,108,115,101]),(6,.str [114,101,97,100]),(7,.str [112,114,105,110,116])]=some yId:=by kernel_rfl
 refine CS.tr0 yEq Tryz.func63 (by kernel_rfl) 0 (by simp [Tryz.f63]) (fun B hB hG => ?_) rfl rfl H;refine Tr.pre cxN hG 2 (R:=JR) rfl (by kernel_rfl) (by kernel_rfl) ?_;rw [Dm];simp [Tryz.f63,bs];refine Tr.seqD (a:=LO) (b:=UW) (by kernel_rfl) ?_;refine Tr.pre cxN hG 1 (R:=ND) (by kernel_rfl) (by kernel_rfl) (by kernel_rfl) ?_;rw [Dm];simp [LO,JR,cK,Tryz.f63];refine Tr.less (t':=mkT 18 [(0,.str s),(3,yId),(4,.int .i64 ((0:Nat):Int))]) (H':=[]) (AF.mk0 hB ?_) ?_
 ·simp [yId,GM]
 refine Tr.forD (a:=Pq) (id:=0) (by kernel_rfl) (fun k t H=>∃i,i+k=8∧t=mkT 18 [(0,.str s),(3,yId),(4,.int .i64 ((i:Nat):Int))]∧H=[]∧∀j<i,GM[j]? ≠ some s) 8 ⟨0,rfl,rfl,rfl,by simp⟩ ?_;rintro k t H ⟨i,px,rfl,rfl,hI⟩;refine Tr.run cxN hG (by kernel_rfl) ?_;rw [Dm];cases k with
 | zero =>
  obtain rfl:i=8:=by omega
  have rM:DE s=false:=by unfold DE;rw [←Bool.not_eq_true,List.contains_iff_mem];intro hm;obtain ⟨j,hj⟩:=List.mem_iff_getElem?.1 hm;have:j<8:=(List.getElem?_eq_some_iff.1 hj).1;exact hI j this hj
  simp [Pq,ND,LO,JR,cK,Tryz.f63,yId,Bt];refine Tr.run cxN hG (by kernel_rfl) ?_;rw [Dm];simp [UW,JR,cK,Tryz.f63,rM]
 | succ k =>
  have h8:GM.length=8:=rfl;obtain ⟨x,hx⟩:∃x,GM[i]? = some x:=⟨_,List.getElem?_eq_getElem (by omega)⟩
  have hi:(i:Int)<8:=by omega
  have w:IntKind.i64.wrap ((i:Int)+1)=(i:Int)+1:=Ab (by omega) (by omega);simp [Pq,ND,LO,JR,cK,Tryz.f63,yId,hi,hx];refine J0 (fun he => ?_) (fun he => ?_)
  ·subst he
   have z5:DE x=true:=by unfold DE;rw [List.contains_iff_mem];exact List.mem_of_getElem? hx
   simp [MX,z5]
  ·simp [w]
   refine ⟨k,by omega,_,_,AF.mk0 (l':=[(0,.str s),(3,yId),(4,.int .i64 ((i+1:Nat):Int))]) hB ?_,i+1,by omega,rfl,rfl,fun j hj => ?_⟩
   ·simp [yId,GM]
   ·rcases Nat.lt_or_ge j i with h|h
    ·exact hI j h
    ·obtain rfl:j=i:=by omega
     rw [hx];intro h;injection h with h;exact he h
noncomputable def cN:Code:=Ar Tryz.f65
noncomputable def JS:Code:=Cq 2 cN
noncomputable def loopN:Code:=Bh JS
noncomputable def UX:Code:=Aj JS
noncomputable def NE:Code:=Aj loopN
noncomputable def Pr:Code:=inC (inC NE)
def Hy (s:List UInt8):AV:=if Ba s<9223372036854775808 then .tup [.int .i64 (Ba s),.bool true] else .tup [.int .i64 0,.bool false]
def NumI (s:List UInt8) (k:Nat) (t:List AV) (H:AH):Prop :=∃i n,i+k=s.length∧t=mkT 29 [(0,.str s),(4,.int .u64 ((n:Nat):Int)),(5,.int .i64 ((i:Nat):Int))]∧H=[]∧n=Ba (s.take i)∧n<9223372036854775808
theorem ig (s:List UInt8) (hd:Ht s) (hs:s.length<By) (H:AH):CS zP AN 65 [.str s] H (Hy s) H:=by
 rw [EE] at hs;refine CS.tr0 yEq Tryz.func65 (by kernel_rfl) 0 (by simp [Tryz.f65]) (fun B hB hG => ?_) (by unfold Hy;split<;>rfl) rfl H;refine Tr.pre cxN hG 2 (R:=JS) rfl (by kernel_rfl) (by kernel_rfl) ?_;rw [Dm];simp [Tryz.f65];refine Tr.seqD (a:=loopN) (b:=UX) (by kernel_rfl) ?_;refine Tr.pre cxN hG 1 (R:=NE) (by kernel_rfl) (by kernel_rfl) (by kernel_rfl) ?_;rw [Dm];simp [loopN,JS,cN,Tryz.f65];refine Tr.less (t':=mkT 29 [(0,.str s),(4,.int .u64 ((0:Nat):Int)),(5,.int .i64 ((0:Nat):Int))]) (H':=[]) (AF.mk0 hB ?_) ?_
 ·simp
 refine Tr.forD (a:=Pr) (id:=0) (by kernel_rfl) (NumI s) s.length ⟨0,0,by omega,rfl,rfl,rfl,by omega⟩ ?_;rintro k t H ⟨i,n,px,rfl,rfl,hn,p9⟩;refine Tr.run cxN hG (by kernel_rfl) ?_;rw [Dm];cases k with
 | zero =>
  obtain rfl:i=s.length:=by omega
  rw [List.take_length] at hn;have w:IntKind.i64.wrap (n:Int)=(n:Int):=Ab (by omega) (by omega);have hr:Hy s = .tup [.int .i64 n,.bool true]:=by rw [Hy,if_pos (by omega),hn]
  simp [Pr,NE,loopN,JS,cN,Tryz.f65,Bt];refine Tr.run cxN hG (by kernel_rfl) ?_;rw [Dm];simp [UX,JS,cN,Tryz.f65,w,hr]
 | succ k =>
  have hi:i<s.length:=by omega
  have hi':(i:Int)<s.length:=by omega
  have hc:=hd s[i] (List.getElem_mem hi);have qS:s.take (i+1)=s.take i++[s[i]]:=by rw [List.take_add_one,List.getElem?_eq_getElem hi];rfl
  have tg:Ba (s.take (i+1))=10*n+(s[i].toNat-48):=by rw [qS,PI,←hn]
  have pv:Ba (s.take (i+1))≤Ba s:=by
   have:=TZ (s.take (i+1)) (s.drop (i+1))
   rwa [List.take_append_drop] at this
  obtain ⟨d,uM⟩:∃d:Nat,d=s[i].toNat-48:=⟨_,rfl⟩
  have w1:IntKind.u8.wrap ((s[i].toNat:Int)-48)=(d:Int):=by simp [IntKind.wrap,IntKind.bits,IntKind.signed];omega
  have w2:IntKind.u64.wrap (d:Int)=(d:Int):=by simp [IntKind.wrap,IntKind.bits,IntKind.signed];omega
  have w3:IntKind.u64.wrap (9223372036854775807-(d:Int))=9223372036854775807-(d:Int):=by simp [IntKind.wrap,IntKind.bits,IntKind.signed];omega
  obtain ⟨q,hq⟩:∃q:Nat,q=(9223372036854775807-d) / 10:=⟨_,rfl⟩
  have w4:(9223372036854775807-(d:Int)).tdiv 10=(q:Int):=by rw [Int.tdiv_eq_ediv_of_nonneg (by omega)];omega
  have w5:IntKind.u64.wrap (q:Int)=(q:Int):=by simp [IntKind.wrap,IntKind.bits,IntKind.signed];omega
  have w9:IntKind.i64.wrap ((i:Int)+1)=(i:Int)+1:=Ab (by omega) (by omega);simp [Pr,NE,loopN,JS,cN,Tryz.f65,hi,hi',w1,w2,w3,w4,w5];refine J0 (fun he => ?_) (fun he => ?_)
  ·have hr:Hy s = .tup [.int .i64 0,.bool false]:=by rw [Hy,if_neg (by omega)]
   simp [MX,hr]
  ·have w6:IntKind.u64.wrap (10*(n:Int))=10*(n:Int):=by simp [IntKind.wrap,IntKind.bits,IntKind.signed];omega
   have w7:IntKind.u64.wrap (10*(n:Int)+(d:Int))=10*(n:Int)+(d:Int):=by simp [IntKind.wrap,IntKind.bits,IntKind.signed];omega
   simp [w6,w7,w9];refine ⟨k,by omega,_,_,AF.mk0 (l':=[(0,.str s),(4,.int .u64 ((10*n+d:Nat):Int)),(5,.int .i64 ((i+1:Nat):Int))]) hB ?_,i+1,10*n+d,by omega,rfl,rfl,by omega,by omega⟩;simp
noncomputable def c10:Code:=Ar Tryz.f20
noncomputable def Ev:Code:=Cq 3 c10
noncomputable def F2:Code:=Bh Ev
noncomputable def Ps:Code:=Aj Ev
noncomputable def Eb:Code:=inC (inC F2)
noncomputable def F10:Func:=Tryz.f20
def FU (w:List UInt8) (p e:Nat):AV := .agg [.slice .full 2 1 [.str w,.int .i64 p],.int .i64 e]
def LP:AV := .agg [.nilSlice,.int .i64 0]
def C3:Except (Nat × Nat) (List Wd)→AV
 | .ok l => .tup [AD l,LP]
 | .error (p,e) => .tup [.nilSlice,FU DM p e]
def FV (l:List Wd):AV:=if l=[] then .nilSlice else .slice (.tok 1) 4 l.length (A6 l)
def CB:Ent := .box [.nilSlice,.int .i64 0]
def HR (l:List Wd):AH:=if l=[] then [some CB] else [some CB,some (.tok l.length)]
theorem Gy (l:List Wd):(l=[]∧HR l=[some CB])∨(l≠[]∧HR l=[some CB,some (.tok l.length)]):=by
 unfold HR
 by_cases h:l=[]
 ·exact .inl ⟨h,if_pos h⟩
 ·exact .inr ⟨h,if_neg h⟩
theorem KS (l:List Wd) (w:Wd) (fid:Nat) (H:AH) (hl:l.length<137438953470) (h1:l=[]→fid=1) (h2:l≠[]→H.at 1=some (.tok l.length)) :
  De zP H fid 54 54 (FV l) (.slice .full 4 1 [.int .i64 w.kind,.str w.text,.int .i64 w.at_,.int .i64 w.n])=some (FV (l++[w]),[(1,.tok (l.length+1))]):=by
 by_cases h:l=[]
 ·subst h
  rw [h1 rfl];simp only [FV,if_true];rw [GI Ty.ec54 (by omega) (by omega) (by simp [AV.one])];simp [A6,BD]
 ·have pp:l++[w]≠[]:=by simp
  simp only [FV,if_neg h,if_neg pp];rw [Em Ty.ec54 (h2 h) (by omega) (by omega) (by simp [AV.one])];simp [A6,BD]
theorem bsR (a:Int) (b:List UInt8) (c d:Int):Ch zP 54 1 [(0,.agg [.int .i64 a,.str b,.int .i64 c,.int .i64 d])]=some (.slice .full 4 1 [.int .i64 a,.str b,.int .i64 c,.int .i64 d]):=by kernel_rfl
theorem buR (a:Int) (b:List UInt8) (c d:Int):A3 zP 144 [(0,.int .i64 a),(1,.str b),(2,.int .i64 c),(3,.int .i64 d)]=some (.agg [.int .i64 a,.str b,.int .i64 c,.int .i64 d]):=by kernel_rfl
theorem buW:A3 zP 57 []=some (.agg [.nilSlice,.int .i64 0]):=by kernel_rfl
def tR (s:List UInt8) (l:List Wd) (i:Nat):List AV:=mkT 139 [(0,.str s),(3,.ptr 0 0),(4,FV l),(5,.int .i64 i)]
theorem UY (l:List Wd) (m:Nat) (h:l=[]∨1<m):low m (FV l)=true:=by
 unfold FV
 split
 ·rfl
 ·rename_i hn
  have:1<m:=by rcases h with h|h;exact absurd h hn;exact h
  simp [this,Ah (Nat.zero_le m) _ (Hu l)]
theorem GS {B:Bs} (hB:B.H=[]) {s:List UInt8} {l:List Wd} {i:Nat} {a:List (Nat × AV)} {H:AH} (h0:(a.lookup 0).getD .undef = .str s) (h3:(a.lookup 3).getD .undef = .ptr 0 0) (h4:(a.lookup 4).getD .undef=FV l) (h5:(a.lookup 5).getD .undef = .int .i64 i)
  (hH:H.take (HR l).length=HR l):AF B (mkT 139 a) H (tR s l i) (HR l):=by
 refine AF.mkT (HR l).length (by simp [hB]) ?_ hH ?_
 ·intro p hp
  simp only [List.mem_cons,List.not_mem_nil,or_false] at hp;rcases hp with rfl|rfl|rfl|rfl
  ·exact .same h0 rfl
  ·refine .same h3 ?_
   rcases Gy l with ⟨_,h⟩|⟨_,h⟩<;>simp [h]
  ·refine .same h4 (UY l _ ?_)
   rcases Gy l with ⟨h,_⟩|⟨_,h⟩
   ·exact .inl h
   ·exact .inr (by rw [h];simp)
  ·exact .same h5 rfl
 ·rcases Gy l with ⟨_,h⟩|⟨_,h⟩<;>simp [h,CB]
def Pt:Orc:=Bw 63 (fun args=>match args with
  | [.str s]=>some s
  | _=>none) fun s => .bool (DE s)
theorem ii:AS zP AN Pt:=D7 fun args x H h=>by
 split at h
 ·injection h with h
  subst h;exact ie _ H
 ·cases h
def Pu:Orc:=Bw 66 (fun args=>match args with
  | [.str s,.int .i64 n]=>if 0≤n∧n.toNat<s.length∧s.length<By then some (s,n.toNat) else none
  | _=>none) fun x => .int .i64 (Cf (x.1.drop x.2))
theorem ij:AS zP AN Pu:=D7 fun args x H h=>by
 split at h
 ·split at h
  ·rename_i s n hn
   injection h with h;subst h;have:=ic s n.toNat hn.2.1 hn.2.2 H
   rwa [Int.toNat_of_nonneg hn.1] at this
  ·cases h
 ·cases h
def Pv:Orc:=Bw 65 (fun args=>match args with
  | [.str s]=>if s.length<By∧s.all (fun b=>decide (48≤b.toNat)&&decide (b.toNat≤57))=true then some s else none
  | _=>none) Hy
theorem ik:AS zP AN Pv:=D7 fun args x H h=>by
 split at h
 ·split at h
  ·rename_i s hn
   injection h with h;subst h;exact ig s (fun b hb=>by simpa using List.all_eq_true.1 hn.2 b hb) hn.1 H
  ·cases h
 ·cases h
def JT:Orc:=Bw 24 (fun args=>match args with
  | [.str w,.int .i64 p,.int .i64 e]=>some (w,p,e)
  | _=>none) fun x => .agg [.slice .full 2 1 [.str x.1,.int .i64 x.2.1],.int .i64 x.2.2]
theorem NF:AS zP AN JT:=D7 fun args x H h=>by
 split at h
 ·injection h with h
  subst h;exact ib _ _ _ H
 ·cases h
def oR:Orc:=A4 [(61,oRb),(64,oRb),(62,Fp 62 Bi),(63,Pt),(66,Pu),(65,Pv),(24,JT)]
theorem il:AS zP AN oR:=FM fun p hp=>by
 simp only [List.mem_cons,List.not_mem_nil,or_false] at hp;rcases hp with rfl|rfl|rfl|rfl|rfl|rfl|rfl
 ·exact Po
 ·exact Po
 ·exact Jv ia
 ·exact ii
 ·exact ij
 ·exact ik
 ·exact NF
theorem Ie:Cx oR zP AN:=⟨il,DD,Af⟩
theorem EG (b:UInt8) (H:AH):oR 61 [.int .u8 (b.toNat:Int)] H=some (.bool (B5 b),H):=by simp [oR,A4,NC]
theorem Dq (b:UInt8) (H:AH):oR 64 [.int .u8 (b.toNat:Int)] H=some (.bool (A5 b),H):=by simp [oR,A4,Pp]
theorem DW (b:UInt8) (H:AH):oR 62 [.int .u8 (b.toNat:Int)] H=some (.bool (Bi b),H):=by simp [oR,A4,Jw]
theorem If (s:List UInt8) (H:AH):oR 63 [.str s] H=some (.bool (DE s),H):=by simp [oR,A4,Pt,Bw]
theorem DX (w:List UInt8) (p e:Int) (H:AH):oR 24 [.str w,.int .i64 p,.int .i64 e] H=some (.agg [.slice .full 2 1 [.str w,.int .i64 p],.int .i64 e],H):=by simp [oR,A4,JT,Bw]
theorem oR_s (s:List UInt8) (n:Nat) (H:AH) (h:n<s.length) (hs:s.length<By):oR 66 [.str s,.int .i64 n] H=some (.int .i64 (Cf (s.drop n)),H):=by simp [oR,A4,Pu,Bw,h,hs]
theorem oR_n (s:List UInt8) (H:AH) (h:Ht s) (hs:s.length<By):oR 65 [.str s] H=some (Hy s,H):=by
 have:s.all (fun b=>decide (48≤b.toNat)&&decide (b.toNat≤57))=true:=List.all_eq_true.2 fun b hb=>by simpa using h b hb
 simp only [oR,A4,List.lookup];simp [Pv,Bw,hs];exact h
def NG (s:List UInt8) (l:List Wd) (i F:Nat) (H:AH) (k:Nat) (t:List AV) (H':AH):Prop :=∃m,m+k=F∧t=mkT 139 [(0,.str s),(3,.ptr 0 0),(4,FV l),(5,.int .i64 ((i+m:Nat):Int)),(6,.int .i64 ((i:Nat):Int))]∧H'=H
theorem Ig {B:Bs} (hB:B.H=[]) {s:List UInt8} {l:List Wd} {i j:Nat} {a:List (Nat × AV)} {H:AH} (hH:H=HR l) (h0:(a.lookup 0).getD .undef = .str s) (h3:(a.lookup 3).getD .undef = .ptr 0 0) (h4:(a.lookup 4).getD .undef=FV l)
  (h5:(a.lookup 5).getD .undef = .int .i64 ((j:Nat):Int)) (h6:(a.lookup 6).getD .undef = .int .i64 ((i:Nat):Int)) :
  AF B (mkT 139 a) H (mkT 139 [(0,.str s),(3,.ptr 0 0),(4,FV l),(5,.int .i64 ((j:Nat):Int)),(6,.int .i64 ((i:Nat):Int))]) H:=by
 subst hH;refine AF.mkT (HR l).length (by simp [hB]) ?_ (by simp) ?_
 ·intro p hp
  simp only [List.mem_cons,List.not_mem_nil,or_false] at hp;rcases hp with rfl|rfl|rfl|rfl|rfl
  ·exact .same h0 rfl
  ·refine .same h3 ?_
   rcases Gy l with ⟨_,h⟩|⟨_,h⟩<;>simp [h]
  ·refine .same h4 (UY l _ ?_)
   rcases Gy l with ⟨h,_⟩|⟨_,h⟩
   ·exact .inl h
   ·exact .inr (by rw [h];simp)
  ·exact .same h5 rfl
  ·exact .same h6 rfl
 ·rcases Gy l with ⟨_,h⟩|⟨_,h⟩<;>simp [h,CB]
theorem NH (p:UInt8→Bool) (s:List UInt8) (i m:Nat) (h:m<Ap p (s.drop i)):∃h:i+m<s.length,p s[i+m]=true:=by obtain ⟨h1,h2⟩:=MU p (s.drop i) m h;rw [List.length_drop] at h1;exact ⟨by omega,by simpa [List.getElem_drop] using h2⟩
theorem NI (p:UInt8→Bool) (s:List UInt8) (i:Nat) (h:i+Ap p (s.drop i)<s.length):p s[i+Ap p (s.drop i)]=false:=by have:=MV p (s.drop i) (by rw [List.length_drop];omega);simpa [List.getElem_drop] using this
theorem UZ (p:UInt8→Bool) (s:List UInt8) (i:Nat) (hi:i≤s.length):i+Ap p (s.drop i)≤s.length:=by have:=Fq p (s.drop i);rw [List.length_drop] at this;omega
theorem FW (s:List UInt8) (i F:Nat):(s.take (i+F)).drop i=(s.drop i).take F:=by
 rw [List.drop_take]
 congr 1
 omega
theorem im (B:Bs) (hB:B.H=[]) (hG:An AN B.g) (s:List UInt8) (l:List Wd) (i m:Nat) (hi:i<s.length) (hs:s.length<137438953470) (qZ:l.length≤i)
  (qF:¬(s[i].toNat:Int)=32) (qA:¬(s[i].toNat:Int)=9) (qj:B5 s[i]=true) (hF:m=Ap Bi (s.drop i)) (Q:AEx→List AV→AH→Prop) (K:Nat) (hK:K=if DE ((s.drop i).take m) then 4 else 1)
  (hN:m≤31→∀t H,AF B t H (tR s (l++[⟨K,(s.drop i).take m,i,0⟩]) (i+m)) (HR (l++[⟨K,(s.drop i).take m,i,0⟩]))→Q .normal t H)
  (hE:31<m→∀t H,Fin zP F10 0 1 (C3 (.error (i,4))) [] .ret t H→Q .ret t H) :
  Go oR zP AN (LpT zP B) Eb [] (tR s l i) (HR l) Q:=by
 have pv:i+m≤s.length:=by rw [hF];exact UZ Bi s i (by omega)
 have hi':(i:Int)<s.length:=by omega
 have e1:((i:Int)+(m:Int)).toNat=i+m:=by omega
 have e2:(i:Int)+(m:Int)≤s.length:=by omega
 have e3:(0:Int)≤(i:Int)+(m:Int):=by omega
 have e4:(i:Int)≤(i:Int)+(m:Int):=by omega
 have e5:IntKind.i64.wrap (m:Int)=(m:Int):=Ab (by omega) (by omega);have e7:(i:Int)+(m:Int)-(i:Int)=(m:Int):=by omega
 have e8:IntKind.i64.wrap ((i:Int)+(m:Int))=(i:Int)+(m:Int):=Ab (by omega) (by omega);rcases Gy l with ⟨hl,hH⟩|⟨hl,hH⟩
 ·rw [hH]
  have py:=fun H=>KS l ⟨K,(s.drop i).take m,i,0⟩ 1 H (by omega) (fun _=>rfl) (fun h=>absurd hl h)
  simp [Eb,F2,Ev,c10,Tryz.f20,tR,hi,hi',qF,qA,EG,qj];refine LpT.loop Ie hG (by kernel_rfl) (NG s l i m _) m (Ig (j:=i+0) hB hH.symm (by simp) (by simp) (by simp) (by simp) (by simp)) ⟨0,by omega,rfl,rfl⟩ ?_;rintro k t H ⟨d,hd,rfl,rfl⟩;cases k with
  | succ k =>
   obtain ⟨h1,h2⟩:=NH Bi s i d (by omega);have f1:(i:Int)+(d:Int)<s.length:=by omega
   have f2:((i:Int)+(d:Int)).toNat=i+d:=by omega
   have f3:(0:Int)≤(i:Int)+(d:Int):=by omega
   have f4:IntKind.i64.wrap ((i:Int)+(d:Int)+1)=(i:Int)+(d:Int)+1:=Ab (by omega) (by omega);simp [f1,f2,f3,f4,h1,DW,Dq,h2];refine ⟨k,by omega,_,_,Ig (j:=i+(d+1)) hB hH.symm (by simp) (by simp) (by simp) (by simp;omega) (by simp),d+1,by omega,rfl,rfl⟩
  | zero =>
   obtain rfl:d=m:=by omega
   by_cases h1:i+d<s.length
   ·have h2:Bi s[i+d]=false:=by
     have:=NI Bi s i (by rw [←hF];exact h1);simpa only [←hF] using this
    have f1:(i:Int)+(d:Int)<s.length:=by omega
    by_cases x7:31<d
    ·have f5:(31:Int)<(d:Int):=by omega
     by_cases hk:DE ((s.drop i).take d)=true
     all_goals
      simp only [hk,if_true,if_false,Bool.false_eq_true] at hK;subst hK;simp at py;simp [f1,f5,hk,e1,e2,e3,e4,e5,e7,e8,DW,FW,If,DX,h1,h2,CB];refine hE (by omega) _ _ ?_;rw [D9];simp [F10,Tryz.f20,C3,FU,DM,CB]
    ·have f5:¬(31:Int)<(d:Int):=by omega
     by_cases hk:DE ((s.drop i).take d)=true
     all_goals
      simp only [hk,if_true,if_false,Bool.false_eq_true] at hK;subst hK;simp at py;simp [f1,f5,hk,e1,e2,e3,e4,e5,e7,e8,DW,FW,If,DX,h1,h2,buR,bsR,py];refine hN (by omega) _ _ (GS hB ?_ ?_ ?_ ?_ ?_)
      ·simp
      ·simp
      ·simp
      ·simp
      ·simp [HR,hl]
   ·have f1:¬(i:Int)+(d:Int)<s.length:=by omega
    by_cases x7:31<d
    ·have f5:(31:Int)<(d:Int):=by omega
     by_cases hk:DE ((s.drop i).take d)=true
     all_goals
      simp only [hk,if_true,if_false,Bool.false_eq_true] at hK;subst hK;simp at py;simp [f1,f5,hk,e1,e2,e3,e4,e5,e7,e8,DW,FW,If,DX,CB];refine hE (by omega) _ _ ?_;rw [D9];simp [F10,Tryz.f20,C3,FU,DM,CB]
    ·have f5:¬(31:Int)<(d:Int):=by omega
     by_cases hk:DE ((s.drop i).take d)=true
     all_goals
      simp only [hk,if_true,if_false,Bool.false_eq_true] at hK;subst hK;simp at py;simp [f1,f5,hk,e1,e2,e3,e4,e5,e7,e8,DW,FW,If,DX,buR,bsR,py];refine hN (by omega) _ _ (GS hB ?_ ?_ ?_ ?_ ?_)
      ·simp
      ·simp
      ·simp
      ·simp
      ·simp [HR,hl]
 ·rw [hH]
  have py:=fun fid=>KS l ⟨K,(s.drop i).take m,i,0⟩ fid [some CB,some (.tok l.length),none] (by omega) (fun h=>absurd h hl) (fun _=>by simp)
  simp [Eb,F2,Ev,c10,Tryz.f20,tR,hi,hi',qF,qA,EG,qj];refine LpT.loop Ie hG (by kernel_rfl) (NG s l i m _) m (Ig (j:=i+0) hB hH.symm (by simp) (by simp) (by simp) (by simp) (by simp)) ⟨0,by omega,rfl,rfl⟩ ?_;rintro k t H ⟨d,hd,rfl,rfl⟩;cases k with
  | succ k =>
   obtain ⟨h1,h2⟩:=NH Bi s i d (by omega);have f1:(i:Int)+(d:Int)<s.length:=by omega
   have f2:((i:Int)+(d:Int)).toNat=i+d:=by omega
   have f3:(0:Int)≤(i:Int)+(d:Int):=by omega
   have f4:IntKind.i64.wrap ((i:Int)+(d:Int)+1)=(i:Int)+(d:Int)+1:=Ab (by omega) (by omega);simp [f1,f2,f3,f4,h1,DW,Dq,h2];refine ⟨k,by omega,_,_,Ig (j:=i+(d+1)) hB hH.symm (by simp) (by simp) (by simp) (by simp;omega) (by simp),d+1,by omega,rfl,rfl⟩
  | zero =>
   obtain rfl:d=m:=by omega
   by_cases h1:i+d<s.length
   ·have h2:Bi s[i+d]=false:=by
     have:=NI Bi s i (by rw [←hF];exact h1);simpa only [←hF] using this
    have f1:(i:Int)+(d:Int)<s.length:=by omega
    by_cases x7:31<d
    ·have f5:(31:Int)<(d:Int):=by omega
     by_cases hk:DE ((s.drop i).take d)=true
     all_goals
      simp only [hk,if_true,if_false,Bool.false_eq_true] at hK;subst hK;simp at py;simp [f1,f5,hk,e1,e2,e3,e4,e5,e7,e8,DW,FW,If,DX,h1,h2,CB];refine hE (by omega) _ _ ?_;rw [D9];simp [F10,Tryz.f20,C3,FU,DM,CB]
    ·have f5:¬(31:Int)<(d:Int):=by omega
     by_cases hk:DE ((s.drop i).take d)=true
     all_goals
      simp only [hk,if_true,if_false,Bool.false_eq_true] at hK;subst hK;simp at py;simp [f1,f5,hk,e1,e2,e3,e4,e5,e7,e8,DW,FW,If,DX,h1,h2,buR,bsR,py];refine hN (by omega) _ _ (GS hB ?_ ?_ ?_ ?_ ?_)
      ·simp
      ·simp
      ·simp
      ·simp
      ·simp [HR,hl]
   ·have f1:¬(i:Int)+(d:Int)<s.length:=by omega
    by_cases x7:31<d
    ·have f5:(31:Int)<(d:Int):=by omega
     by_cases hk:DE ((s.drop i).take d)=true
     all_goals
      simp only [hk,if_true,if_false,Bool.false_eq_true] at hK;subst hK;simp at py;simp [f1,f5,hk,e1,e2,e3,e4,e5,e7,e8,DW,FW,If,DX,CB];refine hE (by omega) _ _ ?_;rw [D9];simp [F10,Tryz.f20,C3,FU,DM,CB]
    ·have f5:¬(31:Int)<(d:Int):=by omega
     by_cases hk:DE ((s.drop i).take d)=true
     all_goals
      simp only [hk,if_true,if_false,Bool.false_eq_true] at hK;subst hK;simp at py;simp [f1,f5,hk,e1,e2,e3,e4,e5,e7,e8,DW,FW,If,DX,buR,bsR,py];refine hN (by omega) _ _ (GS hB ?_ ?_ ?_ ?_ ?_)
      ·simp
      ·simp
      ·simp
      ·simp
      ·simp [HR,hl]
theorem io (B:Bs) (hB:B.H=[]) (hG:An AN B.g) (s:List UInt8) (l:List Wd) (i m:Nat) (hi:i<s.length) (hs:s.length<137438953470) (qZ:l.length≤i)
  (qF:¬(s[i].toNat:Int)=32) (qA:¬(s[i].toNat:Int)=9) (qj:B5 s[i]=false) (sD:A5 s[i]=true) (hF:m=Ap A5 (s.drop i)) (Q:AEx→List AV→AH→Prop)
  (hN:Ba ((s.drop i).take m)<9223372036854775808→(∀h:i+m<s.length,B5 s[i+m]=false)→∀t H,AF B t H (tR s (l++[⟨2,(s.drop i).take m,i,Ba ((s.drop i).take m)⟩]) (i+m)) (HR (l++[⟨2,(s.drop i).take m,i,Ba ((s.drop i).take m)⟩]))→Q .normal t H)
  (hE:¬Ba ((s.drop i).take m)<9223372036854775808→∀t H,Fin zP F10 0 1 (C3 (.error (i,5))) [] .ret t H→Q .ret t H)
  (vM:Ba ((s.drop i).take m)<9223372036854775808→(∃h:i+m<s.length,B5 s[i+m]=true)→∀t H,Fin zP F10 0 1 (C3 (.error (i+m,3))) [] .ret t H→Q .ret t H) :
  Go oR zP AN (LpT zP B) Eb [] (tR s l i) (HR l) Q:=by
 have pv:i+m≤s.length:=by rw [hF];exact UZ A5 s i (by omega)
 have hi':(i:Int)<s.length:=by omega
 have e1:((i:Int)+(m:Int)).toNat=i+m:=by omega
 have e2:(i:Int)+(m:Int)≤s.length:=by omega
 have e3:(0:Int)≤(i:Int)+(m:Int):=by omega
 have e4:(i:Int)≤(i:Int)+(m:Int):=by omega
 have e5:IntKind.i64.wrap (m:Int)=(m:Int):=Ab (by omega) (by omega);have e7:(i:Int)+(m:Int)-(i:Int)=(m:Int):=by omega
 have e8:IntKind.i64.wrap ((i:Int)+(m:Int))=(i:Int)+(m:Int):=Ab (by omega) (by omega)
 have vC:Ht ((s.drop i).take m):=fun b hb=>by have:=Pa A5 (s.drop i) b (by rw [←hF];exact hb);simpa [A5] using this
 have p9:((s.drop i).take m).length<By:=by rw [EE,List.length_take,List.length_drop];omega
 have hn:=fun H=>oR_n ((s.drop i).take m) H vC p9
 unfold Hy at hn;rcases Gy l with ⟨hl,hH⟩|⟨hl,hH⟩
 ·rw [hH]
  have py:=fun H=>KS l ⟨2,(s.drop i).take m,i,Ba ((s.drop i).take m)⟩ 1 H (by omega) (fun _=>rfl) (fun h=>absurd hl h)
  simp at py;simp [Eb,F2,Ev,c10,Tryz.f20,tR,hi,hi',qF,qA,EG,Dq,qj,sD];refine LpT.loop Ie hG (by kernel_rfl) (NG s l i m _) m (Ig (j:=i+0) hB hH.symm (by simp) (by simp) (by simp) (by simp) (by simp)) ⟨0,by omega,rfl,rfl⟩ ?_;rintro k t H ⟨d,hd,rfl,rfl⟩;cases k with
  | succ k =>
   obtain ⟨h1,h2⟩:=NH A5 s i d (by omega);have f1:(i:Int)+(d:Int)<s.length:=by omega
   have f2:((i:Int)+(d:Int)).toNat=i+d:=by omega
   have f3:(0:Int)≤(i:Int)+(d:Int):=by omega
   have f4:IntKind.i64.wrap ((i:Int)+(d:Int)+1)=(i:Int)+(d:Int)+1:=Ab (by omega) (by omega);simp [f1,f2,f3,f4,h1,DW,Dq,h2];refine ⟨k,by omega,_,_,Ig (j:=i+(d+1)) hB hH.symm (by simp) (by simp) (by simp) (by simp;omega) (by simp),d+1,by omega,rfl,rfl⟩
  | zero =>
   obtain rfl:d=m:=by omega
   generalize hT:(s.drop i).take d=T at hn py hN hE vM;have qd:(s.take (i+d)).drop i=T:=by rw [FW];exact hT
   generalize Ba T=N at hn py hN hE vM
   by_cases h1:i+d<s.length
   ·have h2:A5 s[i+d]=false:=by
     have:=NI A5 s i (by rw [←hF];exact h1);simpa only [←hF] using this
    have f1:(i:Int)+(d:Int)<s.length:=by omega
    by_cases rN:N<9223372036854775808
    ·rw [if_pos rN] at hn
     cases h3:B5 s[i+d]
     ·simp [f1,e1,e2,e3,e4,e5,e7,e8,DW,Dq,EG,qd,DX,hn,h1,h2,h3,buR,bsR,py]
      refine hN rN (fun _=>h3) _ _ (GS hB ?_ ?_ ?_ ?_ ?_)
      ·simp
      ·simp
      ·simp
      ·simp
      ·simp [HR,hl]
     ·simp [f1,e1,e2,e3,e4,e5,e7,e8,DW,Dq,EG,qd,DX,hn,h1,h2,h3,CB]
      refine vM rN ⟨h1,h3⟩ _ _ ?_;rw [D9];simp [F10,Tryz.f20,C3,FU,DM,CB]
    ·rw [if_neg rN] at hn
     simp [f1,e1,e2,e3,e4,e5,e7,e8,DW,Dq,EG,qd,DX,hn,h1,h2,CB];refine hE rN _ _ ?_;rw [D9];simp [F10,Tryz.f20,C3,FU,DM,CB]
   ·have f1:¬(i:Int)+(d:Int)<s.length:=by omega
    by_cases rN:N<9223372036854775808
    ·rw [if_pos rN] at hn
     simp [f1,e1,e2,e3,e4,e5,e7,e8,DW,Dq,EG,qd,DX,hn,buR,bsR,py];refine hN rN (fun h=>absurd h h1) _ _ (GS hB ?_ ?_ ?_ ?_ ?_)
     ·simp
     ·simp
     ·simp
     ·simp
     ·simp [HR,hl]
    ·rw [if_neg rN] at hn
     simp [f1,e1,e2,e3,e4,e5,e7,e8,DW,Dq,EG,qd,DX,hn,CB];refine hE rN _ _ ?_;rw [D9];simp [F10,Tryz.f20,C3,FU,DM,CB]
 ·rw [hH]
  have py:=fun fid=>KS l ⟨2,(s.drop i).take m,i,Ba ((s.drop i).take m)⟩ fid [some CB,some (.tok l.length),none] (by omega) (fun h=>absurd h hl) (fun _=>by simp)
  simp at py;simp [Eb,F2,Ev,c10,Tryz.f20,tR,hi,hi',qF,qA,EG,Dq,qj,sD];refine LpT.loop Ie hG (by kernel_rfl) (NG s l i m _) m (Ig (j:=i+0) hB hH.symm (by simp) (by simp) (by simp) (by simp) (by simp)) ⟨0,by omega,rfl,rfl⟩ ?_;rintro k t H ⟨d,hd,rfl,rfl⟩;cases k with
  | succ k =>
   obtain ⟨h1,h2⟩:=NH A5 s i d (by omega);have f1:(i:Int)+(d:Int)<s.length:=by omega
   have f2:((i:Int)+(d:Int)).toNat=i+d:=by omega
   have f3:(0:Int)≤(i:Int)+(d:Int):=by omega
   have f4:IntKind.i64.wrap ((i:Int)+(d:Int)+1)=(i:Int)+(d:Int)+1:=Ab (by omega) (by omega);simp [f1,f2,f3,f4,h1,DW,Dq,h2];refine ⟨k,by omega,_,_,Ig (j:=i+(d+1)) hB hH.symm (by simp) (by simp) (by simp) (by simp;omega) (by simp),d+1,by omega,rfl,rfl⟩
  | zero =>
   obtain rfl:d=m:=by omega
   generalize hT:(s.drop i).take d=T at hn py hN hE vM;have qd:(s.take (i+d)).drop i=T:=by rw [FW];exact hT
   generalize Ba T=N at hn py hN hE vM
   by_cases h1:i+d<s.length
   ·have h2:A5 s[i+d]=false:=by
     have:=NI A5 s i (by rw [←hF];exact h1);simpa only [←hF] using this
    have f1:(i:Int)+(d:Int)<s.length:=by omega
    by_cases rN:N<9223372036854775808
    ·rw [if_pos rN] at hn
     cases h3:B5 s[i+d]
     ·simp [f1,e1,e2,e3,e4,e5,e7,e8,DW,Dq,EG,qd,DX,hn,h1,h2,h3,buR,bsR,py]
      refine hN rN (fun _=>h3) _ _ (GS hB ?_ ?_ ?_ ?_ ?_)
      ·simp
      ·simp
      ·simp
      ·simp
      ·simp [HR,hl]
     ·simp [f1,e1,e2,e3,e4,e5,e7,e8,DW,Dq,EG,qd,DX,hn,h1,h2,h3,CB]
      refine vM rN ⟨h1,h3⟩ _ _ ?_;rw [D9];simp [F10,Tryz.f20,C3,FU,DM,CB]
    ·rw [if_neg rN] at hn
     simp [f1,e1,e2,e3,e4,e5,e7,e8,DW,Dq,EG,qd,DX,hn,h1,h2,CB];refine hE rN _ _ ?_;rw [D9];simp [F10,Tryz.f20,C3,FU,DM,CB]
   ·have f1:¬(i:Int)+(d:Int)<s.length:=by omega
    by_cases rN:N<9223372036854775808
    ·rw [if_pos rN] at hn
     simp [f1,e1,e2,e3,e4,e5,e7,e8,DW,Dq,EG,qd,DX,hn,buR,bsR,py];refine hN rN (fun h=>absurd h h1) _ _ (GS hB ?_ ?_ ?_ ?_ ?_)
     ·simp
     ·simp
     ·simp
     ·simp
     ·simp [HR,hl]
    ·rw [if_neg rN] at hn
     simp [f1,e1,e2,e3,e4,e5,e7,e8,DW,Dq,EG,qd,DX,hn,CB];refine hE rN _ _ ?_;rw [D9];simp [F10,Tryz.f20,C3,FU,DM,CB]
theorem ip (B:Bs) (hB:B.H=[]) (hG:An AN B.g) (s:List UInt8) (l:List Wd) (i m:Nat) (hi:i<s.length) (hs:s.length<137438953470) (qZ:l.length≤i)
  (qF:¬(s[i].toNat:Int)=32) (qA:¬(s[i].toNat:Int)=9) (qj:B5 s[i]=false) (sD:A5 s[i]=false) (hF:m=Cf (s.drop i)) (Q:AEx→List AV→AH→Prop)
  (hN:m≠0→∀t H,AF B t H (tR s (l++[⟨3,(s.drop i).take m,i,0⟩]) (i+m)) (HR (l++[⟨3,(s.drop i).take m,i,0⟩]))→Q .normal t H)
  (hE:m=0→∀t H,Fin zP F10 0 1 (C3 (.error (i,3))) [] .ret t H→Q .ret t H) :
  Go oR zP AN (LpT zP B) Eb [] (tR s l i) (HR l) Q:=by
 have pv:i+m≤s.length:=by have:=Mw (s.drop i);rw [List.length_drop] at this;omega
 have hi':(i:Int)<s.length:=by omega
 have e1:((i:Int)+(m:Int)).toNat=i+m:=by omega
 have e2:(i:Int)+(m:Int)≤s.length:=by omega
 have e3:(0:Int)≤(i:Int)+(m:Int):=by omega
 have e4:(i:Int)≤(i:Int)+(m:Int):=by omega
 have e5:IntKind.i64.wrap (m:Int)=(m:Int):=Ab (by omega) (by omega);have e7:(i:Int)+(m:Int)-(i:Int)=(m:Int):=by omega
 have e8:IntKind.i64.wrap ((i:Int)+(m:Int))=(i:Int)+(m:Int):=Ab (by omega) (by omega);have qk:=fun H=>oR_s s i H hi (by rw [EE];omega)
 rw [←hF] at qk;rcases Gy l with ⟨hl,hH⟩|⟨hl,hH⟩
 ·rw [hH]
  have py:=fun H=>KS l ⟨3,(s.drop i).take m,i,0⟩ 1 H (by omega) (fun _=>rfl) (fun h=>absurd hl h)
  simp at py
  by_cases h0:m=0
  ·have g0:(m:Int)=0:=by omega
   simp [Eb,F2,Ev,c10,Tryz.f20,tR,hi,hi',qF,qA,EG,Dq,qj,sD,e1,e2,e3,e4,e5,e7,e8,FW,DX,qk,g0,h0,CB];refine hE h0 _ _ ?_;rw [D9];simp [F10,Tryz.f20,C3,FU,DM,CB]
  ·have g0:¬(m:Int)=0:=by omega
   simp [Eb,F2,Ev,c10,Tryz.f20,tR,hi,hi',qF,qA,EG,Dq,qj,sD,e1,e2,e3,e4,e5,e7,e8,FW,DX,qk,g0,h0,buR,bsR,py];refine hN h0 _ _ (GS hB ?_ ?_ ?_ ?_ ?_)
   ·simp
   ·simp
   ·simp
   ·simp
   ·simp [HR,hl]
 ·rw [hH]
  have py:=fun fid=>KS l ⟨3,(s.drop i).take m,i,0⟩ fid [some CB,some (.tok l.length),none] (by omega) (fun h=>absurd h hl) (fun _=>by simp)
  simp at py
  by_cases h0:m=0
  ·have g0:(m:Int)=0:=by omega
   simp [Eb,F2,Ev,c10,Tryz.f20,tR,hi,hi',qF,qA,EG,Dq,qj,sD,e1,e2,e3,e4,e5,e7,e8,FW,DX,qk,g0,h0,CB];refine hE h0 _ _ ?_;rw [D9];simp [F10,Tryz.f20,C3,FU,DM,CB]
  ·have g0:¬(m:Int)=0:=by omega
   simp [Eb,F2,Ev,c10,Tryz.f20,tR,hi,hi',qF,qA,EG,Dq,qj,sD,e1,e2,e3,e4,e5,e7,e8,FW,DX,qk,g0,h0,buR,bsR,py];refine hN h0 _ _ (GS hB ?_ ?_ ?_ ?_ ?_)
   ·simp
   ·simp
   ·simp
   ·simp
   ·simp [HR,hl]
theorem iq (B:Bs) (hB:B.H=[]) (hG:An AN B.g) (s:List UInt8) (l:List Wd) (i:Nat) (hi:i<s.length) (hs:s.length<137438953470)
  (hb:s[i].toNat=32∨s[i].toNat=9) (Q:AEx→List AV→AH→Prop) (hN:∀t H,AF B t H (tR s l (i+1)) (HR l)→Q .normal t H) :
  Go oR zP AN (LpT zP B) Eb [] (tR s l i) (HR l) Q:=by
 have hi':(i:Int)<s.length:=by omega
 have w:IntKind.i64.wrap ((i:Int)+1)=(i:Int)+1:=Ab (by omega) (by omega);rcases Gy l with ⟨hl,hH⟩|⟨hl,hH⟩
 all_goals
  rw [hH];rcases hb with hb|hb
  all_goals
   simp [Eb,F2,Ev,c10,Tryz.f20,tR,hi,hi',hb,w];refine hN _ _ (GS hB ?_ ?_ ?_ ?_ ?_)
   ·simp
   ·simp
   ·simp
   ·simp
   ·simp [HR,hl]
@[simp] theorem oY:Ag.imm 293=false:=by decide
@[simp] theorem oZ:Ag.imm 42=true:=by decide
@[simp high] theorem oa (l:List Wd):alen zP 54 (AD l)=some (.int .i64 l.length):=by
 unfold AD
 split
 ·rename_i h;subst h;simp [alen]
 ·simp [alen]
@[simp high] theorem Ua {l:List Wd} {i:Nat} (h:i<l.length):Av zP 54 (AD l) (.int .i64 (i:Int))=some (.vptr (A6 l) (i*4)):=by
 have pp:l≠[]:=by rintro rfl;simp at h
 have:(i:Int)<l.length:=by omega
 simp [AD,pp,Av,h]
def BO (x:Option (Nat × Nat)):Prop:=∀p,x≠some (p,0)
theorem Ct:BO none:=fun _ h=>by cases h
def pAV:Option (Nat × Nat)→AV
 | none => .nilSlice
 | some (p,_) => .slice .full 2 1 [.str Dy,.int .i64 (p:Int)]
def cI:Option (Nat × Nat)→Int
 | none=>0
 | some (_,c)=>(c:Int)
theorem HY {x:Option (Nat × Nat)} (h:BO x):(cI x=0)↔x=none:=by
 cases x with
 | none=>simp [cI]
 | some y =>
  obtain ⟨p,c⟩:=y;have:c≠0:=fun hc=>h p (by rw [hc])
  simp [cI];omega
@[simp ↓ high] theorem ob (m:Nat) (x:Option (Nat × Nat)):low m (pAV x)=true:=by
 cases x with
 | none=>rfl
 | some x=>rfl
@[simp ↓ high] theorem oc (x:Option (Nat × Nat)):Bg (pAV x)=[]:=by cases x<;>rfl
@[simp ↓ high] theorem od (x:Option (Nat × Nat)):(pAV x).known=true:=by cases x<;>rfl
@[simp ↓ high] theorem oe (x:Option (Nat × Nat)):(pAV x).one=true:=by cases x<;>rfl
@[simp ↓ high] theorem oh (x:Option (Nat × Nat)):At (pAV x)=[pAV x]:=by cases x<;>rfl
theorem Ub {x y:Option (Nat × Nat)} (h1:pAV x=pAV y) (h2:cI x=cI y):x=y:=by
 cases x with
 | none=>cases y with
  | none=>rfl
  | some y=>simp [pAV] at h1
 | some x=>cases y with
  | none=>simp [pAV] at h1
  | some y =>
   obtain ⟨p,c⟩:=x;obtain ⟨q,d⟩:=y;simp [pAV] at h1;simp [cI] at h2;have e1:p=q:=by omega
   have e2:c=d:=by omega
   rw [e1,e2]
def rrC (ts:List Wd) (a:Int) (x:Option (Nat × Nat)):List AV:=[AD ts,.int .i64 a,pAV x,.int .i64 (cI x)]
@[simp] theorem ir (ts:List Wd) (a:Int) (x:Option (Nat × Nat)):rrC ts a x=[AD ts,.int .i64 a,pAV x,.int .i64 (cI x)]:=AR rfl
theorem FX (ts:List Wd) (a:Int) (x:Option (Nat × Nat)):lowL 0 (rrC ts a x)=true:=by simp
theorem Uc {ts:List Wd} {a b:Nat} {x y:Option (Nat × Nat)} (h:rrC ts (a:Int) x=rrC ts (b:Int) y):a=b∧x=y:=by simp only [ir,List.cons.injEq,AV.int.injEq,true_and,and_true] at h;exact ⟨by omega,Ub h.2.1 h.2.2⟩
theorem iu:Cx JT zP Ag:=⟨AS.toX (AS.toN NF),Dx,Af⟩
theorem LQ (w:List UInt8) (p e:Int) (H:AH):JT 24 [.str w,.int .i64 p,.int .i64 e] H=some (.agg [.slice .full 2 1 [.str w,.int .i64 p],.int .i64 e],H):=by simp [JT,Bw]
theorem iw (ts:List Wd) (a:Nat) (x:Option (Nat × Nat)) (hx:BO x) (p e:Nat) {H:AH} {id:Nat} (hH:H.at id=some (.box (rrC ts a x))) :
  CS zP Ag 195 [.ptr id 0,.int .i64 (p:Int),.int .i64 (e:Int)] H (.tup []) (H.set id (some (.box (rrC ts a (some (x.getD (p,e))))))):=by
 refine CS.rd DO Tryz.func195 (by kernel_rfl) 0 (by simp [Tryz.f195]) (fun B hB hG => ?_) (by simp) rfl (FX _ _ _) (FX _ _ _) hH;refine Tr.goD iu hG (by kernel_rfl) ?_;cases x with
 | none=>simp [Tryz.f195,cI,pAV,LQ,Dy]
 | some y =>
  have h0:¬cI (some y)=0:=fun h=>by have:=(HY hx).1 h;cases this
  simp [Tryz.f195,h0]
theorem ix (ts:List Wd) (a:Nat) (x:Option (Nat × Nat)) (hx:BO x) (s:List UInt8) {H:AH} {id:Nat} (hH:H.at id=some (.box (rrC ts a x))) :
  CS zP Ag 196 [.ptr id 0,.str s] H (.bool (Ac ts ⟨a,0,x⟩ s)) (H.set id (some (.box (rrC ts a x)))):=by
 refine CS.rd DO Tryz.func196 (by kernel_rfl) 0 (by simp [Tryz.f196]) (fun B hB hG => ?_) (by simp) rfl (FX _ _ _) (FX _ _ _) hH;refine Tr.goD KM hG (by kernel_rfl) ?_;simp [Tryz.f196];refine LpD.turns KM hG [] [] (by kernel_rfl) ?_;cases x with
 | some y =>
  have h0:(cI (some y)==0)=false:=by rw [beq_eq_false_iff_ne];intro h;have:=(HY hx).1 h;cases this
  simp [Ac,h0]
 | none =>
  by_cases hl:a<ts.length
  ·have hl':(a:Int)<ts.length:=by omega
   obtain ⟨w,hw⟩:∃w,ts[a]? = some w:=⟨_,List.getElem?_eq_getElem hl⟩
   obtain ⟨c0,c1,c3⟩:=Ea hw;have hn:isS ts a s=(w.kind==3&&w.text==s):=by simp only [isS,hw]
   by_cases hk:w.kind=3
   ·simp [Ac,hn,cI,hl,hl',hk,c0,c1]
   ·have hk':((w.kind:Int)==3)=false:=by rw [beq_eq_false_iff_ne];omega
    simp [Ac,hn,cI,hl,hl',hk,hk',c0,c1]
  ·have hl':¬((a:Int)<ts.length):=by omega
   have hw:ts[a]? = none:=List.getElem?_eq_none (by omega);have hn:isS ts a s=false:=by simp only [isS,hw]
   simp [Ac,hn,cI,hl',hw]
open Classical in
noncomputable def oRr (ts:List Wd) (f0:FuncId) (spec:List AV→St→Option (AV × St)):Orc:=fun f args H =>
 if f=f0 then (match args with
  | .ptr id 0::rest=>if h:∃r:St,r.deep=0∧BO r.err∧H.at id=some (.box (rrC ts r.at_ r.err)) then (spec rest h.choose).map fun x=>(x.1,H.set id (some (.box (rrC ts x.2.at_ x.2.err)))) else none
  | _=>none) else none
theorem Hz {ts:List Wd} {f0:FuncId} {spec:List AV→St→Option (AV × St)} {id:Nat} {rest:List AV} {H:AH} {a:Nat} {x:Option (Nat × Nat)} (hx:BO x) (h:H.at id=some (.box (rrC ts a x))) :
  oRr ts f0 spec f0 (.ptr id 0::rest) H=(spec rest ⟨a,0,x⟩).map fun x=>(x.1,H.set id (some (.box (rrC ts x.2.at_ x.2.err)))):=by
 have hq:∃r:St,r.deep=0∧BO r.err∧H.at id=some (.box (rrC ts r.at_ r.err)):=⟨⟨a,0,x⟩,rfl,hx,h⟩
 obtain ⟨h1,h2,h3⟩:=hq.choose_spec;have hc:=h.symm.trans h3;simp only [Option.some.injEq,Ent.box.injEq] at hc;obtain ⟨e1,e2⟩:=Uc hc
 have:hq.choose=⟨a,0,x⟩:=by
  cases hs:hq.choose with
  | mk a' d' x' =>rw [hs] at e1 e2 h1;simp only at e1 e2 h1;rw [e1,e2,h1]
 simp only [oRr,if_true,dif_pos hq,this]
theorem LR {ts:List Wd} {f0:FuncId} {spec:List AV→St→Option (AV × St)}
  (h:∀rest r v r',spec rest r=some (v,r')→r.deep=0→BO r.err→∀H id,H.at id=some (.box (rrC ts r.at_ r.err))→CS zP Ag f0 (.ptr id 0::rest) H v (H.set id (some (.box (rrC ts r'.at_ r'.err))))):AS zP Ag (oRr ts f0 spec):=by
 intro f args H v H' ho;unfold oRr at ho
 split at ho
 ·rename_i hf
  subst hf
  split at ho
  ·rename_i id rest
   split at ho
   ·rename_i hx
    obtain ⟨x,hs,sj⟩:=Option.map_eq_some_iff.1 ho;simp only [Prod.mk.injEq] at sj;obtain ⟨rfl,rfl⟩:=sj;obtain ⟨q1,q2,q3⟩:=hx.choose_spec;refine ⟨h _ _ _ _ hs q1 q2 _ _ q3,by simp,fun j _ hj=>M2 q3 hj⟩
   ·cases ho
  ·cases ho
 ·cases ho
theorem KT {ts:List Wd} {a:Int} {x:Option (Nat × Nat)} {H:AH} (ha:0≤a):AH.at (some (.box [AD ts,.int .i64 a,pAV x,.int .i64 (cI x)])::H) 0=some (.box (rrC ts (a.toNat:Nat) x)):=by simp [AH.at,Int.toNat_of_nonneg ha]
theorem Pw (ts:List Wd):AS zP Ag (oRr ts 196 (Eu ts)):=LR fun rest r v r' h h0 hx H id hH=>by
 unfold Eu at h
 split at h
 ·injection h with h
  simp only [Prod.mk.injEq] at h;obtain ⟨rfl,rfl⟩:=h;exact ix ts r.at_ r.err hx _ hH
 ·cases h
def H5 (rest:List AV) (r:St):Option (AV × St):=match rest with
 | [.int .i64 p,.int .i64 e]=>if 0≤p∧0≤e then some (.tup [],⟨r.at_,0,some (r.err.getD (p.toNat,e.toNat))⟩) else none
 | _=>none
theorem Px (ts:List Wd):AS zP Ag (oRr ts 195 H5):=LR fun rest r v r' h h0 hx H id hH=>by
 unfold H5 at h
 split at h
 ·rename_i p e
  split at h
  ·rename_i wA
   injection h with h;simp only [Prod.mk.injEq] at h;obtain ⟨rfl,rfl⟩:=h;have:=iw ts r.at_ r.err hx p.toNat e.toNat hH
   rwa [Int.toNat_of_nonneg wA.1,Int.toNat_of_nonneg wA.2] at this
  ·cases h
 ·cases h
theorem Py {ts:List Wd} {a:Int} {x:Option (Nat × Nat)} (s:List UInt8) (H:AH) (ha:0≤a) (hx:BO x):oRr ts 196 (Eu ts) 196 [.ptr 0 0,.str s] (some (.box [AD ts,.int .i64 a,pAV x,.int .i64 (cI x)])::H) =
  some (.bool (Ac ts ⟨a.toNat,0,x⟩ s),some (.box [AD ts,.int .i64 a,pAV x,.int .i64 (cI x)])::H):=by
 rw [Hz hx (KT ha)];simp [Eu,Int.toNat_of_nonneg ha]
theorem Ud {ts:List Wd} {a:Int} {x:Option (Nat × Nat)} (p e:Int) (H:AH) (ha:0≤a) (hx:BO x) (hp:0≤p) (he:0≤e):oRr ts 195 H5 195 [.ptr 0 0,.int .i64 p,.int .i64 e] (some (.box [AD ts,.int .i64 a,pAV x,.int .i64 (cI x)])::H) =
  some (.tup [],some (.box [AD ts,.int .i64 a,pAV (some (x.getD (p.toNat,e.toNat))),.int .i64 (cI (some (x.getD (p.toNat,e.toNat))))])::H):=by
 rw [Hz hx (KT ha)];simp [H5,hp,he,Int.toNat_of_nonneg ha]
theorem iy (ts:List Wd):Cx (oRr ts 196 (Eu ts)) zP Ag:=⟨Pw ts,Dx,Af⟩
theorem iz (ts:List Wd) (po:ts.length<1000000) (a:Nat) (x:Option (Nat × Nat)) (hx:BO x) (s:List UInt8) {H:AH} {id:Nat} (hH:H.at id=some (.box (rrC ts a x))) :
  CS zP Ag 197 [.ptr id 0,.str s] H (.bool (Ac ts ⟨a,0,x⟩ s)) (H.set id (some (.box (rrC ts (GQ ts ⟨a,0,x⟩ s).at_ (GQ ts ⟨a,0,x⟩ s).err)))):=by
 refine CS.rd DO Tryz.func197 (by kernel_rfl) 0 (by simp [Tryz.f197]) (fun B hB hG => ?_) (by simp) rfl (FX _ _ _) (FX _ _ _) hH;refine Tr.goD (iy ts) hG (by kernel_rfl) ?_;have qk:=fun H=>Py (ts:=ts) (a:=a) (x:=x) s H (by omega) hx
 simp at qk;cases hn:Ac ts ⟨a,0,x⟩ s with
 | true =>have hl:a<ts.length:=FE hn;have w1:IntKind.i64.wrap ((a:Int)+1)=(a:Int)+1:=Ab (by omega) (by omega);simp [Tryz.f197,GQ,hn,qk,w1,St.step]
 | false=>simp [Tryz.f197,GQ,hn,qk]
theorem Pz (ts:List Wd) (po:ts.length<1000000):AS zP Ag (oRr ts 197 (Dz ts)):=LR fun rest r v r' h h0 hx H id hH=>by
 unfold Dz at h
 split at h
 ·injection h with h
  simp only [Prod.mk.injEq] at h;obtain ⟨rfl,rfl⟩:=h;obtain ⟨a,d,x⟩:=r;simp only at h0;subst h0;exact iz ts po a x hx _ hH
 ·cases h
theorem P0 {ts:List Wd} {a:Int} {x:Option (Nat × Nat)} (s:List UInt8) (H:AH) (ha:0≤a) (hx:BO x) (hn:Ac ts ⟨a.toNat,0,x⟩ s=true) :
  oRr ts 197 (Dz ts) 197 [.ptr 0 0,.str s] (some (.box [AD ts,.int .i64 a,pAV x,.int .i64 (cI x)])::H)=some (.bool true,some (.box [AD ts,.int .i64 (a+1),pAV x,.int .i64 (cI x)])::H):=by
 rw [Hz hx (KT ha)];simp [Dz,GQ,hn,St.step,Int.toNat_of_nonneg ha]
theorem P1 {ts:List Wd} {a:Int} {x:Option (Nat × Nat)} (s:List UInt8) (H:AH) (ha:0≤a) (hx:BO x) (hn:Ac ts ⟨a.toNat,0,x⟩ s=false) :
  oRr ts 197 (Dz ts) 197 [.ptr 0 0,.str s] (some (.box [AD ts,.int .i64 a,pAV x,.int .i64 (cI x)])::H)=some (.bool false,some (.box [AD ts,.int .i64 a,pAV x,.int .i64 (cI x)])::H):=by
 rw [Hz hx (KT ha)];simp [Dz,GQ,hn,Int.toNat_of_nonneg ha]
theorem P2 {ts:List Wd} {of:Rd} (h:upw of) {f s:List UInt8} {one two:Nat}:∀(n:Nat) (e:Ex),upw (Cn ts of f one s two n e)
 | 0,e,r=>Nat.le_refl _
 | n+1,e,r=>by
  have h1:=h r.step;simp only [Cn]
  split
  ·have:=P2 h (ts:=ts) (f:=f) (s:=s) (one:=one) (two:=two) n (.bin one e (of r.step).1) (of r.step).2
   simp only [St.step] at h1 this ⊢;omega
  ·split
   ·have:=P2 h (ts:=ts) (f:=f) (s:=s) (one:=one) (two:=two) n (.bin two e (of r.step).1) (of r.step).2
    simp only [St.step] at h1 this ⊢;omega
   ·exact Nat.le_refl _
theorem LS {ts:List Wd} {of:Rd} (h:upw of) {f s:List UInt8} {one two:Nat}:upw (FD ts of f one s two):=fun r=>Nat.le_trans (h r) (P2 h _ _ _)
def okE (of:Rd):Prop:=∀r,BO r.err→BO (of r).2.err
theorem P3 {ts:List Wd} {of:Rd} (h:okE of) {f s:List UInt8} {one two:Nat}:∀(n:Nat) (e:Ex),okE (Cn ts of f one s two n e)
 | 0,e,r,hr=>hr
 | n+1,e,r,hr=>by
  have h1:=h r.step hr;simp only [Cn]
  split
  ·exact P3 h n _ _ h1
  ·split
   ·exact P3 h n _ _ h1
   ·exact hr
theorem Gz {ts:List Wd} {of:Rd} (h:okE of) {f s:List UInt8} {one two:Nat}:okE (FD ts of f one s two):=fun r hr=>P3 h _ _ _ (h r hr)
def JU (O:Orc) (ts:List Wd) (g:FuncId) (of:Rd) (n:Nat):Prop:=∀(a d:Int) (x:Option (Nat × Nat)) (H:AH),0≤a→0≤d→d≤20→BO x→ts.length-a.toNat<n →
 O g [.ptr 0 0,.int .i64 d] (some (.box [AD ts,.int .i64 a,pAV x,.int .i64 (cI x)])::H)=some (CN (of ⟨a.toNat,d.toNat,x⟩).1,some (.box (rrC ts (of ⟨a.toNat,d.toNat,x⟩).2.at_ (of ⟨a.toNat,d.toNat,x⟩).2.err))::H)
structure yLT (O:Orc) (ts:List Wd):Prop where
 tookT:∀(a:Int) (x:Option (Nat × Nat)) (s:List UInt8) (H:AH),0≤a→BO x→Ac ts ⟨a.toNat,0,x⟩ s=true →
  O 197 [.ptr 0 0,.str s] (some (.box [AD ts,.int .i64 a,pAV x,.int .i64 (cI x)])::H)=some (.bool true,some (.box [AD ts,.int .i64 (a+1),pAV x,.int .i64 (cI x)])::H)
 tookF:∀(a:Int) (x:Option (Nat × Nat)) (s:List UInt8) (H:AH),0≤a→BO x→Ac ts ⟨a.toNat,0,x⟩ s=false →
  O 197 [.ptr 0 0,.str s] (some (.box [AD ts,.int .i64 a,pAV x,.int .i64 (cI x)])::H)=some (.bool false,some (.box [AD ts,.int .i64 a,pAV x,.int .i64 (cI x)])::H)
@[simp] theorem buY0:A3 zP 42 []=some (.agg [.int .i64 0,.int .i64 0,.str [],.nilSlice]):=by kernel_rfl
@[simp] theorem buY1 (k n:Int):A3 zP 42 [(0,.int .i64 k),(1,.int .i64 n)]=some (.agg [.int .i64 k,.int .i64 n,.str [],.nilSlice]):=by kernel_rfl
@[simp] theorem buY2 (k:Int) (s:List UInt8):A3 zP 42 [(0,.int .i64 k),(2,.str s)]=some (.agg [.int .i64 k,.int .i64 0,.str s,.nilSlice]):=by kernel_rfl
@[simp] theorem buY3 (k:Int) (ow:Own) (sz n:Nat) (cs:List AV):A3 zP 42 [(0,.int .i64 k),(3,.slice ow sz n cs)]=some (.agg [.int .i64 k,.int .i64 0,.str [],.slice ow sz n cs]):=by kernel_rfl
@[simp] theorem buY4 (k:Int) (s:List UInt8) (ow:Own) (sz n:Nat) (cs:List AV):A3 zP 42 [(0,.int .i64 k),(2,.str s),(3,.slice ow sz n cs)]=some (.agg [.int .i64 k,.int .i64 0,.str s,.slice ow sz n cs]):=by kernel_rfl
@[simp] theorem bsY1 (a b c d:AV):Ch zP 40 1 [(0,.agg [a,b,c,d])]=some (.slice .full 4 1 [a,b,c,d]):=by kernel_rfl
@[simp] theorem bsY2 (a b c d e f g h:AV):Ch zP 40 2 [(0,.agg [a,b,c,d]),(1,.agg [e,f,g,h])]=some (.slice .full 4 2 [a,b,c,d,e,f,g,h]):=by kernel_rfl
def i6 (ts:List Wd) (of:Rd) (dd n:Nat) (res:Ex × St) (k:Nat) (t:List AV) (H:AH):Prop :=
 ∃(e:Ex) (r:St),Cn ts of Du 7 Dv 8 k e r=res∧ts.length-r.at_<k∧ts.length-r.at_<n∧r.deep=dd∧BO r.err ∧
  t=mkT 24 [(0,.ptr 0 0),(1,.int .i64 (dd:Int)),(4,.ptr 1 0),(5,.ptr 2 0)]∧H=[some (.box (rrC ts r.at_ r.err)),some (.box (exC .none)),some (.box (exC e))]
theorem i7 (ts:List Wd) (po:ts.length<1000000) {O:Orc} (X:Cx O zP Ag) (hT:yLT O ts) {of:Rd} {n:Nat} (hA:JU O ts 225 of n) (hu:upw of) (hd:∀r,(of r).2.deep=r.deep) (qR:okE of)
  (a dd:Nat) (x:Option (Nat × Nat)) (hx:BO x) (hr:dd≤20) (hn:ts.length-a<n) {H:AH} {id:Nat} (hH:H.at id=some (.box (rrC ts a x))) :
  CS zP Ag 215 [.ptr id 0,.int .i64 (dd:Int)] H (CN (FD ts of Du 7 Dv 8 ⟨a,dd,x⟩).1) (H.set id (some (.box (rrC ts (FD ts of Du 7 Dv 8 ⟨a,dd,x⟩).2.at_ (FD ts of Du 7 Dv 8 ⟨a,dd,x⟩).2.err)))):=by
 refine CS.rd DO Tryz.func215 (by kernel_rfl) 0 (by simp [Tryz.f215]) (fun B hB hG => ?_) (by simp) (by simp) (FX _ _ _) (FX _ _ _) hH;have rL:(dd:Int)≤20:=by omega
 have h1:=fun H=>hA a dd x H (by omega) (by omega) rL hx (by simpa using hn)
 simp only [Int.toNat_natCast] at h1;have uf:=hu ⟨a,dd,x⟩;have qJ:=hd ⟨a,dd,x⟩;have rH:=qR ⟨a,dd,x⟩ hx;simp only [FD];generalize x4:of ⟨a,dd,x⟩=p at *;obtain ⟨e,q⟩:=p;simp only at h1 uf qJ rH;refine Tr.goD X hG (by kernel_rfl) ?_;simp at h1;simp [Tryz.f215,h1]
 refine LpD.loopN X hG (by kernel_rfl) (i6 ts of dd n (Cn ts of Du 7 Dv 8 (ts.length+1) e q)) (ts.length+1)
  (t':=mkT 24 [(0,.ptr 0 0),(1,.int .i64 (dd:Int)),(4,.ptr 1 0),(5,.ptr 2 0)])
  (H':=[some (.box (rrC ts q.at_ q.err)),some (.box (exC .none)),some (.box (exC e))]) (AF.mkK 3 (by simp [hB]) (by simp) (by simp) (by simp)) ⟨e,q,rfl,by omega,by omega,qJ,rH,rfl,rfl⟩ ?_
 rintro k t H ⟨e',r',pq,hk,uJ,qu,qe,rfl,rfl⟩;cases k with
 | zero=>omega
 | succ k =>
  obtain ⟨b,d,y⟩:=r';simp only at hk uJ qu qe;subst qu;have qO:∀s,Ac ts ⟨b,d,y⟩ s=Ac ts ⟨b,0,y⟩ s:=fun s=>rfl
  cases hf:Ac ts ⟨b,0,y⟩ Du with
  | true =>
   have hl:b<ts.length:=FE hf;have w1:IntKind.i64.wrap ((b:Int)+1)=(b:Int)+1:=Ab (by omega) (by omega);have h2:=fun H=>hA (b+1:Nat) d y H (by omega) (by omega) rL qe (by simp only [Int.toNat_natCast];omega)
   have t1:=fun H=>hT.tookT b y Du H (by omega) qe (by simpa using hf)
   simp [Du] at t1;simp at h2;simp [t1];refine LpD.turns X hG [4,7] [(0,4),(1,4)] (by kernel_rfl) ?_;simp [h2]
   refine Nxt.mk k (by omega) (AF.mkK 3 (l':=[(0,.ptr 0 0),(1,.int .i64 (d:Int)),(4,.ptr 1 0),(5,.ptr 2 0)])
    (H':=[some (.box (rrC ts (of ⟨b+1,d,y⟩).2.at_ (of ⟨b+1,d,y⟩).2.err)),some (.box (exC .none)),some (.box (exC (.bin 7 e' (of ⟨b+1,d,y⟩).1)))]) (by simp [hB]) (by simp) (by simp) (by simp))
    ⟨.bin 7 e' (of ⟨b+1,d,y⟩).1,(of ⟨b+1,d,y⟩).2,?_,?_,?_,?_,qR ⟨b+1,d,y⟩ qe,rfl,rfl⟩
   ·rw [←pq];simp [Cn,qO,hf,St.step]
   ·have:=hu ⟨b+1,d,y⟩;simp only at this;omega
   ·have:=hu ⟨b+1,d,y⟩;simp only at this;omega
   ·exact hd ⟨b+1,d,y⟩
  | false =>
   have t1:=fun H=>hT.tookF b y Du H (by omega) qe (by simpa using hf)
   simp [Du] at t1;cases hs:Ac ts ⟨b,0,y⟩ Dv with
   | true =>
    have hl:b<ts.length:=FE hs;have w1:IntKind.i64.wrap ((b:Int)+1)=(b:Int)+1:=Ab (by omega) (by omega);have h2:=fun H=>hA (b+1:Nat) d y H (by omega) (by omega) rL qe (by simp only [Int.toNat_natCast];omega)
    have t2:=fun H=>hT.tookT b y Dv H (by omega) qe (by simpa using hs)
    simp [Dv] at t2;simp at h2;simp [t1,t2];refine LpD.turns X hG [4,7] [(0,4),(1,4)] (by kernel_rfl) ?_;simp [h2]
    refine Nxt.mk k (by omega) (AF.mkK 3 (l':=[(0,.ptr 0 0),(1,.int .i64 (d:Int)),(4,.ptr 1 0),(5,.ptr 2 0)])
     (H':=[some (.box (rrC ts (of ⟨b+1,d,y⟩).2.at_ (of ⟨b+1,d,y⟩).2.err)),some (.box (exC .none)),some (.box (exC (.bin 8 e' (of ⟨b+1,d,y⟩).1)))]) (by simp [hB]) (by simp) (by simp) (by simp))
     ⟨.bin 8 e' (of ⟨b+1,d,y⟩).1,(of ⟨b+1,d,y⟩).2,?_,?_,?_,?_,qR ⟨b+1,d,y⟩ qe,rfl,rfl⟩
    ·rw [←pq];simp [Cn,qO,hf,hs,St.step]
    ·have:=hu ⟨b+1,d,y⟩;simp only at this;omega
    ·have:=hu ⟨b+1,d,y⟩;simp only at this;omega
    ·exact hd ⟨b+1,d,y⟩
   | false =>
    have t2:=fun H=>hT.tookF b y Dv H (by omega) qe (by simpa using hs)
    simp [Dv] at t2;have qN:Cn ts of Du 7 Dv 8 (k+1) e' ⟨b,d,y⟩=(e',⟨b,d,y⟩):=by simp [Cn,qO,hs,hf]
    rw [←pq,qN];simp [t1,t2]
def i8 (ts:List Wd) (of:Rd) (dd n:Nat) (res:Ex × St) (k:Nat) (t:List AV) (H:AH):Prop :=
 ∃(e:Ex) (r:St),Cn ts of EX 5 Bb 6 k e r=res∧ts.length-r.at_<k∧ts.length-r.at_<n∧r.deep=dd∧BO r.err ∧
  t=mkT 24 [(0,.ptr 0 0),(1,.int .i64 (dd:Int)),(4,.ptr 1 0),(5,.ptr 2 0)]∧H=[some (.box (rrC ts r.at_ r.err)),some (.box (exC .none)),some (.box (exC e))]
theorem i9 (ts:List Wd) (po:ts.length<1000000) {O:Orc} (X:Cx O zP Ag) (hT:yLT O ts) {of:Rd} {n:Nat} (hA:JU O ts 215 of n) (hu:upw of) (hd:∀r,(of r).2.deep=r.deep) (qR:okE of)
  (a dd:Nat) (x:Option (Nat × Nat)) (hx:BO x) (hr:dd≤20) (hn:ts.length-a<n) {H:AH} {id:Nat} (hH:H.at id=some (.box (rrC ts a x))) :
  CS zP Ag 193 [.ptr id 0,.int .i64 (dd:Int)] H (CN (FD ts of EX 5 Bb 6 ⟨a,dd,x⟩).1) (H.set id (some (.box (rrC ts (FD ts of EX 5 Bb 6 ⟨a,dd,x⟩).2.at_ (FD ts of EX 5 Bb 6 ⟨a,dd,x⟩).2.err)))):=by
 refine CS.rd DO Tryz.func193 (by kernel_rfl) 0 (by simp [Tryz.f193]) (fun B hB hG => ?_) (by simp) (by simp) (FX _ _ _) (FX _ _ _) hH;have rL:(dd:Int)≤20:=by omega
 have h1:=fun H=>hA a dd x H (by omega) (by omega) rL hx (by simpa using hn)
 simp only [Int.toNat_natCast] at h1;have uf:=hu ⟨a,dd,x⟩;have qJ:=hd ⟨a,dd,x⟩;have rH:=qR ⟨a,dd,x⟩ hx;simp only [FD];generalize x4:of ⟨a,dd,x⟩=p at *;obtain ⟨e,q⟩:=p;simp only at h1 uf qJ rH;refine Tr.goD X hG (by kernel_rfl) ?_;simp at h1;simp [Tryz.f193,h1]
 refine LpD.loopN X hG (by kernel_rfl) (i8 ts of dd n (Cn ts of EX 5 Bb 6 (ts.length+1) e q)) (ts.length+1)
  (t':=mkT 24 [(0,.ptr 0 0),(1,.int .i64 (dd:Int)),(4,.ptr 1 0),(5,.ptr 2 0)])
  (H':=[some (.box (rrC ts q.at_ q.err)),some (.box (exC .none)),some (.box (exC e))]) (AF.mkK 3 (by simp [hB]) (by simp) (by simp) (by simp)) ⟨e,q,rfl,by omega,by omega,qJ,rH,rfl,rfl⟩ ?_
 rintro k t H ⟨e',r',pq,hk,uJ,qu,qe,rfl,rfl⟩;cases k with
 | zero=>omega
 | succ k =>
  obtain ⟨b,d,y⟩:=r';simp only at hk uJ qu qe;subst qu;have qO:∀s,Ac ts ⟨b,d,y⟩ s=Ac ts ⟨b,0,y⟩ s:=fun s=>rfl
  cases hf:Ac ts ⟨b,0,y⟩ EX with
  | true =>
   have hl:b<ts.length:=FE hf;have w1:IntKind.i64.wrap ((b:Int)+1)=(b:Int)+1:=Ab (by omega) (by omega);have h2:=fun H=>hA (b+1:Nat) d y H (by omega) (by omega) rL qe (by simp only [Int.toNat_natCast];omega)
   have t1:=fun H=>hT.tookT b y EX H (by omega) qe (by simpa using hf)
   simp [EX] at t1;simp at h2;simp [t1];refine LpD.turns X hG [4,7] [(0,4),(1,4)] (by kernel_rfl) ?_;simp [h2]
   refine Nxt.mk k (by omega) (AF.mkK 3 (l':=[(0,.ptr 0 0),(1,.int .i64 (d:Int)),(4,.ptr 1 0),(5,.ptr 2 0)])
    (H':=[some (.box (rrC ts (of ⟨b+1,d,y⟩).2.at_ (of ⟨b+1,d,y⟩).2.err)),some (.box (exC .none)),some (.box (exC (.bin 5 e' (of ⟨b+1,d,y⟩).1)))]) (by simp [hB]) (by simp) (by simp) (by simp))
    ⟨.bin 5 e' (of ⟨b+1,d,y⟩).1,(of ⟨b+1,d,y⟩).2,?_,?_,?_,?_,qR ⟨b+1,d,y⟩ qe,rfl,rfl⟩
   ·rw [←pq];simp [Cn,qO,hf,St.step]
   ·have:=hu ⟨b+1,d,y⟩;simp only at this;omega
   ·have:=hu ⟨b+1,d,y⟩;simp only at this;omega
   ·exact hd ⟨b+1,d,y⟩
  | false =>
   have t1:=fun H=>hT.tookF b y EX H (by omega) qe (by simpa using hf)
   simp [EX] at t1;cases hs:Ac ts ⟨b,0,y⟩ Bb with
   | true =>
    have hl:b<ts.length:=FE hs;have w1:IntKind.i64.wrap ((b:Int)+1)=(b:Int)+1:=Ab (by omega) (by omega);have h2:=fun H=>hA (b+1:Nat) d y H (by omega) (by omega) rL qe (by simp only [Int.toNat_natCast];omega)
    have t2:=fun H=>hT.tookT b y Bb H (by omega) qe (by simpa using hs)
    simp [Bb] at t2;simp at h2;simp [t1,t2];refine LpD.turns X hG [4,7] [(0,4),(1,4)] (by kernel_rfl) ?_;simp [h2]
    refine Nxt.mk k (by omega) (AF.mkK 3 (l':=[(0,.ptr 0 0),(1,.int .i64 (d:Int)),(4,.ptr 1 0),(5,.ptr 2 0)])
     (H':=[some (.box (rrC ts (of ⟨b+1,d,y⟩).2.at_ (of ⟨b+1,d,y⟩).2.err)),some (.box (exC .none)),some (.box (exC (.bin 6 e' (of ⟨b+1,d,y⟩).1)))]) (by simp [hB]) (by simp) (by simp) (by simp))
     ⟨.bin 6 e' (of ⟨b+1,d,y⟩).1,(of ⟨b+1,d,y⟩).2,?_,?_,?_,?_,qR ⟨b+1,d,y⟩ qe,rfl,rfl⟩
    ·rw [←pq];simp [Cn,qO,hf,hs,St.step]
    ·have:=hu ⟨b+1,d,y⟩;simp only at this;omega
    ·have:=hu ⟨b+1,d,y⟩;simp only at this;omega
    ·exact hd ⟨b+1,d,y⟩
   | false =>
    have t2:=fun H=>hT.tookF b y Bb H (by omega) qe (by simpa using hs)
    simp [Bb] at t2;have qN:Cn ts of EX 5 Bb 6 (k+1) e' ⟨b,d,y⟩=(e',⟨b,d,y⟩):=by simp [Cn,qO,hs,hf]
    rw [←pq,qN];simp [t1,t2]
end Go.Proofs.YtejjlojfgcgopaaGreatDoor
