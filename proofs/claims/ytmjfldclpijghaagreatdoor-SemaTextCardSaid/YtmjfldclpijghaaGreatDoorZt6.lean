/- internal/stringslite.Clone tells the same bytes (after the s .. The reference's reader of expressions: fail, sign, took. The -/
import Derived.Test.YtmjfldclpijghaaGreatDoorZt5
import Derived.Lib.BufferWrite
import Derived.Lib.UnsafeStr
import Derived.Lib.Hide
import Derived.Laws.MakeOwn
set_option linter.unusedSimpArgs false
set_option linter.unusedVariables false
namespace Go.Proofs.YtmjfldclpijghaaGreatDoor
open Go.RowKit Go.Proofs.Fw
set_option maxHeartbeats 4000000 in
set_option maxRecDepth 100000 in
theorem dR (s:ByteArray) (w:World) (xm:s.size≤281474976710656) :
  Calls Tryz.prog 149 #[.string s] w fun e w'=>e = .returned (.string s)∧Below w.heap.size w w':=by
 have L37:Tryz.prog.underlying 110=some (.slice 5):=by kernel_rfl
 have L127:Tryz.prog.underlying 284=some (.pointer 5):=by kernel_rfl
 by_cases h0:s.size=0
 ·have hs:s=⟨#[]⟩:=by
   apply ByteArray.ext;exact Array.eq_empty_of_size_eq_zero h0
  subst hs
  go_enter Tryz.func149,Tryz.ntmps149
  go_wp2
  go_ret
  exact ⟨rfl,Below.refl _ _⟩
 ·have i5:(Tryz.prog.info? 5).map (fun i=>(i.zero,i.size,i.bytes))=some (some (Value.int IntKind.u8 0),1,1):=by kernel_rfl
  obtain ⟨i0,hi,ql,pd,pJ⟩:=info_parts i5;have yD:(Tryz.prog.info? 5).map (·.size)=some 1:=by rw [hi];simp [pd]
  have hco:Tryz.prog.cellsOf 5=1:=by simp [Program.cellsOf,hi,pd]
  obtain ⟨M,hM⟩:∃M,M=madeCells (Value.int .u8 0).cells (((s.size:Nat):Int).toNat*i0.size):=⟨_,rfl⟩
  have hMs:M.size=s.size:=by rw [hM,size_madeCells,pd];simp
  have hmk:∀W:World,(Instr.makeSlice 110 (.int .i64 (s.size:Int)) (.int .i64 (s.size:Int))).run Tryz.prog W = .ok (.slice (some ⟨W.heap.size,0,none⟩) s.size s.size) (W.alloc (.cells M 5)):=fun W=>by have h:=run_make (P:=Tryz.prog) W 110 5 i0 (.int .u8 0) L37 hi ql .i64 .i64 (s.size:Int) (s.size:Int) (by omega) (by omega) (by rw [pJ];omega) (by omega);rw [←hM] at h;simpa using h
  clear hM;have hcp:=Lib.run_copy_row_string (P:=Tryz.prog) (w.alloc (.cells M 5)) 110 9 3 5 w.heap.size 0 s.size s.size s M 5 L37 yD (heap_alloc_new w _) (Nat.le_refl _) (by omega);obtain ⟨Y,hY⟩:∃Y,Y=(M.toList.take 0++Lib.byteCells s.data.toList++M.toList.drop (0+s.size)).toArray:=⟨_,rfl⟩
  rw [←hY] at hcp
  have xV:Y.toList=Lib.byteCells s.data.toList:=by rw [hY,List.toList_toArray,List.take_zero,List.nil_append,List.drop_of_length_le (by rw [Array.length_toList];omega),List.append_nil]
  have hYs:Y.size=s.size:=by rw [←Array.length_toList,xV,Lib.byteCells_length,←Lib.size_eq]
  have xW:((w.alloc (.cells M 5)).setRow w.heap.size Y).heap[w.heap.size]? = some (.cells Y 5 (0,0)):=setRow_heap _ _ M _ 5 (0,0) (heap_alloc_new w _);have oL:s.data.toList≠[]:=fun e=>h0 (by rw [Lib.size_eq,e];rfl)
  have hUS:=Lib.run_unsafeString_row (P:=Tryz.prog) ((w.alloc (.cells M 5)).setRow w.heap.size Y) 284 3 9 5 L127 hco w.heap.size Y.size (by unfold World.shape?;rw [xW]) s.data.toList oL (by rw [←Lib.size_eq];omega) (by rw [←Lib.size_eq];omega)
   (fun j x hx=>Lib.cells_of_row xW Y.size j _ (by rw [List.take_of_length_le (by rw [Array.length_toList];exact Nat.le_refl _),xV];simp [Lib.byteCells,hx]))
  rw [←Lib.size_eq] at hUS;clear hY
  go_enter Tryz.func149,Tryz.ntmps149
  go_wp2
  go_ret
  have oZ:Below w.heap.size w (w.alloc (.cells M 5)):=(Below.refl _ w).alloc (Nat.le_refl _) _;have oW:Below w.heap.size (w.alloc (.cells M 5)) ((w.alloc (.cells M 5)).setRow w.heap.size Y):=⟨rfl,rfl,rfl,by simp,fun k hk=>setRow_other _ _ _ _ (by omega)⟩
  exact ⟨rfl,Lib.below_freeze (oZ.trans oW) (p:=⟨w.heap.size,0,none⟩) (Nat.le_refl _) _⟩
theorem dS (E:Env) (s:List UInt8) (H:AH) (hs:s.length≤281474976710656):CS zP E 149 [.str s] H (.str s) H:=by
 refine CS.of_below fun g w cargs hA => ?_
 simp only [AB,AA] at hA;obtain ⟨_,_,rfl,rfl,rfl⟩:=hA;refine (dR ⟨s.toArray⟩ w (by simpa [ByteArray.size] using hs)).mono fun e w' => ?_
 rintro ⟨rfl,hb⟩;exact ⟨_,rfl,fun g=>by simp only [AA],hb⟩
set_option maxRecDepth 100000
set_option maxHeartbeats 4000000
theorem z3 (a b:Int):aeq zP 35 (.iface 255 (.int .i64 a)) (.iface 255 (.int .i64 b))=some (a==b):=by kernel_rfl
theorem dU:AM.glob 5=Om:=rfl
theorem dV:AM.imm 271=true:=rfl
theorem dW (a b:List UInt8) (t:TypeId) (v:AV):Aq zP 271 [(0,.str a),(1,.str b),(2,.iface t v)]=some (.agg [.str a,.str b,.iface t v]):=by kernel_rfl
def HL (f s:List UInt8):AV := .vptr [.str f,.str s,.iface 285 (.vptr [.str Sp] 0)] 0
theorem dX (O:Orc) (X:Cx O zP AM) (f s:List UInt8) (h64:∀H,O 149 [.str s] H=some (.str s,H)) (H:AH):CS zP AM 141 [.str f,.str s] H (HL f s) H :=
 (CS.of_Tr (H0:=[]) (H1:=[]) (c:=Au Tryz.f141) Tryz.func141 (by kernel_rfl) 0 (by simp [Tryz.f141]) (fun B hB hG=>by
  refine Tr.run X hG (by kernel_rfl) ?_;rw [DX]
  simp [Tryz.f141,h64,dU,Om,dW,dV,HL]) rfl rfl).frame Eb rfl H
theorem dY (O:Orc) (X:Cx O zP AM) (f s:List UInt8) (h57:∀H,O 141 [.str f,.str s] H=some (HL f s,H)) (H:AH) :
  CS zP AM 130 [.str f,.str s,.int .i64 10,.int .i64 64,.iface 255 (.int .i64 1)] H (.iface 258 (HL f s)) H :=
 (CS.of_Tr (H0:=[]) (H1:=[]) (c:=Au Tryz.f130) Tryz.func130 (by kernel_rfl) 0 (by simp [Tryz.f130]) (fun B hB hG=>by
  refine Tr.run X hG (by kernel_rfl) ?_;rw [DX]
  simp [Tryz.f130,h57,↓z3,HL]) rfl rfl).frame Eb rfl H
def MZ:List UInt8:=[80,97,114,115,101,73,110,116]
def KK (s:List UInt8):AV:=if Ba s<9223372036854775808 then .tup [.int .i64 (Ba s),.nilIface] else .tup [.int .i64 9223372036854775807,.iface 258 (HL MZ s)]
theorem dZ (O:Orc) (X:Cx O zP AM) (s:List UInt8) (uI:∀H,O 129 [.str s,.int .i64 10,.int .i64 64] H=some (IS s,H))
  (xX:∀H,O 130 [.str MZ,.str s,.int .i64 10,.int .i64 64,.iface 255 (.int .i64 1)] H=some (.iface 258 (HL MZ s),H)) (H:AH) :
  CS zP AM 113 [.str s,.int .i64 10,.int .i64 64] H (KK s) H:=by
 refine CS.frame (CS.of_Tr (H0:=[]) (H1:=[]) (c:=Au Tryz.f113) Tryz.func113 (by kernel_rfl) 0 (by simp [Tryz.f113]) (fun B hB hG => ?_) ?_ rfl) Eb rfl H
 ·refine Tr.run X hG (by kernel_rfl) ?_
  rw [DX];unfold IS at uI;unfold KK;unfold MZ at xX ⊢
  by_cases h:Ba s<9223372036854775808
  ·rw [if_pos h] at uI ⊢
   simp [Tryz.f113,uI]
  ·rw [if_neg h] at uI ⊢
   simp [Tryz.f113,uI,xX,HL]
 ·unfold KK
  split<;>rfl
def DA (s:List UInt8):Bool:=decide (1≤s.length)&&(s.drop (s.length-1)==[10])
def Bw (s:List UInt8):List UInt8:=if DA s then s.take (s.length-1) else s
theorem da (O:Orc) (s:List UInt8) (N:Nat) (H:AH) (hs:s.length<9223372036854775807):Ar O zP AM N 126 [.str s,.str [10]] H=some (.bool (DA s),H):=by
 by_cases h:1≤s.length
 ·have h1:(1:Int)≤(s.length:Int):=by omega
  have w:IntKind.i64.wrap ((s.length:Int)-1)=((s.length-1:Nat):Int):=by rw [Ab (by omega) (by omega)];omega
  have k1:((s.length-1:Nat):Int)≤(s.length:Int):=by omega
  simp [Tryz.func126,Tryz.f126,Ar,AK,Bf,AY,Ai,Ag,grow,A5,Ap,AW,callee,aop,AX,AC,BP,BW,BU,AR,BC,BH,alen,BF,Bc,Be,aun,BQ,BD,BY,BR,BS,BV,Ao,BE,BM,A8,BI,A6,aeq,DA,h,h1,w,k1,Tryz.underlying9]
 ·have h1:¬(1:Int)≤(s.length:Int):=by omega
  simp [Tryz.func126,Tryz.f126,Ar,AK,Bf,AY,Ai,Ag,grow,A5,Ap,AW,callee,aop,AX,AC,BP,BW,BU,AR,BC,BH,alen,BF,Bc,Be,aun,BQ,BD,BY,BR,BS,BV,Ao,BE,BM,A8,BI,A6,aeq,DA,h,h1]
theorem go53:AG zP 126=true:=Ds _ (by simp)
theorem go46:AG zP 107=true:=Ds _ (by simp)
theorem go32:AG zP 89=true:=Ds _ (by simp)
theorem go33:AG zP 90=true:=Ds _ (by simp)
theorem go47:AG zP 108=true:=Ds _ (by simp)
theorem db (O:Orc) (s:List UInt8) (N:Nat) (H:AH) (hs:s.length<9223372036854775807) (ho:O 126 [.str s,.str [10]] H=some (.bool (DA s),H)) :
  Ar O zP AM N 107 [.str s,.str [10]] H=some (.tup [.str (Bw s),.bool (DA s)],H):=by
 unfold Bw;cases h:DA s
 ·rw [h] at ho
  simp [Tryz.func107,Tryz.f107,Ar,AK,Bf,AY,Ai,Ag,grow,A5,Ap,AW,callee,aop,AX,AC,BP,BW,BU,AR,BC,BH,alen,BF,Bc,Be,aun,BQ,BD,BY,BR,BS,BV,Ao,BE,BM,A8,BI,A6,aeq,go53,ho]
 ·rw [h] at ho
  have h1:1≤s.length:=by unfold DA at h;simp only [Bool.and_eq_true,decide_eq_true_eq] at h;exact h.1
  have w:IntKind.i64.wrap ((s.length:Int)-1)=((s.length-1:Nat):Int):=by rw [Ab (by omega) (by omega)];omega
  have k1:((s.length-1:Nat):Int)≤(s.length:Int):=by omega
  simp [Tryz.func107,Tryz.f107,Ar,AK,Bf,AY,Ai,Ag,grow,A5,Ap,AW,callee,aop,AX,AC,BP,BW,BU,AR,BC,BH,alen,BF,Bc,Be,aun,BQ,BD,BY,BR,BS,BV,Ao,BE,BM,A8,BI,A6,aeq,go53,ho,w,k1,Tryz.underlying9]
theorem dc (O:Orc) (s:List UInt8) (N:Nat) (H:AH) (ho:O 107 [.str s,.str [10]] H=some (.tup [.str (Bw s),.bool (DA s)],H)) :
  Ar O zP AM N 89 [.str s,.str [10]] H=some (.tup [.str (Bw s),.bool (DA s)],H):=by
 simp [Tryz.func89,Tryz.f89,Ar,AK,Bf,AY,Ai,Ag,grow,A5,Ap,AW,callee,aop,AX,AC,BP,BW,BU,AR,BC,BH,alen,BF,Bc,Be,aun,BQ,BD,BY,BR,BS,BV,Ao,BE,BM,A8,BI,A6,aeq,go46,ho]
theorem de (O:Orc) (s:List UInt8) (c m:Int) (N:Nat) (H:AH) (ho:O 108 [.str s,.int .u8 c] H=some (.int .i64 m,H)):Ar O zP AM N 90 [.str s,.int .u8 c] H=some (.int .i64 m,H):=by simp [Tryz.func90,Tryz.f90,Ar,AK,Bf,AY,Ai,Ag,grow,A5,Ap,AW,callee,aop,AX,AC,BP,BW,BU,AR,BC,BH,alen,BF,Bc,Be,aun,BQ,BD,BY,BR,BS,BV,Ao,BE,BM,A8,BI,A6,aeq,go47,ho]
def Gq (s:List UInt8):List UInt8:=if DA s then [10] else []
theorem df (O:Orc) (s:List UInt8) (m:Int) (N:Nat) (H:AH) (rK:O 89 [.str s,.str [10]] H=some (.tup [.str (Bw s),.bool (DA s)],H)) (qw:O 90 [.str (Bw s),.int .u8 33] H=some (.int .i64 m,H)) (hm:m<0) :
  Ar O zP AM N 59 [.str s] H=some (.tup [.str (Bw s),.str [],.str (Gq s)],H):=by
 have hm':¬(0:Int)≤m:=by omega
 unfold Gq
 cases h:DA s<;>rw [h] at rK <;>
  simp [Tryz.func59,Tryz.f59,Ar,AK,Bf,AY,Ai,Ag,grow,A5,Ap,AW,callee,aop,AX,AC,BP,BW,BU,AR,BC,BH,alen,BF,Bc,Be,aun,BQ,BD,BY,BR,BS,BV,Ao,BE,BM,A8,BI,A6,aeq,go32,go33,rK,qw,hm']
noncomputable def P16:Code:=A1 (A1 (CY (A1 (A1 (A1 (Au Tryz.f59))))))
noncomputable def R16:Code:=SF P16
theorem p16:P16 = .cond (.tmp 16) (.region 6 (HE R16) true) .skip:=by kernel_rfl
theorem z4:Ag AM (HE R16).toList=0:=by kernel_rfl
theorem dh (n:Nat):JA (HE R16) (Dc 0 (CE [] (HE R16).toList) (AY AM (HE R16).toList n))=true:=by kernel_rfl
theorem di:F8 0 (HE R16).toList=true:=by kernel_rfl
theorem dj (O:Orc) (b:List UInt8) (m:Nat) (t:List AV) (H:AH) (hl:t.length=26) (h2:t[2]? = some (.str b)) (h6:t[6]? = some (.int .i64 m)) (hm:m≤b.length) (Q:List AV→Prop)
  (hQ:∀t':List AV,t'.length=26→t'[2]? = some (.str (b.take m))→t'[3]? = some (.str (b.drop m))→t'[4]? = t[4]? → Q t') :
  ∃t',EE O zP AM (HE R16) t H=some (t',H)∧Q t':=by
 obtain ⟨_,g2⟩:=List.getElem?_eq_some_iff.1 h2;obtain ⟨_,g6⟩:=List.getElem?_eq_some_iff.1 h6;have k1:(m:Int)≤(b.length:Int):=by omega
 have key:∃t',evP O zP AM (HE R16) (AY AM (HE R16).toList H.length) t H=some t'∧Q t':=by simp [evP,CX,BG,BB,R16,P16,Au,Tryz.f59,SF,CY,A1,HE,Ar,AK,Bf,AY,Ai,Ag,grow,A5,Ap,AW,callee,aop,AX,AC,BP,BW,BU,AR,BC,BH,alen,BF,Bc,Be,aun,BQ,BD,BY,BR,BS,BV,Ao,BE,BM,A8,BI,A6,aeq,FY,hl,g2,g6,k1,Tryz.underlying9];refine hQ _ ?_ ?_ ?_ ?_<;>simp [hl]
 obtain ⟨t',h1,h2⟩:=key;exact ⟨t',SK z4 h1 dh di,h2⟩
theorem zDJ (O:Orc) (s:List UInt8) (t:List AV) (N:Nat) (H:AH) (hl:t.length=26) (h0:t[0]? = some (.str s)) (rK:O 89 [.str s,.str [10]] H=some (.tup [.str (Bw s),.bool (DA s)],H)) (Q:AEx→List AV→AH→Prop)
  (hQ:∀t':List AV,t'.length=26→t'[2]? = some (.str (Bw s))→t'[4]? = some (.str (Gq s))→Q .normal t' H):Ah (AK O zP AM N (C1 3 (Au Tryz.f59)) t H) Q:=by
 obtain ⟨_,g0⟩:=List.getElem?_eq_some_iff.1 h0;unfold Gq at hQ
 cases h:DA s<;>rw [h] at rK hQ <;>
  simp [Au,Tryz.f59,C1,Ar,AK,Bf,AY,Ai,Ag,grow,A5,Ap,AW,callee,aop,AX,AC,BP,BW,BU,AR,BC,BH,alen,BF,Bc,Be,aun,BQ,BD,BY,BR,BS,BV,Ao,BE,BM,A8,BI,A6,aeq,Ah,hl,g0,go32,rK] <;>
  (refine hQ _ ?_ ?_ ?_<;>simp [hl])
noncomputable def t16:Code:=A1 (A1 (A1 (Au Tryz.f59)))
theorem z5:Cj 3 (Au Tryz.f59)=t16:=by kernel_rfl
noncomputable def x16:Code:=CY t16
theorem dm (O:Orc) (b:List UInt8) (m:Nat) (t:List AV) (N:Nat) (H:AH) (hl:t.length=26) (h2:t[2]? = some (.str b)) (qw:O 90 [.str b,.int .u8 33] H=some (.int .i64 m,H)) (Q:AEx→List AV→AH→Prop)
  (hQ:∀t':List AV,t'.length=26→t'[2]? = t[2]? → t'[4]? = t[4]? → t'[6]? = some (.int .i64 m)→t'[16]? = some (.bool true)→Q .normal t' H):Ah (AK O zP AM N (C1 2 x16) t H) Q:=by
 obtain ⟨_,g2⟩:=List.getElem?_eq_some_iff.1 h2;simp [x16,t16,Au,Tryz.f59,C1,CY,A1,Ar,AK,Bf,AY,Ai,Ag,grow,A5,Ap,AW,callee,aop,AX,AC,BP,BW,BU,AR,BC,BH,alen,BF,Bc,Be,aun,BQ,BD,BY,BR,BS,BV,Ao,BE,BM,A8,BI,A6,aeq,Ah,hl,g2,go33,qw];refine hQ _ ?_ ?_ ?_ ?_ ?_<;>simp [hl,g2]
theorem dp:Cj 2 x16=P16:=by kernel_rfl
theorem dq (O:Orc) (x y z:AV) (t:List AV) (N:Nat) (H:AH) (hl:t.length=26) (h2:t[2]? = some x) (h3:t[3]? = some y) (h4:t[4]? = some z) (Q:AEx→List AV→AH→Prop)
  (hQ:∀t':List AV,t'.length=26→t'[2]? = some x→t'[3]? = some y→t'[4]? = some z→Q .ret t' H):Ah (AK O zP AM N (A1 t16) t H) Q:=by
 obtain ⟨_,g2⟩:=List.getElem?_eq_some_iff.1 h2;obtain ⟨_,g3⟩:=List.getElem?_eq_some_iff.1 h3;obtain ⟨_,g4⟩:=List.getElem?_eq_some_iff.1 h4;simp [t16,Au,Tryz.f59,A1,Ar,AK,Bf,AY,Ai,Ag,grow,A5,Ap,AW,callee,aop,AX,AC,BP,BW,BU,AR,BC,BH,alen,BF,Bc,Be,aun,BQ,BD,BY,BR,BS,BV,Ao,BE,BM,A8,BI,A6,aeq,Ah,hl,g2,g3,g4];refine hQ _ ?_ ?_ ?_ ?_<;>simp [hl]
theorem dr (t:List AV) (H:AH) (x y z:AV) (h2:t[2]? = some x) (h3:t[3]? = some y) (h4:t[4]? = some z):fin zP Tryz.f59 (some (.ret,t,H))=some (.tup [x,y,z],H):=by simp [fin,Tryz.f59,BC,h2,h3,h4,BH]
theorem dt (O:Orc) (s:List UInt8) (m:Nat) (N:Nat) (H:AH) (rK:O 89 [.str s,.str [10]] H=some (.tup [.str (Bw s),.bool (DA s)],H)) (qw:O 90 [.str (Bw s),.int .u8 33] H=some (.int .i64 m,H)) (hm:m≤(Bw s).length) :
  Ar O zP AM N 59 [.str s] H=some (.tup [.str ((Bw s).take m),.str ((Bw s).drop m),.str (Gq s)],H):=by
 refine OY (c:=Au Tryz.f59) Tryz.func59 (by kernel_rfl) ?_;refine Ah.split 3 _ ?_;refine zDJ O s _ _ H (by simp [Tryz.f59]) (by rfl) rK _ ?_;intro t hl k2 k4
 show Ah (AK O zP AM N (Cj 3 (Au Tryz.f59)) t H) _
 rw [z5];refine Ah.seq (A:=x16) (B:=A1 t16) (by kernel_rfl) ?_;refine Ah.split 2 _ ?_;refine dm O _ m t _ H hl k2 qw _ ?_;intro t2 oh j2 j4 j6 j16
 show Ah (AK O zP AM N (Cj 2 x16) t2 H) _
 rw [dp,p16];obtain ⟨t3,e3,qa,i2,i3,i4⟩:=dj O (Bw s) m t2 H oh (j2.trans k2) j6 hm (fun t'=>t'.length=26∧t'[2]? = some (.str ((Bw s).take m))∧t'[3]? = some (.str ((Bw s).drop m))∧t'[4]? = t2[4]?) (fun t' a b c d=>⟨a,b,c,d⟩);have hc:AC AM t2 (.tmp 16) = .bool true:=by simp [AC,j16]
 simp only [AK,hc,if_true,e3];refine Ah.some_iff.2 ?_
 show Ah (AK O zP AM N (A1 t16) t3 H) (fun e t H'=>fin zP Tryz.f59 (some (e,t,H'))=some (.tup [.str ((Bw s).take m),.str ((Bw s).drop m),.str (Gq s)],H))
 refine dq O _ _ _ t3 _ H qa i2 i3 (i4.trans (j4.trans k4)) _ ?_;intro t4 hl4 a b c
 show fin zP Tryz.f59 (some (.ret,t4,H))=_
 rw [dr t4 H _ _ _ a b c]
def Br:Nat:=137438953470
theorem Dx:Br=137438953470:=rfl
def Ma:Orc:=Bp 109 (fun args=>match args with
  |[.str s,.func (.func g) [] []]=>if s.length<Br then (if g=110 then some (Bi,s) else if g=112 then some (A2,s) else none) else none
  |_=>none) fun x => .int .i64 (Ak x.1 x.2)
theorem du:AT zP AM Ma:=Dp fun args x H h=>by
 split at h
 ·rename_i s g
  split at h
  ·rename_i hs
   rw [Dx] at hs
   split at h
   ·rename_i hg
    subst hg;injection h with h;subst h;exact EX K7 C4 Ad (Sv GC s _ Bi (Ds _ (by simp)) bf (by omega) H)
   ·split at h
    ·rename_i hg
     subst hg;injection h with h;subst h;exact EX K7 C4 Ad (Sv GC s _ A2 (Ds _ (by simp)) Su (by omega) H)
    ·cases h
  ·cases h
 ·cases h
def O6:Orc:=Bp 114 (fun args=>match args with
  |[.str (c::r)]=>some (c,r)
  |_=>none) fun x => .int .i64 (CZ (x.1::x.2))
theorem dw:AT zP AM O6:=Dp fun args x H h=>by
 split at h
 ·injection h with h
  subst h;exact EX IQ C4 Ad (bx Gj _ _ H)
 ·cases h
def KL:List AV→Option (List UInt8)
 |[.str s,.int .i64 10,.int .i64 64]=>if s≠[]∧s.length<Br∧s.all (fun b=>decide (48≤b.toNat)&&decide (b.toNat≤57))=true then some s else none
 |_=>none
theorem O7 {args:List AV} {s:List UInt8} (h:KL args=some s):args=[.str s,.int .i64 10,.int .i64 64]∧s≠[]∧s.length<Br∧Hp s:=by
 unfold KL at h
 split at h
 ·split at h
  ·rename_i s' hs
   injection h with h;subst h;obtain ⟨h1,h2,h3⟩:=hs;refine ⟨rfl,h1,h2,fun b hb => ?_⟩;have:=List.all_eq_true.1 h3 b hb;simpa using this
  ·cases h
 ·cases h
theorem O8 {s:List UInt8} (h1:s≠[]) (h2:s.length<Br) (h3:Hp s):KL [.str s,.int .i64 10,.int .i64 64]=some s:=by exact if_pos ⟨h1,h2,List.all_eq_true.2 fun b hb=>by simpa using h3 b hb⟩
def oPu:Orc:=Bp 139 KL IR
theorem dx:AT zP AM oPu:=Dp fun args x H h=>by obtain ⟨rfl,h1,h2,h3⟩:=O7 h;rw [Dx] at h2;exact EX IQ C4 Ad (cM Gj x h1 h3 (by omega) H)
def oPi:Orc:=Bp 129 KL IS
theorem dy:AT zP AM oPi:=Dp fun args x H h=>by obtain ⟨rfl,h1,h2,h3⟩:=O7 h;exact EX dx C4 Ad (cQ oPu x h1 h3 H (by simp [oPu,Bp,O8 h1 h2 h3]))
def Mb:Orc:=Bp 149 (fun args=>match args with
  |[.str s]=>if s.length<Br then some s else none
  |_=>none) .str
theorem dz:AT zP AM Mb:=Dp fun args x H h=>by
 split at h
 ·split at h
  ·rename_i hs
   rw [Dx] at hs;injection h with h;subst h;exact dS AM _ H (by omega)
  ·cases h
 ·cases h
theorem zDK {s:List UInt8} (h:s.length<Br) (H:AH):Mb 149 [.str s] H=some (.str s,H):=by simp [Mb,Bp,h]
def O9:Orc:=Bp 141 (fun args=>match args with
  |[.str f,.str s]=>if s.length<Br then some (f,s) else none
  |_=>none) fun x=>HL x.1 x.2
theorem zDL:AT zP AM O9:=Dp fun args x H h=>by
 split at h
 ·split at h
  ·rename_i hs
   injection h with h;subst h;exact dX Mb ⟨dz,C4,Ad⟩ _ _ (fun H=>zDK hs H) H
  ·cases h
 ·cases h
def PA:Orc:=Bp 130 (fun args=>match args with
  |[.str f,.str s,.int .i64 10,.int .i64 64,.iface 255 (.int .i64 1)]=>if s.length<Br then some (f,s) else none
  |_=>none) fun x => .iface 258 (HL x.1 x.2)
theorem d7:AT zP AM PA:=Dp fun args x H h=>by
 split at h
 ·split at h
  ·rename_i hs
   injection h with h;subst h;exact dY O9 ⟨zDL,C4,Ad⟩ _ _ (fun H=>by simp [O9,Bp,hs]) H
  ·cases h
 ·cases h
def PB:Orc:=Bp 113 KL KK
theorem d8:AT zP AM PB:=Dp fun args x H h=>by
 obtain ⟨rfl,h1,h2,h3⟩:=O7 h;refine dZ (Ay [(129,oPi),(130,PA)]) ⟨FB fun p hp => ?_,C4,Ad⟩ x (fun H => ?_) (fun H => ?_) H
 ·simp only [List.mem_cons,List.not_mem_nil,or_false] at hp
  rcases hp with rfl|rfl
  ·exact dy
  ·exact d7
 ·simp [Ay,oPi,Bp,O8 h1 h2 h3]
 ·simp [Ay,PA,Bp,h2]
def oWs:Orc:=Ay [(92,GC),(112,GC),(109,Ma),(111,On),(113,PB),(114,O6)]
theorem eA:AT zP AM oWs:=FB fun p hp=>by
 simp only [List.mem_cons,List.not_mem_nil,or_false] at hp;rcases hp with rfl|rfl|rfl|rfl|rfl|rfl
 ·exact K7
 ·exact K7
 ·exact du
 ·exact bw
 ·exact d8
 ·exact dw
theorem Mc:∀s:List UInt8,CZ s≤s.length
 |[]=>Nat.le_refl _
 |[c]=>by
  simp only [CZ,List.length_cons,List.length_nil]
  split
  ·omega
  ·split<;>omega
 |c::d::r=>by
  unfold CZ;simp only [List.length_cons]
  split
  ·split<;>omega
  ·split<;>omega
theorem PC (p:UInt8→Bool):∀(s:List UInt8),∀b∈s.take (Ak p s),p b=true
 |[],b,h=>by simp at h
 |c::s,b,h=>by
  unfold Ak at h;rw [List.takeWhile_cons] at h
  split at h
  ·rename_i hc
   simp only [List.length_cons,List.take_succ_cons,List.mem_cons] at h;rcases h with rfl|h
   ·exact hc
   ·exact PC p s b (by unfold Ak;exact h)
  ·simp at h
theorem PD {p:UInt8→Bool} {c:UInt8} {s:List UInt8} (h:p c=true):0<Ak p (c::s):=by unfold Ak;rw [List.takeWhile_cons,if_pos h];simp
theorem eB (c:UInt8) (r:List UInt8) (hs:(c::r).length<Br) (H:AH):CS zP AM 91 [.str (c::r)] H (HH (c::r)) H:=by
 have key:∀(v:AV),(∃H',Ar oWs zP AM 0 91 [.str (c::r)] []=some (v,H'))→v=HH (c::r)→CS zP AM 91 [.str (c::r)] H (HH (c::r)) H:=by rintro v ⟨H',h⟩ rfl;have:=CS.of_ev eA C4 Ad Eb (f:=91) (args:=[.str (c::r)]) (v:=HH (c::r)) 0 ⟨H',h,rfl,rfl⟩ rfl H;exact this
 have oT:∀p,(Ak p (c::r):Int)≤(r.length:Int)+1:=fun p=>by have:=Fc p (c::r);simp only [List.length_cons] at this;omega
 have qT:∀p,min (Ak p (c::r)) (r.length+1)=Ak p (c::r):=fun p=>by have:=Fc p (c::r);simp only [List.length_cons] at this;omega
 have tz:∀H,oWs 109 [.str (c::r),.func (.func 110) [] []] H=some (.int .i64 (Ak Bi (c::r)),H):=fun H=>by simp only [List.length_cons] at hs;simp [oWs,Ay,Ma,Bp,hs]
 have xY:∀H,oWs 109 [.str (c::r),.func (.func 112) [] []] H=some (.int .i64 (Ak A2 (c::r)),H):=fun H=>by simp only [List.length_cons] at hs;simp [oWs,Ay,Ma,Bp,hs]
 have pU:∀H,oWs 92 [.int .u8 (c.toNat:Int)] H=some (.bool (Bz c),H):=fun H=>Ss c H
 have qv:∀H,oWs 112 [.int .u8 (c.toNat:Int)] H=some (.bool (A2 c),H):=fun H=>Su c H
 cases h1:Bz c
 ·rw [h1] at pU
  cases h2:A2 c
  ·rw [h2] at qv
   have uG:∀H,oWs 114 [.str (c::r)] H=some (.int .i64 (CZ (c::r)),H):=fun H=>by simp [oWs,Ay,O6,Bp]
   refine key _ (cS oWs c r 0 pU qv uG (by have:=Mc (c::r);simp only [List.length_cons] at this;omega)) ?_
   by_cases h0:CZ (c::r)=0
   all_goals
    simp [HH,A9,h1,h2,h0,FE]
  ·rw [h2] at qv
   have hd:Hp ((c::r).take (Ak A2 (c::r))):=fun b hb=>by have:=PC A2 (c::r) b hb;simpa [A2] using this
   have oL:(c::r).take (Ak A2 (c::r))≠[]:=fun h=>by
    have h3:=PD (s:=r) h2;rw [List.take_eq_nil_iff] at h;rcases h with h|h
    ·omega
    ·cases h
   have oX:((c::r).take (Ak A2 (c::r))).length<Br:=Nat.lt_of_le_of_lt (List.length_take_le _ _) (by have:=Fc A2 (c::r);omega)
   have rO:∀H,oWs 113 [.str ((c::r).take (Ak A2 (c::r))),.int .i64 10,.int .i64 64] H=some (KK ((c::r).take (Ak A2 (c::r))),H):=fun H=>by simp only [oWs,Ay,List.lookup];simp [PB,Bp,O8 oL oX hd]
   unfold KK at rO
   by_cases h3:Ba ((c::r).take (Ak A2 (c::r)))<9223372036854775808
   ·rw [if_pos h3] at rO
    refine key _ (S2 oWs c r _ .nilIface false (by simp) 0 pU qv xY rO (oT _) (qT _)) ?_;simp [HH,A9,h1,h2,h3,FE]
   ·rw [if_neg h3] at rO
    refine key _ (S2 oWs c r _ _ true (by simp) 0 pU qv xY rO (oT _) (qT _)) ?_;simp [HH,A9,h1,h2,h3,FE]
 ·rw [h1] at pU
  have uF:∀H,oWs 111 [.str ((c::r).take (Ak Bi (c::r)))] H=some (.bool (C5 ((c::r).take (Ak Bi (c::r)))),H):=fun H=>by simp only [oWs,Ay,List.lookup];simp [On,callS]
  refine key _ (cR oWs c r _ 0 pU tz uF (oT _) (qT _)) ?_;simp only [HH,A9,h1,FE]
  by_cases h2:C5 ((c::r).take (Ak Bi (c::r)))=true
  all_goals
   by_cases h3:31<Ak Bi (c::r)
   ·simp [h2,h3]
   ·simp [h2,h3]
def PE:Orc:=Bp 91 (fun args=>match args with
  |[.str (c::r)]=>if (c::r).length<Br then some (c,r) else none
  |_=>none) fun x=>HH (x.1::x.2)
theorem eC:AT zP AM PE:=Dp fun args x H h=>by
 split at h
 ·split at h
  ·rename_i hs
   injection h with h;subst h;exact eB _ _ hs H
  ·cases h
 ·cases h
def Dg (l:List Wd) (x:Except (Nat × Nat) (List Wd)):Except (Nat × Nat) (List Wd):=match x with
 |.ok r => .ok (l++r)
 |.error x => .error x
theorem Md {c:UInt8} {r:List UInt8} (h:(A9 (c::r)).2=0):0<(A9 (c::r)).1.2.1.length:=by
 unfold A9 at h ⊢;simp only at h ⊢
 split
 ·rename_i h1
  have:=PD (p:=Bi) (c:=c) (s:=r) (by simp [Bi,h1]);have h2:=Fc Bi (c::r);simp only [List.length_take];omega
 ·rename_i h1
  rw [if_neg h1] at h
  split
  ·rename_i h1
   have:=PD (p:=A2) (s:=r) h1;have h2:=Fc A2 (c::r)
   split<;>(simp only [List.length_take];omega)
  ·rename_i h1
   rw [if_neg h1] at h
   split
   ·rename_i h2
    rw [if_pos h2] at h;cases h
   ·have h2:=Mc (c::r)
    simp only [List.length_take];omega
theorem Me (c:UInt8) (r:List UInt8):(A9 (c::r)).1.2.1.length≤(c::r).length:=by
 have key:∀n,((c::r).take n).length≤(c::r).length:=fun n=>by rw [List.length_take];omega
 unfold A9;simp only
 split
 ·exact key _
 ·split
  ·split<;>exact key _
  ·split
   ·exact Nat.zero_le _
   ·exact key _
def C6 (num:Bool) (c:UInt8) (r:List UInt8):Nat:=if num&&Bz c then 3 else (A9 (c::r)).2
theorem GD (n:Nat) (c:UInt8) (r:List UInt8) (p:Nat) (num:Bool) (hb:Dt c=false) :
  lex (n+1) (c::r) p num=if C6 num c r≠0 then .error (p,C6 num c r) else
   Dg [⟨(A9 (c::r)).1.1,(A9 (c::r)).1.2.1,p,(A9 (c::r)).1.2.2⟩] (lex n ((c::r).drop (A9 (c::r)).1.2.1.length) (p+(A9 (c::r)).1.2.1.length) ((A9 (c::r)).1.1==2)):=by
 simp only [lex,hb,Bool.false_eq_true,if_false]
 show (if C6 num c r≠0 then _ else _)=_
 by_cases h:C6 num c r≠0
 ·rw [if_pos h,if_pos h]
  rfl
 ·rw [if_neg h,if_neg h]
  rfl
theorem PF {num:Bool} {c:UInt8} {r:List UInt8} (h:C6 num c r=0):(A9 (c::r)).2=0:=by
 unfold C6 at h
 split at h
 ·cases h
 ·exact h
theorem TQ:∀(n m:Nat) (s:List UInt8) (p:Nat) (b:Bool),s.length<n→s.length<m→lex n s p b=lex m s p b:=by
 intro n
 induction n with
 |zero=>intro m s p b h;omega
 |succ n ih =>
  intro m s p b hn hm;cases m with
  |zero=>omega
  |succ m =>
   cases s with
   |nil=>rfl
   |cons c r =>
    simp only [List.length_cons] at hn hm;cases hb:Dt c with
    |true=>simp only [lex,hb,if_true];exact ih m r _ _ (by omega) (by omega)
    |false =>
     rw [GD n c r p b hb,GD m c r p b hb]
     by_cases h:C6 b c r≠0
     ·rw [if_pos h,if_pos h]
     ·rw [if_neg h,if_neg h]
      have h1:=Md (r:=r) (PF (by simpa using h));rw [ih m _ _ _ (by simp only [List.length_drop,List.length_cons];omega) (by simp only [List.length_drop,List.length_cons];omega)]
theorem TR (l m:List Wd) (x:Except (Nat × Nat) (List Wd)):Dg l (Dg m x)=Dg (l++m) x:=by cases x<;>simp [Dg]
def Mf (s:List UInt8) (k:Nat) (t:List AV) (H:AH):Prop :=
 ∃i l,i+k=s.length∧t=mkT 89 [(0,.str s),(4,Fi l),(5,.int .i64 i)]∧H=Du l∧(∀x∈l,x.at_+x.text.length≤i)∧l.length≤i ∧
  lex (s.length+1) s 0 false=Dg l (lex (k+1) (s.drop i) i (Eu l i))
theorem eD (l:List Wd):low (Du l).length (Fi l)=true:=by
 unfold Fi Du
 split
 ·rfl
 ·simp [Am (Nat.zero_le 1) _ (Hq l)]
theorem eE (l:List Wd):AU (Du l).length (Du l)=true:=by
 unfold Du
 split<;>rfl
theorem TS (us:List Wd) (u:Wd) (i:Nat):Eu (us++[u]) i=(u.kind==2&&u.at_+u.text.length==i):=by simp [Eu]
theorem TT {s:List UInt8} {i k:Nat} {l:List Wd} {c:UInt8} {r:List UInt8} (oQ:i+(k+1)=s.length) (hd:s.drop i=c::r) (hb:Dt c=false) (he:C6 (Eu l i) c r=0) (hl:∀x∈l,x.at_+x.text.length≤i) (ox:l.length≤i)
  (pR:lex (s.length+1) s 0 false=Dg l (lex (k+1+1) (s.drop i) i (Eu l i))) :
  ∃j,j<k+1∧Mf s j (mkT 89 [(0,.str s),(4,Fi (l++[⟨(A9 (c::r)).1.1,(A9 (c::r)).1.2.1,i,(A9 (c::r)).1.2.2⟩])),(5,.int .i64 ((i+(A9 (c::r)).1.2.1.length:Nat):Int))])
   (Du (l++[⟨(A9 (c::r)).1.1,(A9 (c::r)).1.2.1,i,(A9 (c::r)).1.2.2⟩])):=by
 have h1:=Md (r:=r) (PF he);have h2:=Me c r;have oT:(c::r).length=k+1:=by rw [←hd,List.length_drop];omega
 generalize hL:(A9 (c::r)).1.2.1.length=L at h1 h2 ⊢;refine ⟨k+1-L,by omega,i+L,_,by omega,rfl,rfl,?_,?_,?_⟩
 ·intro x hx
  rcases List.mem_append.1 hx with hx|hx
  ·have:=hl x hx;omega
  ·simp only [List.mem_singleton] at hx
   subst hx;simp only [hL];omega
 ·simp only [List.length_append,List.length_cons,List.length_nil];omega
 ·rw [pR,hd,GD _ _ _ _ _ hb,if_neg (by simp [he]),TR,TS,hL]
  have:s.drop (i+L)=(c::r).drop L:=by rw [←hd,List.drop_drop]
  rw [this]
  congr 1
  simp only [beq_self_eq_true,Bool.and_true];have qc:((c::r).drop L).length=k+1-L:=by rw [List.length_drop,oT]
  exact TQ _ _ _ _ _ (by omega) (by omega)
theorem eF {s:List UInt8} {i k:Nat} {l:List Wd} {c:UInt8} {r:List UInt8} (oQ:i+(k+1)=s.length) (hd:s.drop i=c::r) (hb:Dt c=true) (hl:∀x∈l,x.at_+x.text.length≤i) (ox:l.length≤i)
  (pR:lex (s.length+1) s 0 false=Dg l (lex (k+1+1) (s.drop i) i (Eu l i))) :
  Mf s k (mkT 89 [(0,.str s),(4,Fi l),(5,.int .i64 ((i+1:Nat):Int))]) (Du l):=by
 refine ⟨i+1,l,by omega,rfl,rfl,fun x hx=>by have:=hl x hx;omega,by omega,?_⟩;have:s.drop (i+1)=r:=by rw [←List.drop_drop,hd];rfl
 rw [pR,hd,this]
 have hn:Eu l (i+1)=false:=by
  unfold Eu;cases h:l.getLast? with
  |none=>rfl
  |some t =>
   have:=hl t (List.mem_of_getLast? h);have h2:(t.at_+t.text.length==i+1)=false:=by simp only [beq_eq_false_iff_ne];omega
   simp [h2]
 simp only [lex,hb,if_true,hn]
def oLn:Orc:=Ay [(91,PE),(92,GC)]
theorem eG:AT zP AM oLn:=FB fun p hp=>by
 simp only [List.mem_cons,List.not_mem_nil,or_false] at hp;rcases hp with rfl|rfl
 ·exact eC
 ·exact K7
theorem Mg:Cx oLn zP AM:=⟨eG,C4,Ad⟩
theorem eH (x:Except (Nat × Nat) (List Wd)):low 0 (Ec x)=true:=by
 cases x with
 |error x=>rfl
 |ok l =>
  simp only [Ec,AE]
  split
  ·rfl
  ·simp [Hq]
theorem eI (us:List Wd) (u:Wd):(A3 (us++[u]))[us.length*4]? = some (.int .i64 u.kind)∧(A3 (us++[u]))[us.length*4+1]? = some (.str u.text)∧(A3 (us++[u]))[us.length*4+2]? = some (.int .i64 u.at_):=by
 have h:=KC us;simp only [A3,List.flatMap_append] at h ⊢;refine ⟨?_,?_,?_⟩
 ·rw [List.getElem?_append_right (by omega),h];simp [BA]
 ·rw [List.getElem?_append_right (by omega),h,show us.length*4+1-us.length*4=1 by omega];simp [BA]
 ·rw [List.getElem?_append_right (by omega),h,show us.length*4+2-us.length*4=2 by omega];simp [BA]
theorem eJ (B:Bs) (hB:B.H=[]) (s:List UInt8) (hs:s.length<Br) (k i:Nat) (l:List Wd) (oQ:i+(k+1)=s.length) (hl:∀x∈l,x.at_+x.text.length≤i) (ox:l.length≤i)
  (pR:lex (s.length+1) s 0 false=Dg l (lex (k+1+1) (s.drop i) i (Eu l i))) (Q:AEx→List AV→AH→Prop)
  (hN:∀t H,(∃j t2 H2,j<k+1∧AD B t H t2 H2∧Mf s j t2 H2)→Q .normal t H)
  (hE:∀t H,Fin zP Tryz.f60 0 4 (Ec (lex (s.length+1) s 0 false)) [] .ret t H→Q .ret t H) :
  Wx oLn zP AM Fj (mkT 89 [(0,.str s),(4,Fi l),(5,.int .i64 i)]) (Du l) Q:=by
 have hi:i<s.length:=by omega
 rw [Dx] at hs;obtain ⟨c,r,hd⟩:∃c r,s.drop i=c::r:=⟨s[i],s.drop (i+1),List.drop_eq_getElem_cons hi⟩
 have hc:s[i]=c:=by have:=List.drop_eq_getElem_cons hi;rw [hd] at this;injection this with this _;exact this.symm
 cases hb:Dt c with
 |true =>refine zDF B hB oLn s i (Fi l) (Du l) hi (by omega) ?_ Q (fun t oO=>hN _ _ ⟨k,_,_,by omega,oO,eF oQ hd hb hl ox pR⟩) (eD l) (eE l);rw [hc];simpa [Dt] using hb
 |false =>
  have oZ:((s[i].toNat:Int)==32)=false:=by rw [hc];simp only [Dt,Bool.or_eq_false_iff,beq_eq_false_iff_ne] at hb;simp only [beq_eq_false_iff_ne];omega
  have oW:((s[i].toNat:Int)==9)=false:=by rw [hc];simp only [Dt,Bool.or_eq_false_iff,beq_eq_false_iff_ne] at hb;simp only [beq_eq_false_iff_ne];omega
  have oT:(c::r).length=k+1:=by rw [←hd,List.length_drop];omega
  have rQ:∀H,oLn 91 [.str (s.drop i)] H=some (HH (c::r),H):=fun H=>by
   rw [hd];have:(c::r).length<Br:=by rw [oT,Dx];omega
   simp only [List.length_cons] at this;simp [oLn,Ay,PE,Bp,this]
  have pU:∀H,oLn 92 [.int .u8 (s[i].toNat:Int)] H=some (.bool (Bz c),H):=fun H=>by rw [hc];exact Ss c H
  have hw:=Me c r
  have tE:C6 (Eu l i) c r≠0→lex (s.length+1) s 0 false = .error (i,C6 (Eu l i) c r):=fun h=>by rw [pR,hd,GD _ _ _ _ _ hb,if_pos h];rfl
  rcases List.eq_nil_or_concat l with rfl|⟨us,u,rfl⟩
  ·have he:C6 (Eu [] i) c r=(A9 (c::r)).2:=by simp [C6,Eu]
   refine cW B hB oLn s i _ _ _ _ hi (by omega) oZ oW rQ (by omega) Q (fun h0 t H oO => ?_) (fun h0 t H hf=>hE _ _ ?_)
   ·obtain ⟨j,hj,hI⟩:=TT (l:=[]) oQ hd hb (he.trans h0) hl ox pR
    exact hN _ _ ⟨j,_,_,hj,oO,hI⟩
   ·rw [tE (by rw [he];exact h0),he];exact hf
  ·rw [List.concat_eq_append] at *
   obtain ⟨c0,c1,c2⟩:=eI us u;have hu:=hl u (by simp);have oL:us++[u]≠[]:=by simp
   have he:C6 (Eu (us++[u]) i) c r=if Bz c=true∧u.kind=2∧u.at_+u.text.length=i then 3 else (A9 (c::r)).2:=by
    rw [TS];unfold C6
    by_cases h1:Bz c=true<;>by_cases h2:u.kind=2<;>by_cases h3:u.at_+u.text.length=i<;>simp [h1,h2,h3]
   have rI:∀l:List Wd,l≠[]→Fi l = .slice (.tok 0) 4 l.length (A3 l)∧Du l=[some (.tok l.length)]:=fun l h=>by simp [Fi,Du,h]
   rw [(rI _ oL).1,(rI _ oL).2];simp only [List.length_append,List.length_cons,List.length_nil,Nat.zero_add] at ox ⊢;refine cX B hB oLn s i us.length (A3 (us++[u])) u.kind u.at_ u.text (Bz c) _ _ _ _ hi (by omega) oZ oW c0 c1 c2 (Hq _) (by omega) (by omega) pU rQ (by omega) Q _ he (fun h0 t H oO => ?_) (fun h0 t H hf=>hE _ _ ?_)
   ·obtain ⟨j,hj,hI⟩:=TT oQ hd hb h0 hl (by simpa using ox) pR
    refine hN _ _ ⟨j,_,_,hj,oO,?_⟩;have h3:=rI ((us++[u])++[⟨(A9 (c::r)).1.1,(A9 (c::r)).1.2.1,i,(A9 (c::r)).1.2.2⟩]) (by simp);rw [h3.1,h3.2] at hI;simpa [A3] using hI
   ·rw [tE h0];exact hf
noncomputable def Mh:Code:=Cj 2 c11
noncomputable def PG:Code:=A1 Mh
noncomputable def eK:Code:=A1 Gl
theorem eL (s:List UInt8) (hs:s.length<Br) (H:AH):CS zP AM 60 [.str s] H (Ec (lex (s.length+1) s 0 false)) H:=by
 refine CS.frame (CS.of_Tr (H0:=[]) (H1:=[]) (c:=c11) Tryz.func60 (by kernel_rfl) 4 (by simp [Tryz.f60]) (fun B hB hG => ?_) (eH _) rfl) Eb rfl H;refine Tr.pre Mg hG 2 (R:=Mh) rfl (by kernel_rfl) (by kernel_rfl) ?_;rw [DX];simp [c11,Tryz.f60];refine Tr.seqD (a:=Gl) (b:=PG) (by kernel_rfl) ?_;refine Tr.pre Mg hG 1 (R:=eK) (by kernel_rfl) (by kernel_rfl) (by kernel_rfl) ?_;rw [DX];simp [Gl,c11,Tryz.f60];refine Tr.less (t':=mkT 89 [(0,.str s),(4,.nilSlice),(5,.int .i64 ((0:Nat):Int))]) (H':=[]) (AD.mkT 0 (by simp [hB]) ?_ rfl rfl) ?_
 ·simp
  exact ⟨.same rfl rfl,.same rfl rfl,.same rfl rfl⟩
 refine Tr.forD (a:=Fj) (id:=0) (by kernel_rfl) (Mf s) s.length ⟨0,[],by omega,rfl,rfl,by simp,by simp,?_⟩ ?_
 ·simp only [List.drop_zero,Eu,List.getLast?_nil]
  cases lex (s.length+1) s 0 false<;>rfl
 rintro k t H ⟨i,l,oQ,rfl,rfl,hl,ox,pR⟩;refine Tr.run Mg hG cU ?_;cases k with
 |succ k=>exact eJ B hB s hs k i l oQ hl ox pR _ (fun t H h=>h) (fun t H h=>h)
 |zero =>
  obtain rfl:i=s.length:=by omega
  have oM:lex (s.length+1) s 0 false = .ok l:=by rw [pR,List.drop_length];simp [lex,Dg]
  rw [oM];rw [DX];simp [Fj,Gl,c11,Tryz.f60,Bo];refine Tr.run Mg hG (by kernel_rfl) ?_;rw [DX]
  by_cases h:l=[]
  ·subst h
   simp [PG,Mh,c11,Tryz.f60,Fi,Du,Ec,AE]
  ·simp [PG,Mh,c11,Tryz.f60,Fi,Du,Ec,AE,h,Hq]
def Af:Env:=⟨Ca.glob,KJ,fun t=>Ca.imm t || t==88 || t==78,fun _=>false,fun _=>false⟩
@[simp] theorem mB (t:TypeId):Af.soft t=false:=AS rfl
theorem Dh:Ch zP Af:=JO
theorem DB:∀i,low 0 (Af.glob i)=true:=LB
theorem CS.toX {f:FuncId} {args:List AV} {H H':AH} {v:AV} (h:CS zP Ca f args H v H'):CS zP Af f args H v H':=fun g w cargs R hG hA=>h g w cargs R hG hA
theorem AT.toX {O:Orc} (h:AT zP Ca O):AT zP Af O:=fun f args H v H' ho=>by obtain ⟨h1,h2,h3⟩:=h f args H v H' ho;exact ⟨CS.toX h1,h2,h3⟩
@[simp] theorem immXF:Af.imm 106=true:=by decide
@[simp] theorem immXE:Af.imm 88=true:=by decide
@[simp] theorem immXR:Af.imm 250=false:=by decide
theorem KM:Cx Bu zP Af:=⟨Fe,Dh,Ad⟩
def Di:List UInt8:=[101,120,112,114]
def eAV:Option (Nat × Nat)→AV
 |none => .nilIface
 |some (p,c)=>Ac [(Di,(p:Int))] (c:Int)
@[simp ↓ high] theorem eM (x:Option (Nat × Nat)):low 0 (eAV x)=true:=by
 cases x with
 |none=>rfl
 |some x=>exact Fp _ _
@[simp ↓ high] theorem mD (x:Option (Nat × Nat)):BN (eAV x)=[]:=by
 cases x with
 |none=>rfl
 |some x=>simp [eAV,Ac,BN]
@[simp high] theorem mF (x:Option (Nat × Nat)):BF zP .eql 35 true (eAV x) .nilIface=some (.bool x.isNone):=by
 cases x with
 |none=>simp [eAV]
 |some x=>simp [eAV]
@[simp high] theorem mG (x:Option (Nat × Nat)):BF zP .neq 35 true (eAV x) .nilIface=some (.bool x.isSome):=by
 cases x with
 |none=>simp [eAV]
 |some x=>simp [eAV]
@[simp ↓ high] theorem mH (x:Option (Nat × Nat)):(eAV x).known=true:=by cases x<;>simp [eAV,Ac]
@[simp ↓ high] theorem mJ (x:Option (Nat × Nat)):(eAV x).one=true:=by cases x<;>simp [eAV,Ac]
@[simp ↓ high] theorem mL (x:Option (Nat × Nat)):An (eAV x)=[eAV x]:=by cases x<;>simp [eAV,Ac]
theorem eO {x y:Option (Nat × Nat)} (h:eAV x=eAV y):x=y:=by
 cases x with
 |none=>cases y with
  |none=>rfl
  |some y=>simp [eAV,Ac] at h
 |some x=>cases y with
  |none=>simp [eAV,Ac] at h
  |some y =>
   obtain ⟨p,c⟩:=x;obtain ⟨q,d⟩:=y;simp [eAV,Ac] at h;obtain ⟨h1,h2⟩:=h;have e1:p=q:=by omega
   have e2:c=d:=by omega
   rw [e1,e2]
@[simp ↓ high] theorem PH (l:List Wd):low 0 (AE l)=true:=by
 unfold AE;split
 ·rfl
 ·exact Hq l
@[simp ↓ high] theorem eP (l:List Wd):BN (AE l)=[]:=by unfold AE;split<;>rfl
@[simp ↓ high] theorem mM (l:List Wd):(AE l).known=true:=by unfold AE;split<;>rfl
@[simp ↓ high] theorem mN (l:List Wd):(AE l).one=true:=by unfold AE;split<;>rfl
@[simp ↓ high] theorem mO (l:List Wd):An (AE l)=[AE l]:=by unfold AE;split<;>rfl
@[simp high] theorem alenX (l:List Wd):alen zP 171 (AE l)=some (.int .i64 l.length):=by
 unfold AE
 split
 ·rename_i h;subst h;simp [alen]
 ·simp [alen]
theorem KN:∀(l:List Wd) (i:Nat) (w:Wd),l[i]? = some w→((A3 l).drop (i*4)).take 4=BA w∧i*4+4≤(A3 l).length
 |[],i,w,h=>by simp at h
 |x::l,i,w,h=>by
  have hc:A3 (x::l)=BA x++A3 l:=rfl;have hx:(BA x).length=4:=rfl;cases i with
  |zero =>simp only [List.getElem?_cons_zero,Option.some.injEq] at h;subst h;rw [hc];refine ⟨?_,by simp [hx]⟩;rw [Nat.zero_mul,List.drop_zero,List.take_append_of_le_length (by omega),List.take_of_length_le (by omega)]
  |succ i =>simp only [List.getElem?_cons_succ] at h;obtain ⟨h1,h2⟩:=KN l i w h;rw [hc];refine ⟨?_,by simp only [List.length_append,hx];omega⟩;rw [List.drop_append,List.drop_of_length_le (by omega),hx,List.nil_append,show (i+1)*4-4=i*4 by omega];exact h1
@[simp high] theorem eQ {l:List Wd} {i:Nat} (h:i<l.length):Ao zP 171 (AE l) (.int .i64 (i:Int))=some (.vptr (A3 l) (i*4)):=by
 have oL:l≠[]:=by rintro rfl;simp at h
 have:(i:Int)<l.length:=by omega
 simp [AE,oL,Ao,h]
theorem EM {l:List Wd} {i:Nat} {w:Wd} (h:l[i]? = some w):(A3 l)[i*4]? = some (.int .i64 w.kind)∧(A3 l)[i*4+1]? = some (.str w.text)∧(A3 l)[i*4+3]? = some (.int .i64 w.n):=by
 obtain ⟨h1,h2⟩:=KN l i w h
 have key:∀k,k<4→(A3 l)[i*4+k]? = (BA w)[k]? := by intro k hk;rw [←h1,List.getElem?_take,if_pos hk,List.getElem?_drop]
 exact ⟨by simpa [BA] using key 0 (by omega),by simpa [BA] using key 1 (by omega),by simpa [BA] using key 3 (by omega)⟩
def rdC (ts:List Wd) (a d:Int) (x:Option (Nat × Nat)):List AV:=[AE ts,.int .i64 a,.int .i64 d,eAV x]
@[simp] theorem eR (ts:List Wd) (a d:Int) (x:Option (Nat × Nat)):rdC ts a d x=[AE ts,.int .i64 a,.int .i64 d,eAV x]:=AS rfl
def St.cells (ts:List Wd) (r:St):List AV:=rdC ts r.at_ r.deep r.err
theorem St.cells_low (ts:List Wd) (r:St):lowL 0 (r.cells ts)=true:=by simp [St.cells]
theorem St.cells_inj {ts:List Wd} {r q:St} (h:r.cells ts=q.cells ts):r=q:=by obtain ⟨a,d,x⟩:=r;obtain ⟨b,e,y⟩:=q;simp only [St.cells,eR,List.cons.injEq,AV.int.injEq,true_and,and_true] at h;obtain ⟨h1,h2,h3⟩:=h;have:=eO h3;subst this;simp only [St.mk.injEq,and_true];omega
theorem eU (ts:List Wd) (r:St) (p e:Nat) {H:AH} {id:Nat} (hH:H.at id=some (.box (r.cells ts))) :
  CS zP Af 135 [.ptr id 0,.int .i64 (p:Int),.int .i64 (e:Int)] H (.tup []) (H.set id (some (.box ((r.fail p e).cells ts)))):=by
 refine CS.rd DB Tryz.func135 (by kernel_rfl) 0 (by simp [Tryz.f135]) (fun B hB hG => ?_) (by simp) rfl (St.cells_low ts r) (St.cells_low ts _) hH;refine Tr.goD KM hG ?_;cases he:r.err with
 |none=>simp [Tryz.f135,St.cells,St.fail,he,eAV,Ac,KD,Di]
 |some x=>simp [Tryz.f135,St.cells,St.fail,he]
def Ex.kd:Ex→Int
 |.none=>0
 |.num _=>1
 |.var _=>2
 |.elem _ _=>3
 |.neg _=>4
 |.bin k _ _=>k
def Ex.nn:Ex→Int
 |.num n=>n
 |_=>0
def Ex.nm:Ex→List UInt8
 |.var s=>s
 |.elem s _=>s
 |_=>[]
mutual
def exC:Ex→List AV
 |.none=>[.int .i64 0,.int .i64 0,.str [],.nilSlice]
 |.num n=>[.int .i64 1,.int .i64 n,.str [],.nilSlice]
 |.var s=>[.int .i64 2,.int .i64 0,.str s,.nilSlice]
 |.elem s a=>[.int .i64 3,.int .i64 0,.str s,.slice .unk 4 a.length (B3 a)]
 |.neg e=>[.int .i64 4,.int .i64 0,.str [],.slice .full 4 1 (exC e)]
 |.bin k a b=>[.int .i64 k,.int .i64 0,.str [],.slice .full 4 2 (exC a++exC b)]
def B3:List Ex→List AV
 |[]=>[]
 |e::l=>exC e++B3 l
end
def Ex.ar (e:Ex):AV:=(exC e).getD 3 .undef
@[simp] theorem PI (e:Ex):exC e=[.int .i64 e.kd,.int .i64 e.nn,.str e.nm,e.ar]:=by cases e<;>rfl
theorem eV:Ex.none.ar = .nilSlice:=AS rfl
theorem eW (n:Nat):(Ex.num n).ar = .nilSlice:=AS rfl
theorem eX (s:List UInt8):(Ex.var s).ar = .nilSlice:=AS rfl
theorem eY (s:List UInt8) (a:List Ex):(Ex.elem s a).ar = .slice .unk 4 a.length (B3 a):=AS rfl
theorem eZ (e:Ex):(Ex.neg e).ar = .slice .full 4 1 (exC e):=AS rfl
theorem ed (k:Nat) (a b:Ex):(Ex.bin k a b).ar = .slice .full 4 2 (exC a++exC b):=AS rfl
mutual
theorem LC:∀e:Ex,lowL 0 (exC e)=true
 |.none=>rfl
 |.num _=>rfl
 |.var _=>rfl
 |.elem s a=>by rw [exC];have:=Gr a;simp [this]
 |.neg e=>by rw [exC];have:=LC e;simpa using this
 |.bin k a b=>by rw [exC];have h1:=LC a;have h2:=LC b;simp only [PI] at h1 h2;simp only [lowL,low,Bool.and_eq_true,true_and,and_true,Bool.true_and] at h1 h2;simp [h1,h2]
theorem Gr:∀l:List Ex,lowL 0 (B3 l)=true
 |[]=>rfl
 |e::l=>by rw [B3,Dd,LC e,Gr l];rfl
end
theorem HM:∀a b:List Ex,B3 (a++b)=B3 a++B3 b
 |[],b=>rfl
 |e::a,b=>by rw [List.cons_append,B3,B3,HM a b,List.append_assoc]
@[simp ↓ high] theorem ee (e:Ex):low 0 e.ar=true:=by have:=LC e;rw [PI] at this;simpa using this
@[simp ↓ high] theorem mQ (e:Ex):BN e.ar=[]:=by cases e<;>rfl
@[simp ↓ high] theorem mR (e:Ex):e.ar.known=true:=by cases e<;>rfl
@[simp ↓ high] theorem mS (e:Ex):e.ar.one=true:=by cases e<;>rfl
@[simp ↓ high] theorem mT (e:Ex):An e.ar=[e.ar]:=by cases e<;>rfl
def CH (e:Ex):AV := .agg (exC e)
@[simp] theorem mU (e:Ex):CH e = .agg [.int .i64 e.kd,.int .i64 e.nn,.str e.nm,e.ar]:=by rw [CH,PI]
@[simp] theorem buE0:Aq zP 88 []=some (.agg [.int .i64 0,.int .i64 0,.str [],.nilSlice]):=by kernel_rfl
@[simp] theorem buE1 (k n:Int):Aq zP 88 [(0,.int .i64 k),(1,.int .i64 n)]=some (.agg [.int .i64 k,.int .i64 n,.str [],.nilSlice]):=by kernel_rfl
@[simp] theorem buE2 (k:Int) (s:List UInt8):Aq zP 88 [(0,.int .i64 k),(2,.str s)]=some (.agg [.int .i64 k,.int .i64 0,.str s,.nilSlice]):=by kernel_rfl
@[simp] theorem buE3 (k:Int) (ow:Own) (sz n:Nat) (cs:List AV):Aq zP 88 [(0,.int .i64 k),(3,.slice ow sz n cs)]=some (.agg [.int .i64 k,.int .i64 0,.str [],.slice ow sz n cs]):=by kernel_rfl
@[simp] theorem bsE1 (a b c d:AV):CK zP 86 1 [(0,.agg [a,b,c,d])]=some (.slice .full 4 1 [a,b,c,d]):=by kernel_rfl
@[simp] theorem bsE2 (a b c d e f g h:AV):CK zP 86 2 [(0,.agg [a,b,c,d]),(1,.agg [e,f,g,h])]=some (.slice .full 4 2 [a,b,c,d,e,f,g,h]):=by kernel_rfl
theorem ef (ts:List Wd) (r:St) (s:List UInt8) {H:AH} {id:Nat} (hH:H.at id=some (.box (r.cells ts))) :
  CS zP Af 134 [.ptr id 0,.str s] H (.bool (Aa ts r s)) (H.set id (some (.box (r.cells ts)))):=by
 refine CS.rd DB Tryz.func134 (by kernel_rfl) 0 (by simp [Tryz.f134]) (fun B hB hG => ?_) (by simp) rfl (St.cells_low ts r) (St.cells_low ts _) hH;refine Tr.goD KM hG ?_;simp [Tryz.f134,St.cells];refine LpD.turns KM hG [] [] ?_;cases he:r.err with
 |some x=>simp [Aa,he]
 |none =>
  by_cases hl:r.at_<ts.length
  ·have hl':(r.at_:Int)<ts.length:=by omega
   obtain ⟨w,hw⟩:∃w,ts[r.at_]? = some w:=⟨_,List.getElem?_eq_getElem hl⟩
   obtain ⟨c0,c1,c3⟩:=EM hw;have hn:isS ts r.at_ s=(w.kind==3&&w.text==s):=by simp only [isS,hw]
   by_cases hk:w.kind=3
   ·simp [Aa,hn,he,hl,hl',hk,c0,c1]
   ·have hk':((w.kind:Int)==3)=false:=by rw [beq_eq_false_iff_ne];omega
    simp [Aa,hn,he,hl,hl',hk,hk',c0,c1]
  ·have hl':¬((r.at_:Int)<ts.length):=by omega
   have hw:ts[r.at_]? = none:=List.getElem?_eq_none (by omega);have hn:isS ts r.at_ s=false:=by simp only [isS,hw]
   simp [Aa,hn,he,hl',hw]
theorem HN (r:St) (p e:Nat):r.fail p e=⟨r.at_,r.deep,some (r.err.getD (p,e))⟩:=by obtain ⟨a,d,x⟩:=r;cases x<;>rfl
theorem Mi {H:AH} {i j:Nat} {e x:Ent} (hx:H.at i=some x) (hj:H.at j=none):AH.at (H.set i (some e)) j=none:=by
 have vm:i≠j:=fun h=>by subst h;rw [hx] at hj;cases hj
 unfold AH.at at hj ⊢;rw [List.getElem?_set_ne vm];exact hj
open Classical in
noncomputable def oRd (ts:List Wd) (f0:FuncId) (spec:List AV→St→Option (AV × St)):Orc:=fun f args H =>
 if f=f0 then (match args with
  |.ptr id 0::rest=>if h:∃r:St,H.at id=some (.box (r.cells ts)) then (spec rest h.choose).map fun x=>(x.1,H.set id (some (.box (x.2.cells ts)))) else none
  |_=>none) else none
theorem Ht {ts:List Wd} {f0:FuncId} {spec:List AV→St→Option (AV × St)} {id:Nat} {rest:List AV} {H:AH} {r:St} (h:H.at id=some (.box (r.cells ts))) :
  oRd ts f0 spec f0 (.ptr id 0::rest) H=(spec rest r).map fun x=>(x.1,H.set id (some (.box (x.2.cells ts)))):=by
 have hx:∃r:St,H.at id=some (.box (r.cells ts)):=⟨r,h⟩
 have hc:=h.symm.trans hx.choose_spec;simp only [Option.some.injEq,Ent.box.injEq] at hc;have:hx.choose=r:=(St.cells_inj hc).symm;simp only [oRd,if_true,dif_pos hx,this]
theorem KO {ts:List Wd} {f0:FuncId} {spec:List AV→St→Option (AV × St)}
  (h:∀rest r v r',spec rest r=some (v,r')→∀H id,H.at id=some (.box (r.cells ts))→CS zP Af f0 (.ptr id 0::rest) H v (H.set id (some (.box (r'.cells ts))))):AT zP Af (oRd ts f0 spec):=by
 intro f args H v H' ho;unfold oRd at ho
 split at ho
 ·rename_i hf
  subst hf
  split at ho
  ·rename_i id rest
   split at ho
   ·rename_i hx
    obtain ⟨x,hs,qZ⟩:=Option.map_eq_some_iff.1 ho;simp only [Prod.mk.injEq] at qZ;obtain ⟨rfl,rfl⟩:=qZ;refine ⟨h _ _ _ _ hs _ _ hx.choose_spec,by simp,fun j _ hj=>Mi hx.choose_spec hj⟩
   ·cases ho
  ·cases ho
 ·cases ho
def Ed (ts:List Wd) (rest:List AV) (r:St):Option (AV × St):=match rest with
 |[.str s]=>some (.bool (Aa ts r s),r)
 |_=>none
def Fq (rest:List AV) (r:St):Option (AV × St):=match rest with
 |[.int .i64 p,.int .i64 e]=>if 0≤p∧0≤e then some (.tup [],r.fail p.toNat e.toNat) else none
 |_=>none
theorem Mj (ts:List Wd):AT zP Af (oRd ts 134 (Ed ts)):=KO fun rest r v r' h H id hH=>by
 unfold Ed at h
 split at h
 ·injection h with h
  simp only [Prod.mk.injEq] at h;obtain ⟨rfl,rfl⟩:=h;exact ef ts r _ hH
 ·cases h
theorem KP (ts:List Wd):AT zP Af (oRd ts 135 Fq):=KO fun rest r v r' h H id hH=>by
 unfold Fq at h
 split at h
 ·rename_i p e
  split at h
  ·rename_i uJ
   injection h with h;simp only [Prod.mk.injEq] at h;obtain ⟨rfl,rfl⟩:=h;have:=eU ts r p.toNat e.toNat hH
   rwa [Int.toNat_of_nonneg uJ.1,Int.toNat_of_nonneg uJ.2] at this
  ·cases h
 ·cases h
theorem HO {ts:List Wd} {a d:Int} {x:Option (Nat × Nat)} {H:AH} (ha:0≤a) (hd:0≤d):AH.at (some (.box [AE ts,.int .i64 a,.int .i64 d,eAV x])::H) 0=some (.box ((⟨a.toNat,d.toNat,x⟩:St).cells ts)):=by simp [AH.at,St.cells,Int.toNat_of_nonneg ha,Int.toNat_of_nonneg hd]
structure Sm1 (O:Orc) (ts:List Wd):Prop where
 next:∀(a d:Int) (x:Option (Nat × Nat)) (s:List UInt8) (H:AH),0≤a→0≤d→O 134 [.ptr 0 0,.str s] (some (.box [AE ts,.int .i64 a,.int .i64 d,eAV x])::H) =
  some (.bool (Aa ts ⟨a.toNat,d.toNat,x⟩ s),some (.box [AE ts,.int .i64 a,.int .i64 d,eAV x])::H)
 fail:∀(a d:Int) (x:Option (Nat × Nat)) (p e:Int) (H:AH),0≤a→0≤d→0≤p→0≤e→O 135 [.ptr 0 0,.int .i64 p,.int .i64 e] (some (.box [AE ts,.int .i64 a,.int .i64 d,eAV x])::H) =
  some (.tup [],some (.box [AE ts,.int .i64 a,.int .i64 d,eAV (some (x.getD (p.toNat,e.toNat)))])::H)
theorem Mk {ts:List Wd} {a d:Int} {x:Option (Nat × Nat)} (s:List UInt8) (H:AH) (ha:0≤a) (hd:0≤d):oRd ts 134 (Ed ts) 134 [.ptr 0 0,.str s] (some (.box [AE ts,.int .i64 a,.int .i64 d,eAV x])::H) =
  some (.bool (Aa ts ⟨a.toNat,d.toNat,x⟩ s),some (.box [AE ts,.int .i64 a,.int .i64 d,eAV x])::H):=by
 rw [Ht (HO ha hd)];simp [Ed,St.cells,Int.toNat_of_nonneg ha,Int.toNat_of_nonneg hd]
theorem LD {ts:List Wd} {a d:Int} {x:Option (Nat × Nat)} (p e:Int) (H:AH) (ha:0≤a) (hd:0≤d) (hp:0≤p) (he:0≤e):oRd ts 135 Fq 135 [.ptr 0 0,.int .i64 p,.int .i64 e] (some (.box [AE ts,.int .i64 a,.int .i64 d,eAV x])::H) =
  some (.tup [],some (.box [AE ts,.int .i64 a,.int .i64 d,eAV (some (x.getD (p.toNat,e.toNat)))])::H):=by
 rw [Ht (HO ha hd)];simp [Fq,HN,St.cells,Int.toNat_of_nonneg ha,Int.toNat_of_nonneg hd,hp,he]
noncomputable def Ml (ts:List Wd):Orc:=Ay [(134,oRd ts 134 (Ed ts)),(135,oRd ts 135 Fq)]
theorem eg (ts:List Wd):Cx (Ml ts) zP Af:=⟨FB (by
 intro p hp;simp only [List.mem_cons,List.not_mem_nil,or_false] at hp;rcases hp with rfl|rfl
 ·exact Mj ts
 ·exact KP ts),Dh,Ad⟩
theorem TU (ts:List Wd):Sm1 (Ml ts) ts:=⟨fun a d x s H ha hd=>by
  rw [←Mk s H ha hd];simp [Ml,Ay,List.lookup],fun a d x p e H ha hd hp he=>by
  rw [←LD p e H ha hd hp he];simp [Ml,Ay,List.lookup]⟩
theorem Ew {ts:List Wd} {r:St} {s:List UInt8} (h:Aa ts r s=true):r.at_<ts.length:=by
 simp only [Aa,isS,Bool.and_eq_true] at h;have h2:=h.2
 split at h2
 ·rename_i hw;exact (List.getElem?_eq_some_iff.1 hw).1
 ·cases h2
def GE (ts:List Wd) (r:St) (s:List UInt8):St:=if Aa ts r s=true then r.step else r
theorem eh (ts:List Wd) (oK:ts.length<1000000) (r:St) (s:List UInt8) {H:AH} {id:Nat} (hH:H.at id=some (.box (r.cells ts))) :
  CS zP Af 157 [.ptr id 0,.str s] H (.bool (Aa ts r s)) (H.set id (some (.box ((GE ts r s).cells ts)))):=by
 refine CS.rd DB Tryz.func157 (by kernel_rfl) 0 (by simp [Tryz.f157]) (fun B hB hG => ?_) (by simp) rfl (St.cells_low ts r) (St.cells_low ts _) hH;refine Tr.goD (eg ts) hG ?_;cases hn:Aa ts r s with
 |true =>have hl:=Ew hn;have w1:IntKind.i64.wrap ((r.at_:Int)+1)=(r.at_:Int)+1:=Ab (by omega) (by omega);simp [Tryz.f157,St.cells,GE,hn,(TU ts).next,w1,St.step]
 |false=>simp [Tryz.f157,St.cells,GE,hn,(TU ts).next]
def Dj (ts:List Wd) (rest:List AV) (r:St):Option (AV × St):=match rest with
 |[.str s]=>some (.bool (Aa ts r s),GE ts r s)
 |_=>none
theorem PJ (ts:List Wd) (oK:ts.length<1000000):AT zP Af (oRd ts 157 (Dj ts)):=KO fun rest r v r' h H id hH=>by
 unfold Dj at h
 split at h
 ·injection h with h
  simp only [Prod.mk.injEq] at h;obtain ⟨rfl,rfl⟩:=h;exact eh ts oK r _ hH
 ·cases h
theorem PK {ts:List Wd} {a d:Int} {x:Option (Nat × Nat)} (s:List UInt8) (H:AH) (ha:0≤a) (hd:0≤d) (hn:Aa ts ⟨a.toNat,d.toNat,x⟩ s=true) :
  oRd ts 157 (Dj ts) 157 [.ptr 0 0,.str s] (some (.box [AE ts,.int .i64 a,.int .i64 d,eAV x])::H)=some (.bool true,some (.box [AE ts,.int .i64 (a+1),.int .i64 d,eAV x])::H):=by
 rw [Ht (HO ha hd)];simp [Dj,GE,hn,St.step,St.cells,Int.toNat_of_nonneg ha,Int.toNat_of_nonneg hd]
theorem PL {ts:List Wd} {a d:Int} {x:Option (Nat × Nat)} (s:List UInt8) (H:AH) (ha:0≤a) (hd:0≤d) (hn:Aa ts ⟨a.toNat,d.toNat,x⟩ s=false) :
  oRd ts 157 (Dj ts) 157 [.ptr 0 0,.str s] (some (.box [AE ts,.int .i64 a,.int .i64 d,eAV x])::H)=some (.bool false,some (.box [AE ts,.int .i64 a,.int .i64 d,eAV x])::H):=by
 rw [Ht (HO ha hd)];simp [Dj,GE,hn,St.cells,Int.toNat_of_nonneg ha,Int.toNat_of_nonneg hd]
noncomputable def JP (ts:List Wd):Orc:=Ay [(157,oRd ts 157 (Dj ts)),(135,oRd ts 135 Fq)]
theorem ei (ts:List Wd) (oK:ts.length<1000000):Cx (JP ts) zP Af:=⟨FB (by
 intro p hp;simp only [List.mem_cons,List.not_mem_nil,or_false] at hp;rcases hp with rfl|rfl
 ·exact PJ ts oK
 ·exact KP ts),Dh,Ad⟩
theorem ej {ts:List Wd}:∀(a d:Int) (x:Option (Nat × Nat)) (s:List UInt8) (H:AH),0≤a→0≤d→Aa ts ⟨a.toNat,d.toNat,x⟩ s=true →
  JP ts 157 [.ptr 0 0,.str s] (some (.box [AE ts,.int .i64 a,.int .i64 d,eAV x])::H)=some (.bool true,some (.box [AE ts,.int .i64 (a+1),.int .i64 d,eAV x])::H):=fun a d x s H ha hd hn=>by
 rw [←PK s H ha hd hn];simp [JP,Ay,List.lookup]
theorem ek {ts:List Wd}:∀(a d:Int) (x:Option (Nat × Nat)) (s:List UInt8) (H:AH),0≤a→0≤d→Aa ts ⟨a.toNat,d.toNat,x⟩ s=false →
  JP ts 157 [.ptr 0 0,.str s] (some (.box [AE ts,.int .i64 a,.int .i64 d,eAV x])::H)=some (.bool false,some (.box [AE ts,.int .i64 a,.int .i64 d,eAV x])::H):=fun a d x s H ha hd hn=>by
 rw [←PL s H ha hd hn];simp [JP,Ay,List.lookup]
theorem em {ts:List Wd}:∀(a d:Int) (x:Option (Nat × Nat)) (p e:Int) (H:AH),0≤a→0≤d→0≤p→0≤e→JP ts 135 [.ptr 0 0,.int .i64 p,.int .i64 e] (some (.box [AE ts,.int .i64 a,.int .i64 d,eAV x])::H) =
  some (.tup [],some (.box [AE ts,.int .i64 a,.int .i64 d,eAV (some (x.getD (p.toNat,e.toNat)))])::H):=fun a d x p e H ha hd hp he=>by
 rw [←LD p e H ha hd hp he];simp [JP,Ay,List.lookup]
theorem eo (ts:List Wd) (oK:ts.length<1000000) (r:St) (s:List UInt8) {H:AH} {id:Nat} (hH:H.at id=some (.box (r.cells ts))) :
  CS zP Af 159 [.ptr id 0,.str s] H (.tup []) (H.set id (some (.box ((CF ts r s).cells ts)))):=by
 refine CS.rd DB Tryz.func159 (by kernel_rfl) 0 (by simp [Tryz.f159]) (fun B hB hG => ?_) (by simp) rfl (St.cells_low ts r) (St.cells_low ts _) hH;refine Tr.goD (ei ts oK) hG ?_;cases hn:Aa ts r s with
 |true=>simp [Tryz.f159,St.cells,CF,hn,ej,St.step]
 |false=>simp [Tryz.f159,St.cells,CF,hn,ek,em,HN]
def KQ (ts:List Wd) (rest:List AV) (r:St):Option (AV × St):=match rest with
 |[.str s]=>some (.tup [],CF ts r s)
 |_=>none
theorem TV (ts:List Wd) (oK:ts.length<1000000):AT zP Af (oRd ts 159 (KQ ts)):=KO fun rest r v r' h H id hH=>by
 unfold KQ at h
 split at h
 ·injection h with h
  simp only [Prod.mk.injEq] at h;obtain ⟨rfl,rfl⟩:=h;exact eo ts oK r _ hH
 ·cases h
theorem AD.mkK {B:Bs} {n:Nat} {l l':List (Nat × AV)} {H H':AH} (m:Nat) (hm:B.H.length≤m) (h:∀p∈l',(l.lookup p.1).getD .undef=p.2∧low m p.2=true) (hH:H.take m=H') (hl:AU m H'=true):AD B (Fw.mkT n l) H (Fw.mkT n l') H' :=AD.mkT m hm (fun p hp => .same (h p hp).1 (h p hp).2) hH hl
theorem Mm (m:Nat) {a:AV} (h:low 0 a=true):low m a=true:=CA (Nat.zero_le m) a h
@[simp ↓ high] theorem mV (m:Nat) (e:Ex):low m e.ar=true:=Mm m (ee e)
@[simp ↓ high] theorem mW (m:Nat) (x:Option (Nat × Nat)):low m (eAV x)=true:=Mm m (eM x)
@[simp ↓ high] theorem ma (m:Nat) (l:List Wd):low m (AE l)=true:=Mm m (PH l)
@[simp] theorem mb:Ex.none.kd=0:=AS rfl
@[simp] theorem me (n:Nat):(Ex.num n).kd=1:=AS rfl
@[simp] theorem mf (s:List UInt8):(Ex.var s).kd=2:=AS rfl
@[simp] theorem mg (s:List UInt8) (a:List Ex):(Ex.elem s a).kd=3:=AS rfl
@[simp] theorem mh (e:Ex):(Ex.neg e).kd=4:=AS rfl
@[simp] theorem mi (k:Nat) (a b:Ex):(Ex.bin k a b).kd=(k:Int):=AS rfl
@[simp] theorem mj:Ex.none.nn=0:=AS rfl
@[simp] theorem ml (n:Nat):(Ex.num n).nn=n:=AS rfl
@[simp] theorem mn (s:List UInt8):(Ex.var s).nn=0:=AS rfl
@[simp] theorem mp (s:List UInt8) (a:List Ex):(Ex.elem s a).nn=0:=AS rfl
@[simp] theorem mq (e:Ex):(Ex.neg e).nn=0:=AS rfl
@[simp] theorem mr (k:Nat) (a b:Ex):(Ex.bin k a b).nn=0:=AS rfl
@[simp] theorem mt:Ex.none.nm=[]:=AS rfl
@[simp] theorem mu (n:Nat):(Ex.num n).nm=[]:=AS rfl
@[simp] theorem mv (s:List UInt8):(Ex.var s).nm=s:=AS rfl
@[simp] theorem mw (s:List UInt8) (a:List Ex):(Ex.elem s a).nm=s:=AS rfl
@[simp] theorem my (e:Ex):(Ex.neg e).nm=[]:=AS rfl
@[simp] theorem mz (k:Nat) (a b:Ex):(Ex.bin k a b).nm=[]:=AS rfl
attribute [simp] eV eW eX eY eZ ed
def upw (of:Rd):Prop:=∀r,r.at_≤(of r).2.at_
theorem PM {ts:List Wd} {of:Rd} (h:upw of) {f s:List UInt8} {one two:Nat}:∀(n:Nat) (e:Ex),upw (DF ts of f one s two n e)
 |0,e,r=>Nat.le_refl _
 |n+1,e,r=>by
  have h1:=h r.step;simp only [DF]
  split
  ·exact Nat.le_refl _
  ·split
   ·have:=PM h (ts:=ts) (f:=f) (s:=s) (one:=one) (two:=two) n (.bin two e (of r.step).1) (of r.step).2
    simp only [St.step] at h1 this ⊢;omega
   ·split
    ·have:=PM h (ts:=ts) (f:=f) (s:=s) (one:=one) (two:=two) n (.bin one e (of r.step).1) (of r.step).2
     simp only [St.step] at h1 this ⊢;omega
    ·exact Nat.le_refl _
theorem Mn {ts:List Wd} {of:Rd} (h:upw of) {f s:List UInt8} {one two:Nat}:upw (Ev ts of f one s two):=fun r=>Nat.le_trans (h r) (PM h _ _ _)
def Ans (O:Orc) (ts:List Wd) (g:FuncId) (of:Rd) (n:Nat):Prop:=∀(a d:Int) (x:Option (Nat × Nat)) (H:AH),0≤a→0≤d→d≤20→ts.length-a.toNat<n →
 O g [.ptr 0 0] (some (.box [AE ts,.int .i64 a,.int .i64 d,eAV x])::H)=some (CH (of ⟨a.toNat,d.toNat,x⟩).1,some (.box ((of ⟨a.toNat,d.toNat,x⟩).2.cells ts))::H)
def RowI (ts:List Wd) (of:Rd) (g:FuncId) (f:List UInt8) (one:Nat) (s:List UInt8) (two:Nat) (n:Nat) (res:Ex × St) (k:Nat) (t:List AV) (H:AH):Prop :=
 ∃(e:Ex) (r:St),DF ts of f one s two k e r=res∧ts.length-r.at_<k∧ts.length-r.at_<n∧r.deep≤20 ∧
  t=mkT 47 [(0,.ptr 0 0),(1,.func (.func g) [.ptr 0 0] []),(2,.str f),(3,.int .i64 one),(4,.str s),(5,.int .i64 two),(12,.ptr 1 0),(13,.ptr 2 0)] ∧
  H=[some (.box (r.cells ts)),some (.box (exC .none)),some (.box (exC e))]
theorem ep (ts:List Wd) (oK:ts.length<1000000) {O:Orc} (X:Cx O zP Af) (hN:∀(a d:Int) (x:Option (Nat × Nat)) (s:List UInt8) (H:AH),0≤a→0≤d→O 134 [.ptr 0 0,.str s] (some (.box [AE ts,.int .i64 a,.int .i64 d,eAV x])::H) =
  some (.bool (Aa ts ⟨a.toNat,d.toNat,x⟩ s),some (.box [AE ts,.int .i64 a,.int .i64 d,eAV x])::H)) {g:FuncId} (hg:AG zP g=true) {of:Rd} {n:Nat} (hA:Ans O ts g of n) (hu:upw of) (hd:∀r,(of r).2.deep=r.deep)
  (f:List UInt8) (one:Nat) (s:List UInt8) (two:Nat) (r:St) (hr:r.deep≤20) (hn:ts.length-r.at_<n) (B:Bs) (hB:B.H=[some (.box (r.cells ts))]) (hG:Al Af B.g) :
  Tr zP B (Au Tryz.f144) (mkT 47 (Eo 0 [.ptr 0 0,.func (.func g) [.ptr 0 0] [],.str f,.int .i64 one,.str s,.int .i64 two])) [some (.box (r.cells ts))]
   (Fin zP Tryz.f144 1 0 (CH (Ev ts of f one s two r).1) [some (.box ((Ev ts of f one s two r).2.cells ts))]):=by
 have pC:((r.deep:Int))≤20:=by omega
 have h1:=fun H=>hA r.at_ r.deep r.err H (by omega) (by omega) pC (by simpa using hn)
 simp only [Int.toNat_natCast] at h1;have sV:=hu r;have oi:=hd r;simp only [Ev];generalize vn:of r=p at *;obtain ⟨e,q⟩:=p;simp only at h1 sV oi;refine Tr.goD X hG ?_;simp [St.cells] at h1;simp [Tryz.f144,St.cells,hg,h1]
 refine LpD.loopN X hG (RowI ts of g f one s two n (DF ts of f one s two (ts.length+1) e q)) (ts.length+1)
  (t':=mkT 47 [(0,.ptr 0 0),(1,.func (.func g) [.ptr 0 0] []),(2,.str f),(3,.int .i64 one),(4,.str s),(5,.int .i64 two),(12,.ptr 1 0),(13,.ptr 2 0)])
  (H':=[some (.box (q.cells ts)),some (.box (exC .none)),some (.box (exC e))]) (AD.mkK 3 (by simp [hB]) (by simp) (by simp [St.cells]) (by simp [St.cells])) ⟨e,q,rfl,by omega,by omega,by omega,rfl,rfl⟩ ?_
 rintro k t H ⟨e',r',oM,hk,ry,pi,rfl,rfl⟩;cases k with
 |zero=>omega
 |succ k =>
  have uK:(r'.deep:Int)≤20:=by omega
  cases he:r'.err with
  |some x =>
   have om:DF ts of f one s two (k+1) e' r'=(.none,r'):=by simp [DF,he]
   rw [←oM,om];simp [St.cells,he,Bo]
  |none =>
   obtain ⟨a,d,x⟩:=r';simp only at he hk ry pi uK;subst he;cases hs:Aa ts ⟨a,d,none⟩ s with
   |true =>
    have hl:a<ts.length:=Ew hs;have w1:IntKind.i64.wrap ((a:Int)+1)=(a:Int)+1:=Ab (by omega) (by omega);have h2:=fun H=>hA (a+1:Nat) d none H (by omega) (by omega) uK (by simp only [Int.toNat_natCast];omega)
    simp [St.cells] at h2;simp [St.cells,hN,hs,w1,Bo];refine LpD.turns X hG [3,6] [(0,3),(1,3)] ?_;simp [hg,h2]
    refine Nxt.mk k (by omega) (AD.mkK 3 (l':=[(0,.ptr 0 0),(1,.func (.func g) [.ptr 0 0] []),(2,.str f),(3,.int .i64 one),(4,.str s),(5,.int .i64 two),(12,.ptr 1 0),(13,.ptr 2 0)])
     (H':=[some (.box ((of ⟨a+1,d,none⟩).2.cells ts)),some (.box (exC .none)),some (.box (exC (.bin two e' (of ⟨a+1,d,none⟩).1)))]) (by simp [hB]) (by simp) (by simp [St.cells]) (by simp [St.cells]))
     ⟨.bin two e' (of ⟨a+1,d,none⟩).1,(of ⟨a+1,d,none⟩).2,?_,?_,?_,?_,rfl,rfl⟩
    ·rw [←oM];simp [DF,hs,St.step]
    ·have:=hu ⟨a+1,d,none⟩;simp only at this;omega
    ·have:=hu ⟨a+1,d,none⟩;simp only at this;omega
    ·have:=hd ⟨a+1,d,none⟩;simp only at this;omega
   |false =>
    cases hf:Aa ts ⟨a,d,none⟩ f with
    |true =>
     have hl:a<ts.length:=Ew hf;have w1:IntKind.i64.wrap ((a:Int)+1)=(a:Int)+1:=Ab (by omega) (by omega);have h2:=fun H=>hA (a+1:Nat) d none H (by omega) (by omega) uK (by simp only [Int.toNat_natCast];omega)
     simp [St.cells] at h2;simp [St.cells,hN,hs,hf,w1,Bo];refine LpD.turns X hG [3,6] [(0,3),(1,3)] ?_;simp [hg,h2]
     refine Nxt.mk k (by omega) (AD.mkK 3 (l':=[(0,.ptr 0 0),(1,.func (.func g) [.ptr 0 0] []),(2,.str f),(3,.int .i64 one),(4,.str s),(5,.int .i64 two),(12,.ptr 1 0),(13,.ptr 2 0)])
      (H':=[some (.box ((of ⟨a+1,d,none⟩).2.cells ts)),some (.box (exC .none)),some (.box (exC (.bin one e' (of ⟨a+1,d,none⟩).1)))]) (by simp [hB]) (by simp) (by simp [St.cells]) (by simp [St.cells]))
      ⟨.bin one e' (of ⟨a+1,d,none⟩).1,(of ⟨a+1,d,none⟩).2,?_,?_,?_,?_,rfl,rfl⟩
     ·rw [←oM];simp [DF,hs,hf,St.step]
     ·have:=hu ⟨a+1,d,none⟩;simp only at this;omega
     ·have:=hu ⟨a+1,d,none⟩;simp only at this;omega
     ·have:=hd ⟨a+1,d,none⟩;simp only at this;omega
    |false =>
     have om:DF ts of f one s two (k+1) e' ⟨a,d,none⟩=(e',⟨a,d,none⟩):=by simp [DF,hs,hf]
     rw [←oM,om];simp [St.cells,hN,hs,hf,Bo]
theorem eq (ts:List Wd) (oK:ts.length<1000000) {O:Orc} (X:Cx O zP Af) (hN:∀(a d:Int) (x:Option (Nat × Nat)) (s:List UInt8) (H:AH),0≤a→0≤d→O 134 [.ptr 0 0,.str s] (some (.box [AE ts,.int .i64 a,.int .i64 d,eAV x])::H) =
  some (.bool (Aa ts ⟨a.toNat,d.toNat,x⟩ s),some (.box [AE ts,.int .i64 a,.int .i64 d,eAV x])::H)) {g:FuncId} (hg:AG zP g=true) {of:Rd} {n:Nat} (hA:Ans O ts g of n) (hu:upw of) (hd:∀r,(of r).2.deep=r.deep)
  (f:List UInt8) (one:Nat) (s:List UInt8) (two:Nat) (r:St) (hr:r.deep≤20) (hn:ts.length-r.at_<n) {H:AH} {id:Nat} (hH:H.at id=some (.box (r.cells ts))) :
  CS zP Af 144 [.ptr id 0,.func (.func g) [.ptr id 0] [],.str f,.int .i64 one,.str s,.int .i64 two] H (CH (Ev ts of f one s two r).1) (H.set id (some (.box ((Ev ts of f one s two r).2.cells ts)))):=by
 have:=CS.rdR (rest:=[.func (.func g) [.ptr 0 0] [],.str f,.int .i64 one,.str s,.int .i64 two]) DB Tryz.func144 (by kernel_rfl) 0 (by simp [Tryz.f144])
  (fun B hB hG=>ep ts oK X hN hg hA hu hd f one s two r hr hn B hB hG) (by simp) (by simp) (St.cells_low ts r) (St.cells_low ts _) hH
 simpa [AL,ren] using this
theorem TW {p:Nat} {f:Rd} (h:upw f):upw (inF p f):=by
 intro r
 by_cases hd:r.deep+1>20
 ·cases he:r.err with
  |none=>simp [inF,hd,he,St.fail]
  |some x=>simp [inF,hd,he,St.fail]
 ·cases he:r.err with
  |none=>simp only [inF,if_neg hd,he,Option.isNone_none,if_true];exact h ⟨r.at_,r.deep+1,none⟩
  |some x=>simp [inF,hd,he]
theorem Ia (r:St) (p e:Nat):(r.fail p e).at_=r.at_:=by unfold St.fail;split<;>rfl
theorem Mo (ts:List Wd) (r:St) (s:List UInt8):r.at_≤(CF ts r s).at_:=by
 unfold CF;split
 ·simp [St.step]
 ·rw [Ia];exact Nat.le_refl _
theorem TX {ts:List Wd} {f:Rd} (h:upw f):∀(n:Nat) (a:List Ex) (r:St),r.at_≤(DG ts f n a r).2.at_
 |0,_,_=>Nat.le_refl _
 |n+1,a,r=>by
  have h1:=h r;simp only [DG]
  split
  ·have h2:=TX h (ts:=ts) n (a++[(f r).1]) (if a.length+1==4 then (f r).2.fail (f r).2.at_ 4 else (f r).2).step
   have h3:(f r).2.at_≤(if a.length+1==4 then (f r).2.fail (f r).2.at_ 4 else (f r).2).step.at_:=by
    split
    ·simp [St.step,Ia]
    ·simp [St.step]
   omega
  ·exact h1
theorem eu {ts:List Wd} {sf f:Rd} (hs:upw sf) (h:upw f):upw (Cl ts sf f):=by
 intro r;unfold Cl
 split
 ·split
  ·simp [St.step]
  ·split
   ·unfold EJ
    split
    ·have h1:=TX (ts:=ts) hs 6 [] r.step.step
     have h2:=Mo ts (DG ts sf 6 [] r.step.step).2 Aw;simp only [St.step] at h1 h2 ⊢;omega
    ·simp [St.step]
   ·split
    ·have:=TW (p:=r.at_) h r.step
     simp only [St.step] at this ⊢;omega
    ·split
     ·have h1:=TW (p:=r.at_) hs r.step
      have h2:=Mo ts (inF r.at_ sf r.step).2 Aw;simp only [St.step] at h1 h2 ⊢;omega
     ·rw [Ia];exact Nat.le_refl _
 ·rw [Ia];exact Nat.le_refl _
theorem Mp (ts:List Wd):∀n,upw (fac ts n)
 |0=>fun _=>Nat.le_refl _
 |n+1=>eu (Mn (Mn (Mp ts n))) (Mp ts n)
theorem TY (ts:List Wd) (n:Nat):∀r,(fac ts n r).2.deep=r.deep:=(FG ts n).2.2.2.1
theorem ew (ts:List Wd) (n:Nat):∀r,(JM ts (fac ts n) r).2.deep=r.deep:=(KF (ts:=ts) (f:=De) (s:=Df) (FG ts n) (by decide) 7 8).2.2.2.1
theorem PN (ts:List Wd) (n:Nat):∀r,(CM ts (fac ts n) r).2.deep=r.deep:=(IU (ts:=ts) (FG ts n)).2.2.2.1
theorem TZ (ts:List Wd) (n:Nat):upw (JM ts (fac ts n)):=Mn (Mp ts n)
theorem ey (ts:List Wd) (n:Nat):upw (CM ts (fac ts n)):=Mn (TZ ts n)
open Classical in
noncomputable def GF (ts:List Wd) (f0:FuncId) (spec:Nat→List AV→St→Option (AV × St)):Orc:=fun f args H =>
 if f=f0 then (match args with
  |.ptr id 0::rest=>if h:∃r:St,H.at id=some (.box (r.cells ts)) then (spec id rest h.choose).map fun x=>(x.1,H.set id (some (.box (x.2.cells ts)))) else none
  |_=>none) else none
theorem PO {ts:List Wd} {f0:FuncId} {spec:Nat→List AV→St→Option (AV × St)} {id:Nat} {rest:List AV} {H:AH} {r:St} (h:H.at id=some (.box (r.cells ts))) :
  GF ts f0 spec f0 (.ptr id 0::rest) H=(spec id rest r).map fun x=>(x.1,H.set id (some (.box (x.2.cells ts)))):=by
 have hx:∃r:St,H.at id=some (.box (r.cells ts)):=⟨r,h⟩
 have hc:=h.symm.trans hx.choose_spec;simp only [Option.some.injEq,Ent.box.injEq] at hc;have:hx.choose=r:=(St.cells_inj hc).symm;simp only [GF,if_true,dif_pos hx,this]
theorem Ta {ts:List Wd} {f0:FuncId} {spec:Nat→List AV→St→Option (AV × St)}
  (h:∀id rest r v r',spec id rest r=some (v,r')→∀H,H.at id=some (.box (r.cells ts))→CS zP Af f0 (.ptr id 0::rest) H v (H.set id (some (.box (r'.cells ts))))):AT zP Af (GF ts f0 spec):=by
 intro f args H v H' ho;unfold GF at ho
 split at ho
 ·rename_i hf
  subst hf
  split at ho
  ·rename_i id rest
   split at ho
   ·rename_i hx
    obtain ⟨x,hs,qZ⟩:=Option.map_eq_some_iff.1 ho;simp only [Prod.mk.injEq] at qZ;obtain ⟨rfl,rfl⟩:=qZ;refine ⟨h _ _ _ _ _ hs _ hx.choose_spec,by simp,fun j _ hj=>Mi hx.choose_spec hj⟩
   ·cases ho
  ·cases ho
 ·cases ho
def Gs (ts:List Wd) (of:Rd) (n:Nat) (rest:List AV) (r:St):Option (AV × St):=match rest with
 |[]=>if r.deep≤20∧ts.length-r.at_<n then some (CH (of r).1,(of r).2) else none
 |_=>none
def DZ (ts:List Wd) (g:FuncId) (of:Rd) (n:Nat):Prop:=AT zP Af (oRd ts g (Gs ts of n))
theorem DZ.mk' {ts:List Wd} {g:FuncId} {of:Rd} {n:Nat} (h:∀r:St,r.deep≤20→ts.length-r.at_<n→∀H id,H.at id=some (.box (r.cells ts))→CS zP Af g [.ptr id 0] H (CH (of r).1) (H.set id (some (.box ((of r).2.cells ts))))):DZ ts g of n :=
 KO fun rest r v r' hs H id hH=>by
  unfold Gs at hs
  split at hs
  ·split at hs
   ·rename_i hc
    injection hs with hs;simp only [Prod.mk.injEq] at hs;obtain ⟨rfl,rfl⟩:=hs;exact h r hc.1 hc.2 H id hH
   ·cases hs
  ·cases hs
theorem PP {ts:List Wd} {g:FuncId} {of:Rd} {n:Nat}:Ans (oRd ts g (Gs ts of n)) ts g of n:=fun a d x H ha hd ob hm=>by
 rw [Ht (HO ha hd)];have h1:d.toNat≤20:=by omega
 simp only [Gs,if_pos (And.intro h1 hm),Option.map_some,List.set_cons_zero]
noncomputable def oNG (ts:List Wd) (g:FuncId) (of:Rd) (n:Nat):Orc:=orElse (oRd ts 134 (Ed ts)) (oRd ts g (Gs ts of n))
theorem ez {ts:List Wd} {g:FuncId} {of:Rd} {n:Nat} (h:DZ ts g of n):Cx (oNG ts g of n) zP Af:=⟨AT.orElse (Mj ts) h,Dh,Ad⟩
theorem e9 {ts:List Wd} {g:FuncId} {of:Rd} {n:Nat} (a d:Int) (x:Option (Nat × Nat)) (s:List UInt8) (H:AH) (ha:0≤a) (hd:0≤d):oNG ts g of n 134 [.ptr 0 0,.str s] (some (.box [AE ts,.int .i64 a,.int .i64 d,eAV x])::H) =
  some (.bool (Aa ts ⟨a.toNat,d.toNat,x⟩ s),some (.box [AE ts,.int .i64 a,.int .i64 d,eAV x])::H):=by
 simp only [oNG,orElse,Mk s H ha hd]
theorem fA {ts:List Wd} {g:FuncId} {of:Rd} {n:Nat} (hg:g≠134):Ans (oNG ts g of n) ts g of n:=fun a d x H ha hd ob hm=>by
 have:=PP (g:=g) (of:=of) (n:=n) a d x H ha hd ob hm;have h1:oRd ts 134 (Ed ts) g [.ptr 0 0] (some (.box [AE ts,.int .i64 a,.int .i64 d,eAV x])::H)=none:=by simp [oRd,hg]
 simp only [oNG,orElse,h1,this]
def KR (ts:List Wd) (g:FuncId) (of:Rd) (n:Nat) (id:Nat) (rest:List AV) (r:St):Option (AV × St):=match rest with
 |[.func (.func g') [.ptr id' 0] [],.str f,.int .i64 one,.str s,.int .i64 two] =>if g'=g∧id'=id∧0≤one∧0≤two∧r.deep≤20∧ts.length-r.at_<n then some (CH (Ev ts of f one.toNat s two.toNat r).1,(Ev ts of f one.toNat s two.toNat r).2) else none
 |_=>none
theorem Tb {ts:List Wd} (oK:ts.length<1000000) {g:FuncId} {of:Rd} {n:Nat} (h:DZ ts g of n) (oL:g≠134) (hg:AG zP g=true) (hu:upw of) (hd:∀r,(of r).2.deep=r.deep) :
  AT zP Af (GF ts 144 (KR ts g of n)):=Ta fun id rest r v r' hs H hH=>by
 unfold KR at hs
 split at hs
 ·rename_i g' id' f one s two
  split at hs
  ·rename_i hc
   obtain ⟨rfl,rfl,h1,h2,h3,h4⟩:=hc;injection hs with hs;simp only [Prod.mk.injEq] at hs;obtain ⟨rfl,rfl⟩:=hs;have:=eq ts oK (ez h) (fun a d x s H ha hd=>e9 a d x s H ha hd) hg (fA oL) hu hd f one.toNat s two.toNat r h3 h4 hH
   rwa [Int.toNat_of_nonneg h1,Int.toNat_of_nonneg h2] at this
  ·cases hs
 ·cases hs
theorem Tc {ts:List Wd} {g:FuncId} {of:Rd} {n:Nat} {a d:Int} {x:Option (Nat × Nat)} (f s:List UInt8) (one two:Nat) (H:AH) (ha:0≤a) (hd:0≤d) (ob:d≤20) (hm:ts.length-a.toNat<n) :
  GF ts 144 (KR ts g of n) 144 [.ptr 0 0,.func (.func g) [.ptr 0 0] [],.str f,.int .i64 one,.str s,.int .i64 two] (some (.box [AE ts,.int .i64 a,.int .i64 d,eAV x])::H) =
  some (CH (Ev ts of f one s two ⟨a.toNat,d.toNat,x⟩).1,some (.box ((Ev ts of f one s two ⟨a.toNat,d.toNat,x⟩).2.cells ts))::H):=by
 rw [PO (HO ha hd)];have h1:d.toNat≤20:=by omega
 simp [KR,h1,hm]
theorem fB {ts:List Wd} (oK:ts.length<1000000) {n:Nat} (h:DZ ts 152 (fac ts n) n):DZ ts 145 (JM ts (fac ts n)) n:=DZ.mk' fun r hr hn H id hH=>by
 have X:Cx (GF ts 144 (KR ts 152 (fac ts n) n)) zP Af:=⟨Tb oK h (by decide) Tx.go152 (Mp ts n) (TY ts n),Dh,Ad⟩
 refine CS.rd DB Tryz.func145 (by kernel_rfl) 0 (by simp [Tryz.f145]) (fun B hB hG => ?_) rfl (by simp) (St.cells_low ts r) (St.cells_low ts _) hH;refine Tr.goD X hG ?_;have h1:=fun H=>Tc (g:=152) (of:=fac ts n) (x:=r.err) De Df 7 8 H (a:=r.at_) (d:=r.deep) (by omega) (by omega) (by omega) (by simpa using hn)
 simp [De,Df] at h1;simp [Tryz.f145,St.cells,h1,JM,De,Df]
theorem Td {ts:List Wd} (oK:ts.length<1000000) {n:Nat} (h:DZ ts 152 (fac ts n) n):DZ ts 132 (CM ts (fac ts n)) n:=DZ.mk' fun r hr hn H id hH=>by
 have X:Cx (GF ts 144 (KR ts 145 (JM ts (fac ts n)) n)) zP Af:=⟨Tb oK (fB oK h) (by decide) Tx.go145 (TZ ts n) (ew ts n),Dh,Ad⟩
 refine CS.rd DB Tryz.func132 (by kernel_rfl) 0 (by simp [Tryz.f132]) (fun B hB hG => ?_) rfl (by simp) (St.cells_low ts r) (St.cells_low ts _) hH;refine Tr.goD X hG ?_;have h1:=fun H=>Tc (g:=145) (of:=JM ts (fac ts n)) (x:=r.err) EI Bb 5 6 H (a:=r.at_) (d:=r.deep) (by omega) (by omega) (by omega) (by simpa using hn)
 simp [EI,Bb] at h1;simp [Tryz.f132,St.cells,h1,CM,EI,Bb]
theorem fC (ts:List Wd) {O:Orc} (X:Cx O zP Af) (hF:∀(a d:Int) (x:Option (Nat × Nat)) (p e:Int) (H:AH),0≤a→0≤d→0≤p→0≤e→O 135 [.ptr 0 0,.int .i64 p,.int .i64 e] (some (.box [AE ts,.int .i64 a,.int .i64 d,eAV x])::H) =
  some (.tup [],some (.box [AE ts,.int .i64 a,.int .i64 d,eAV (some (x.getD (p.toNat,e.toNat)))])::H)) {g:FuncId} (hg:AG zP g=true) {of:Rd} {n:Nat} (hA:Ans O ts g of n) (hd:∀r,(of r).2.deep=r.deep)
  (p:Nat) (r:St) (hr:r.deep≤20) (hn:ts.length-r.at_<n) {H:AH} {id:Nat} (hH:H.at id=some (.box (r.cells ts))) :
  CS zP Af 158 [.ptr id 0,.int .i64 p,.func (.func g) [.ptr id 0] []] H (CH (inF p of r).1) (H.set id (some (.box ((inF p of r).2.cells ts)))):=by
 have:=CS.rdR (rest:=[.int .i64 p,.func (.func g) [.ptr 0 0] []]) DB Tryz.func158 (by kernel_rfl) 0 (by simp [Tryz.f158])
  (fun B hB hG=>show Tr zP B (Au Tryz.f158) _ _ (Fin zP Tryz.f158 1 0 (CH (inF p of r).1) [some (.box ((inF p of r).2.cells ts))]) from by
   refine Tr.goD X hG ?_;obtain ⟨a,d,x⟩:=r;simp only at hr hn;have w1:IntKind.i64.wrap ((d:Int)+1)=(d:Int)+1:=Ab (by omega) (by omega);have w2:IntKind.i64.wrap (d:Int)=(d:Int):=Ab (by omega) (by omega);have h0:0≤(d:Int)+1:=by omega
   have oL:IntKind.i64.wrap (4:Int)=4:=by decide
   by_cases uq:d+1>20
   ·have uL:(20:Int)<(d:Int)+1:=by omega
    cases x with
    |none=>simp [Tryz.f158,St.cells,w1,w2,h0,uL,hF,inF,uq,HN]
    |some x=>simp [Tryz.f158,St.cells,w1,w2,h0,uL,hF,inF,uq,HN]
   ·have uL:¬(20:Int)<(d:Int)+1:=by omega
    cases x with
    |some x=>simp [Tryz.f158,St.cells,w1,w2,h0,uL,inF,uq]
    |none =>
     have h1:=fun H=>hA a (d+1:Nat) none H (by omega) (by omega) (by omega) (by simpa using hn)
     have r9:=hd ⟨a,d+1,none⟩;simp only at r9;simp [St.cells,r9] at h1
     simp [Tryz.f158,St.cells,w1,w2,h0,uL,inF,uq,hg,h1,r9]) (by simp) (by simp) (St.cells_low ts r) (St.cells_low ts _) hH
 simpa [AL,ren] using this
@[simp high] theorem m0 (m:Nat) (l:List Ex):lowL m (B3 l)=true:=Am (Nat.zero_le m) _ (Gr l)
theorem Te:Bg zP 86 4=true:=by kernel_rfl
theorem Mq (e:Ex):([.int .i64 e.kd,.int .i64 e.nn,.str e.nm,e.ar]:List AV).all AV.one=true:=by cases e<;>rfl
def FH (a:List Ex):AV:=if a=[] then .nilSlice else .slice (.tok 3) 4 a.length (B3 a)
def Dy (ts:List Wd) (s:List UInt8) (a:List Ex) (r:St):AH:=[some (.box (r.cells ts)),some (.box (exC .none)),some (.box [.int .i64 3,.int .i64 0,.str s,FH a])]++(if a=[] then [] else [some (.tok a.length)])
def fD (ts:List Wd) (sum:Rd) (n:Nat) (s:List UInt8) (res:List Ex × St) (k:Nat) (t:List AV) (H:AH):Prop :=∃(a:List Ex) (r:St),DG ts sum k a r=res∧k+a.length=6∧a.length≤4∧(a.length=4→r.err.isSome=true)∧ts.length-r.at_<n∧r.deep≤20∧t=mkT 58 [(0,.ptr 0 0),(2,.ptr 1 0),(3,.ptr 2 0)]∧H=Dy ts s a r
structure Tf (O:Orc) (ts:List Wd) (sum:Rd) (n:Nat):Prop where
 fail:∀(a d:Int) (x:Option (Nat × Nat)) (p e:Int) (H:AH),0≤a→0≤d→0≤p→0≤e→O 135 [.ptr 0 0,.int .i64 p,.int .i64 e] (some (.box [AE ts,.int .i64 a,.int .i64 d,eAV x])::H) =
  some (.tup [],some (.box [AE ts,.int .i64 a,.int .i64 d,eAV (some (x.getD (p.toNat,e.toNat)))])::H)
 next:∀(a d:Int) (x:Option (Nat × Nat)) (s:List UInt8) (H:AH),0≤a→0≤d→O 134 [.ptr 0 0,.str s] (some (.box [AE ts,.int .i64 a,.int .i64 d,eAV x])::H) =
  some (.bool (Aa ts ⟨a.toNat,d.toNat,x⟩ s),some (.box [AE ts,.int .i64 a,.int .i64 d,eAV x])::H)
 takesT:∀(a d:Int) (x:Option (Nat × Nat)) (s:List UInt8) (H:AH),0≤a→0≤d→Aa ts ⟨a.toNat,d.toNat,x⟩ s=true →
  O 157 [.ptr 0 0,.str s] (some (.box [AE ts,.int .i64 a,.int .i64 d,eAV x])::H)=some (.bool true,some (.box [AE ts,.int .i64 (a+1),.int .i64 d,eAV x])::H)
 takesF:∀(a d:Int) (x:Option (Nat × Nat)) (s:List UInt8) (H:AH),0≤a→0≤d→Aa ts ⟨a.toNat,d.toNat,x⟩ s=false →
  O 157 [.ptr 0 0,.str s] (some (.box [AE ts,.int .i64 a,.int .i64 d,eAV x])::H)=some (.bool false,some (.box [AE ts,.int .i64 a,.int .i64 d,eAV x])::H)
 must:∀(a d:Int) (x:Option (Nat × Nat)) (s:List UInt8) (H:AH),0≤a→0≤d→O 159 [.ptr 0 0,.str s] (some (.box [AE ts,.int .i64 a,.int .i64 d,eAV x])::H) =
  some (.tup [],some (.box ((CF ts ⟨a.toNat,d.toNat,x⟩ s).cells ts))::H)
 sum:Ans O ts 132 sum n
theorem fE (ts:List Wd) (oK:ts.length<1000000) {O:Orc} (X:Cx O zP Af) {sum:Rd} {n:Nat} (hO:Tf O ts sum n) (hu:upw sum) (hd:∀r,(sum r).2.deep=r.deep) (hk:MR sum)
  (w:Wd) (r:St) (he:r.err=none) (hw:ts[r.at_]? = some w) (hr:r.deep≤20) (hn:ts.length-r.at_<n+1) {H:AH} {id:Nat} (hH:H.at id=some (.box (r.cells ts))) :
  CS zP Af 156 [.ptr id 0] H (CH (EJ ts sum w.text r).1) (H.set id (some (.box ((EJ ts sum w.text r).2.cells ts)))):=by
 refine CS.rd DB Tryz.func156 (by kernel_rfl) 0 (by simp [Tryz.f156]) (fun B hB hG => ?_) rfl (by simp) (St.cells_low ts r) (St.cells_low ts _) hH;obtain ⟨a,d,x⟩:=r;simp only at he hw hr hn;subst he;have hl:a<ts.length:=(List.getElem?_eq_some_iff.1 hw).1;have hl':(a:Int)<ts.length:=by omega
 obtain ⟨c0,c1,c3⟩:=EM hw;have w1:IntKind.i64.wrap ((a:Int)+1)=(a:Int)+1:=Ab (by omega) (by omega);have h0:0≤(a:Int)+1:=by omega
 refine Tr.goD X hG ?_;simp [Tryz.f156,St.cells];refine LpD.turns X hG [12,13] [(0,12),(1,12),(2,12),(3,12),(4,12),(5,12),(6,12),(7,12),(8,12),(9,12),(10,12),(11,12)] ?_;cases ho:Aa ts ⟨a+1,d,none⟩ Av with
 |false =>
  have h1:EJ ts sum w.text ⟨a,d,none⟩=(.var w.text,⟨a+1,d,none⟩):=by simp [EJ,St.step,ho]
  have h2:=fun H=>hO.takesF ((a:Int)+1) d none Av H h0 (by omega) (by simpa using ho)
  simp [Av] at h2;simp [hl,hl',c1,w1,h2,h1]
 |true =>
  have h2:=fun H=>hO.takesT ((a:Int)+1) d none Av H h0 (by omega) (by simpa using ho)
  simp [Av] at h2;have oh:a+1<ts.length:=Ew ho;have h1:EJ ts sum w.text ⟨a,d,none⟩=(.elem w.text (DG ts sum 6 [] ⟨a+1+1,d,none⟩).1,CF ts (DG ts sum 6 [] ⟨a+1+1,d,none⟩).2 Aw):=by simp [EJ,St.step,ho]
  simp [hl,hl',c1,w1,h2,h1];generalize sB:DG ts sum 6 [] ⟨a+1+1,d,none⟩=res
  refine LpD.loopN X hG (fD ts sum n w.text res) 6 (t':=mkT 58 [(0,.ptr 0 0),(2,.ptr 1 0),(3,.ptr 2 0)]) (H':=Dy ts w.text [] ⟨a+1+1,d,none⟩)
   (AD.mkK 3 (by simp [hB]) (by simp) (by simp [Dy,FH,St.cells]) (by simp [Dy,FH,St.cells])) ⟨[],⟨a+1+1,d,none⟩,sB,rfl,by simp,by simp,by simp only;omega,hr,rfl,rfl⟩ ?_
  rintro k t H ⟨a',r',oM,tG,oO,h4,hm,pi,rfl,rfl⟩;obtain ⟨b,d',x⟩:=r';simp only at h4 hm pi;have uK:(d':Int)≤20:=by omega
  have hs:=fun H=>hO.sum b d' x H (by omega) (by omega) uK (by simpa using hm)
  have ur:=hu ⟨b,d',x⟩;have pw:=hd ⟨b,d',x⟩;have rR:=hk ⟨b,d',x⟩;simp only at ur pw rR;cases k with
  |zero =>omega
  |succ k =>
  have s9:DG ts sum (k+1) a' ⟨b,d',x⟩=if Aa ts (sum ⟨b,d',x⟩).2 A4 then DG ts sum k (a'++[(sum ⟨b,d',x⟩).1]) (if a'.length+1==4 then (sum ⟨b,d',x⟩).2.fail (sum ⟨b,d',x⟩).2.at_ 4 else (sum ⟨b,d',x⟩).2).step else (a'++[(sum ⟨b,d',x⟩).1],(sum ⟨b,d',x⟩).2):=rfl
  rw [s9] at oM;simp only [Int.toNat_natCast] at hs;generalize sum ⟨b,d',x⟩=p at *;obtain ⟨e,⟨b2,d2,x2⟩⟩:=p;simp only at ur pw rR oM;subst pw;have xZ:=fun H=>F9 (P:=zP) (t:=86) (sz:=4) (m:=1) (H:=H) (fid:=3) (ow := .full) Te (by decide) (by decide) (Mq e)
  have vo:=fun H (h:AH.at H 3=some (.tok a'.length))=>EZ (P:=zP) (t:=86) (sz:=4) (m:=1) (H:=H) (fid:=4) (ow := .full) (xs:=B3 a') Te h (by decide) (by omega) (Mq e)
  simp [St.cells] at hs;cases hc:Aa ts ⟨b2,d2,x2⟩ A4 with
  |false =>
   rw [hc] at oM;simp only [Bool.false_eq_true,if_false] at oM;subst oM;have qf:=fun H=>hO.must b2 d2 x2 Aw H (by omega) (by omega)
   have oL:=fun H=>hO.next b2 d2 x2 A4 H (by omega) (by omega)
   simp [Aw,St.cells] at qf;simp [A4] at oL;have hc':=hc;simp [A4] at hc'
   by_cases ha:a'=[]
   ·subst ha
    simp [Dy,FH,St.cells];refine LpD.turns X hG [3,5,7] [(0,3),(1,3)] ?_;simp [hs,xZ,oL,hc',Bo,qf,Aw,B3]
   ·have oU:a'.length≠0:=fun h=>ha (List.eq_nil_of_length_eq_zero h)
    simp [Dy,FH,St.cells,ha];refine LpD.turns X hG [3,5,7] [(0,3),(1,3)] ?_;simp [hs,vo,oL,hc',Bo,qf,Aw,B3,HM,Gr]
  |true =>
   have oW:b2<ts.length:=Ew hc
   obtain rfl:x2=none:=by
    cases x2 with
    |none=>rfl
    |some y=>simp [Aa] at hc
   have h3:a'.length≤3:=by
    rcases Nat.lt_or_ge a'.length 4 with h|h
    ·omega
    ·have:=h4 (by omega)
     cases x with
     |none=>cases this
     |some y=>have:=rR y rfl;cases this
   have w5:IntKind.i64.wrap ((b2:Int)+1)=(b2:Int)+1:=Ab (by omega) (by omega);rw [hc] at oM;simp only [if_true] at oM;have oL:=fun H=>hO.next b2 d2 none A4 H (by omega) (by omega)
   simp [A4] at oL;have hc':=hc;simp [A4] at hc'
   by_cases ha:a'=[]
   ·subst ha
    simp [Dy,FH,St.cells];refine LpD.turns X hG [3,5,7] [(0,3),(1,3)] ?_;simp [hs,xZ,oL,hc',w5,B3]
    refine Nxt.mk k (by omega) (AD.mkK 4 (l':=[(0,.ptr 0 0),(2,.ptr 1 0),(3,.ptr 2 0)]) (H':=Dy ts w.text [e] ⟨b2+1,d2,none⟩) (by simp [hB]) (by simp) (by simp [Dy,FH,St.cells,B3]) (by simp [Dy,FH,St.cells,B3]))
     ⟨[e],⟨b2+1,d2,none⟩,?_,?_,by simp,by simp,?_,pi,rfl,rfl⟩
    ·rw [←oM];simp [St.step]
    ·simp only [List.length_cons,List.length_nil] at tG ⊢;omega
    ·simp only;omega
   ·have oU:a'.length≠0:=fun h=>ha (List.eq_nil_of_length_eq_zero h)
    by_cases hf:a'.length+1=4
    ·have hf':((a'.length:Int)+1=4):=by omega
     have rM:a'.length=3:=by omega
     have oc:=fun H=>hO.fail b2 d2 none b2 4 H (by omega) (by omega) (by omega) (by omega)
     simp at oc;simp [Dy,FH,St.cells,ha];refine LpD.turns X hG [3,5,7] [(0,3),(1,3)] ?_;simp [hs,vo,oL,hc',w5,B3,HM,hf',oc,Gr]
     refine Nxt.mk k (by omega) (AD.mkK 4 (l':=[(0,.ptr 0 0),(2,.ptr 1 0),(3,.ptr 2 0)]) (H':=Dy ts w.text (a'++[e]) ⟨b2+1,d2,some (b2,4)⟩) (by simp [hB]) (by simp) (by simp [Dy,FH,St.cells,B3,HM]) (by simp [Dy,FH,St.cells,B3,HM,Gr]))
      ⟨a'++[e],⟨b2+1,d2,some (b2,4)⟩,?_,?_,?_,by simp,?_,pi,rfl,rfl⟩
     ·rw [←oM];simp [St.step,rM,HN]
     ·simp only [List.length_append,List.length_cons,List.length_nil] at tG ⊢;omega
     ·simp only [List.length_append,List.length_cons,List.length_nil];omega
     ·simp only;omega
    ·have hf':¬((a'.length:Int)+1=4):=by omega
     have rM:¬a'.length=3:=by omega
     simp [Dy,FH,St.cells,ha];refine LpD.turns X hG [3,5,7] [(0,3),(1,3)] ?_;simp [hs,vo,oL,hc',w5,B3,HM,hf',Gr]
     refine Nxt.mk k (by omega) (AD.mkK 4 (l':=[(0,.ptr 0 0),(2,.ptr 1 0),(3,.ptr 2 0)]) (H':=Dy ts w.text (a'++[e]) ⟨b2+1,d2,none⟩) (by simp [hB]) (by simp) (by simp [Dy,FH,St.cells,B3,HM]) (by simp [Dy,FH,St.cells,B3,HM,Gr]))
      ⟨a'++[e],⟨b2+1,d2,none⟩,?_,?_,?_,?_,?_,pi,rfl,rfl⟩
     ·rw [←oM];simp [St.step,rM]
     ·simp only [List.length_append,List.length_cons,List.length_nil] at tG ⊢;omega
     ·simp only [List.length_append,List.length_cons,List.length_nil];omega
     ·simp only [List.length_append,List.length_cons,List.length_nil];omega
     ·simp only;omega
structure Tg (O:Orc) (ts:List Wd) (n:Nat):Prop where
 fail:∀(a d:Int) (x:Option (Nat × Nat)) (p e:Int) (H:AH),0≤a→0≤d→0≤p→0≤e→O 135 [.ptr 0 0,.int .i64 p,.int .i64 e] (some (.box [AE ts,.int .i64 a,.int .i64 d,eAV x])::H) =
  some (.tup [],some (.box [AE ts,.int .i64 a,.int .i64 d,eAV (some (x.getD (p.toNat,e.toNat)))])::H)
 takesT:∀(a d:Int) (x:Option (Nat × Nat)) (s:List UInt8) (H:AH),0≤a→0≤d→Aa ts ⟨a.toNat,d.toNat,x⟩ s=true →
  O 157 [.ptr 0 0,.str s] (some (.box [AE ts,.int .i64 a,.int .i64 d,eAV x])::H)=some (.bool true,some (.box [AE ts,.int .i64 (a+1),.int .i64 d,eAV x])::H)
 takesF:∀(a d:Int) (x:Option (Nat × Nat)) (s:List UInt8) (H:AH),0≤a→0≤d→Aa ts ⟨a.toNat,d.toNat,x⟩ s=false →
  O 157 [.ptr 0 0,.str s] (some (.box [AE ts,.int .i64 a,.int .i64 d,eAV x])::H)=some (.bool false,some (.box [AE ts,.int .i64 a,.int .i64 d,eAV x])::H)
 must:∀(a d:Int) (x:Option (Nat × Nat)) (s:List UInt8) (H:AH),0≤a→0≤d→O 159 [.ptr 0 0,.str s] (some (.box [AE ts,.int .i64 a,.int .i64 d,eAV x])::H) =
  some (.tup [],some (.box ((CF ts ⟨a.toNat,d.toNat,x⟩ s).cells ts))::H)
 name:∀(a d:Int) (w:Wd) (H:AH),0≤a→0≤d→d≤20→ts[a.toNat]? = some w→ts.length-a.toNat<n+1→O 156 [.ptr 0 0] (some (.box [AE ts,.int .i64 a,.int .i64 d,eAV none])::H) =
  some (CH (EJ ts (CM ts (fac ts n)) w.text ⟨a.toNat,d.toNat,none⟩).1,some (.box ((EJ ts (CM ts (fac ts n)) w.text ⟨a.toNat,d.toNat,none⟩).2.cells ts))::H)
 inFac:∀(a d p:Int) (x:Option (Nat × Nat)) (H:AH),0≤a→0≤d→d≤20→0≤p→ts.length-a.toNat<n→O 158 [.ptr 0 0,.int .i64 p,.func (.func 152) [.ptr 0 0] []] (some (.box [AE ts,.int .i64 a,.int .i64 d,eAV x])::H) =
  some (CH (inF p.toNat (fac ts n) ⟨a.toNat,d.toNat,x⟩).1,some (.box ((inF p.toNat (fac ts n) ⟨a.toNat,d.toNat,x⟩).2.cells ts))::H)
 inSum:∀(a d p:Int) (x:Option (Nat × Nat)) (H:AH),0≤a→0≤d→d≤20→0≤p→ts.length-a.toNat<n→O 158 [.ptr 0 0,.int .i64 p,.func (.func 132) [.ptr 0 0] []] (some (.box [AE ts,.int .i64 a,.int .i64 d,eAV x])::H) =
  some (CH (inF p.toNat (CM ts (fac ts n)) ⟨a.toNat,d.toNat,x⟩).1,some (.box ((inF p.toNat (CM ts (fac ts n)) ⟨a.toNat,d.toNat,x⟩).2.cells ts))::H)
theorem fF (ts:List Wd) (oK:ts.length<1000000) {n:Nat} {O:Orc} (X:Cx O zP Af) (hO:Tg O ts n) (r:St) (hr:r.deep≤20) (hn:ts.length-r.at_<n+1) {H:AH} {id:Nat} (hH:H.at id=some (.box (r.cells ts))) :
  CS zP Af 152 [.ptr id 0] H (CH (fac ts (n+1) r).1) (H.set id (some (.box ((fac ts (n+1) r).2.cells ts)))):=by
 refine CS.rd DB Tryz.func152 (by kernel_rfl) 0 (by simp [Tryz.f152]) (fun B hB hG => ?_) rfl (by simp) (St.cells_low ts r) (St.cells_low ts _) hH;obtain ⟨a,d,x⟩:=r;simp only at hr hn;have hr':(d:Int)≤20:=by omega
 have vp:fac ts (n+1) ⟨a,d,x⟩=Cl ts (CM ts (fac ts n)) (fac ts n) ⟨a,d,x⟩:=rfl;rw [vp];have oc:=fun H=>hO.fail a d x a 2 H (by omega) (by omega) (by omega) (by omega)
 simp at oc;refine Tr.goD X hG ?_;simp [Tryz.f152,St.cells];refine LpD.turns X hG [] [] ?_;cases x with
 |some y =>
  have h1:Cl ts (CM ts (fac ts n)) (fac ts n) ⟨a,d,some y⟩=(.none,⟨a,d,some y⟩):=by simp [Cl,St.fail]
  simp [h1,oc]
 |none =>
  by_cases hl:a<ts.length
  ·have hl':(a:Int)<ts.length:=by omega
   have oh:¬((ts.length:Int)≤a):=by omega
   obtain ⟨w,hw⟩:∃w,ts[a]? = some w:=⟨_,List.getElem?_eq_getElem hl⟩
   obtain ⟨c0,c1,c3⟩:=EM hw;obtain ⟨cc1,cc2⟩:=KN ts a w hw;have w1:IntKind.i64.wrap ((a:Int)+1)=(a:Int)+1:=Ab (by omega) (by omega);simp [hl,hl',oh];refine LpD.turns X hG [14,16] [(0,14),(1,14),(2,14),(3,14),(4,14),(5,14),(6,14),(7,14),(8,14),(9,14),(10,14),(11,14),(12,14),(13,14)] ?_;simp [hl,hl',cc1,cc2,BA]
   by_cases pm:w.kind=2
   ·have e2:(w.kind:Int)=2:=by omega
    have h1:Cl ts (CM ts (fac ts n)) (fac ts n) ⟨a,d,none⟩=(.num w.n,⟨a+1,d,none⟩):=by simp only [Cl,hw,pm];rfl
    simp [e2,w1,h1]
   ·have e2:¬(w.kind:Int)=2:=by omega
    have b2:(w.kind==2)=false:=by rw [beq_eq_false_iff_ne];exact pm
    by_cases hk1:w.kind=1
    ·have e1:(w.kind:Int)=1:=by omega
     have h1:Cl ts (CM ts (fac ts n)) (fac ts n) ⟨a,d,none⟩=EJ ts (CM ts (fac ts n)) w.text ⟨a,d,none⟩:=by simp only [Cl,hw,hk1];rfl
     have sC:=fun H=>hO.name a d w H (by omega) (by omega) hr' (by simpa using hw) (by simpa using hn)
     simp [St.cells] at sC;simp [e1,sC,h1]
    ·have e1:¬(w.kind:Int)=1:=by omega
     have b1:(w.kind==1)=false:=by rw [beq_eq_false_iff_ne];exact hk1
     have nx:∀s,Aa ts ⟨a,d,none⟩ s=isS ts a s:=fun s=>by simp [Aa]
     have qV:ts.length-(a+1)<n:=by omega
     have h0:0≤(a:Int)+1:=by omega
     cases qC:isS ts a Bb with
     |true =>
      have h1:Cl ts (CM ts (fac ts n)) (fac ts n) ⟨a,d,none⟩=(.neg (inF a (fac ts n) ⟨a+1,d,none⟩).1,(inF a (fac ts n) ⟨a+1,d,none⟩).2):=by simp only [Cl,hw,b2,b1,qC];rfl
      have ht:=fun H=>hO.takesT a d none Bb H (by omega) (by omega) (by simp [nx,qC])
      have hi:=fun H=>hO.inFac ((a:Int)+1) d a none H h0 (by omega) hr' (by omega) (by simpa using qV)
      simp [Bb] at ht;simp [St.cells] at hi;simp [e2,e1,ht,hi,h1]
     |false =>
      have ht:=fun H=>hO.takesF a d none Bb H (by omega) (by omega) (by simp [nx,qC])
      simp [Bb] at ht;cases oz:isS ts a Av with
      |true =>
       have h1:Cl ts (CM ts (fac ts n)) (fac ts n) ⟨a,d,none⟩=((inF a (CM ts (fac ts n)) ⟨a+1,d,none⟩).1,CF ts (inF a (CM ts (fac ts n)) ⟨a+1,d,none⟩).2 Aw):=by simp only [Cl,hw,b2,b1,qC,oz];rfl
       have qx:=fun H=>hO.takesT a d none Av H (by omega) (by omega) (by simp [nx,oz])
       have hi:=fun H=>hO.inSum ((a:Int)+1) d a none H h0 (by omega) hr' (by omega) (by simpa using qV)
       simp [Av] at qx;simp [St.cells] at hi;rw [h1];generalize inF a (CM ts (fac ts n)) ⟨a+1,d,none⟩=p at *;obtain ⟨e,⟨a2,d2,x2⟩⟩:=p;have qf:=fun H=>hO.must a2 d2 x2 Aw H (by omega) (by omega)
       simp [Aw,St.cells] at qf;simp only at hi;simp [e2,e1,ht,qx,hi,qf,Aw]
      |false =>
       have h1:Cl ts (CM ts (fac ts n)) (fac ts n) ⟨a,d,none⟩=(.none,⟨a,d,some (a,2)⟩):=by simp only [Cl,hw,b2,b1,qC,oz];rfl
       have qx:=fun H=>hO.takesF a d none Av H (by omega) (by omega) (by simp [nx,oz])
       simp [Av] at qx;simp [e2,e1,ht,qx,oc,h1]
  ·have hw:ts[a]? = none:=List.getElem?_eq_none (by omega)
   have hl':¬(a:Int)<ts.length:=by omega
   have oh:((ts.length:Int)≤a):=by omega
   have h1:Cl ts (CM ts (fac ts n)) (fac ts n) ⟨a,d,none⟩=(.none,⟨a,d,some (a,2)⟩):=by simp only [Cl,hw];rfl
   simp [h1,oc,hl',oh]
theorem Ti {ts:List Wd} {a d:Int} {x:Option (Nat × Nat)} (s:List UInt8) (H:AH) (ha:0≤a) (hd:0≤d) :
  oRd ts 159 (KQ ts) 159 [.ptr 0 0,.str s] (some (.box [AE ts,.int .i64 a,.int .i64 d,eAV x])::H)=some (.tup [],some (.box ((CF ts ⟨a.toNat,d.toNat,x⟩ s).cells ts))::H):=by
 rw [Ht (HO ha hd)];simp [KQ]
noncomputable def oNm (ts:List Wd) (n:Nat):Orc:=Ay [(135,oRd ts 135 Fq),(134,oRd ts 134 (Ed ts)),
 (157,oRd ts 157 (Dj ts)),(159,oRd ts 159 (KQ ts)),
 (132,oRd ts 132 (Gs ts (CM ts (fac ts n)) n))]
theorem fG {ts:List Wd} (oK:ts.length<1000000) {n:Nat} (h:DZ ts 132 (CM ts (fac ts n)) n):Cx (oNm ts n) zP Af:=⟨FB (by
 intro p hp;simp only [List.mem_cons,List.not_mem_nil,or_false] at hp;rcases hp with rfl|rfl|rfl|rfl|rfl
 ·exact KP ts
 ·exact Mj ts
 ·exact PJ ts oK
 ·exact TV ts oK
 ·exact h),Dh,Ad⟩
theorem fH (ts:List Wd) (n:Nat):Tf (oNm ts n) ts (CM ts (fac ts n)) n where
 fail:=fun a d x p e H ha hd hp he=>by rw [←LD p e H ha hd hp he];simp [oNm,Ay,List.lookup]
 next:=fun a d x s H ha hd=>by rw [←Mk s H ha hd];simp [oNm,Ay,List.lookup]
 takesT:=fun a d x s H ha hd hn=>by rw [←PK s H ha hd hn];simp [oNm,Ay,List.lookup]
 takesF:=fun a d x s H ha hd hn=>by rw [←PL s H ha hd hn];simp [oNm,Ay,List.lookup]
 must:=fun a d x s H ha hd=>by rw [←Ti s H ha hd];simp [oNm,Ay,List.lookup]
 sum:=fun a d x H ha hd ob hm=>by rw [←PP (g:=132) (of:=CM ts (fac ts n)) (n:=n) a d x H ha hd ob hm];simp [oNm,Ay,List.lookup]
def LF (ts:List Wd) (n:Nat) (rest:List AV) (r:St):Option (AV × St):=match rest,r.err,ts[r.at_]? with
 |[],none,some w=>if r.deep≤20∧ts.length-r.at_<n+1 then some (CH (EJ ts (CM ts (fac ts n)) w.text r).1,(EJ ts (CM ts (fac ts n)) w.text r).2) else none
 |_,_,_=>none
theorem fJ {ts:List Wd} (oK:ts.length<1000000) {n:Nat} (h:DZ ts 132 (CM ts (fac ts n)) n):AT zP Af (oRd ts 156 (LF ts n)):=KO fun rest r v r' hs H id hH=>by
 unfold LF at hs
 split at hs
 ·rename_i w he hw
  split at hs
  ·rename_i hc
   injection hs with hs;simp only [Prod.mk.injEq] at hs;obtain ⟨rfl,rfl⟩:=hs;exact fE ts oK (fG oK h) (fH ts n) (ey ts n) (PN ts n) (IU (ts:=ts) (FG ts n)).2.1 w r he hw hc.1 hc.2 hH
  ·cases hs
 ·cases hs
noncomputable def oFG (ts:List Wd) (g:FuncId) (of:Rd) (n:Nat):Orc:=orElse (oRd ts 135 Fq) (oRd ts g (Gs ts of n))
theorem Tj {ts:List Wd} {g:FuncId} {of:Rd} {n:Nat} (h:DZ ts g of n) (oL:g≠135) (hg:AG zP g=true) (hd:∀r,(of r).2.deep=r.deep) (p:Nat) (r:St) (hr:r.deep≤20) (hn:ts.length-r.at_<n) {H:AH} {id:Nat} (hH:H.at id=some (.box (r.cells ts))) :
  CS zP Af 158 [.ptr id 0,.int .i64 p,.func (.func g) [.ptr id 0] []] H (CH (inF p of r).1) (H.set id (some (.box ((inF p of r).2.cells ts)))):=by
 have X:Cx (oFG ts g of n) zP Af:=⟨AT.orElse (KP ts) h,Dh,Ad⟩
 refine fC ts X (fun a d x p e H ha hd hp he => ?_) hg (n:=n) (fun a d x H ha hd ob hm => ?_) hd p r hr hn hH
 ·simp only [oFG,orElse,LD p e H ha hd hp he]
 ·have h1:oRd ts 135 Fq g [.ptr 0 0] (some (.box [AE ts,.int .i64 a,.int .i64 d,eAV x])::H)=none:=by simp [oRd,oL]
  simp only [oFG,orElse,h1,PP (g:=g) (of:=of) (n:=n) a d x H ha hd ob hm]
def JQ (ts:List Wd) (n:Nat) (id:Nat) (rest:List AV) (r:St):Option (AV × St):=match rest with
 |[.int .i64 p,.func (.func g) [.ptr id' 0] []] =>
  if id'=id∧0≤p∧r.deep≤20∧ts.length-r.at_<n then
   (if g=152 then some (CH (inF p.toNat (fac ts n) r).1,(inF p.toNat (fac ts n) r).2)
   else if g=132 then some (CH (inF p.toNat (CM ts (fac ts n)) r).1,(inF p.toNat (CM ts (fac ts n)) r).2) else none)
  else none
 |_=>none
theorem fK {ts:List Wd} {n:Nat} (hf:DZ ts 152 (fac ts n) n) (hs:DZ ts 132 (CM ts (fac ts n)) n):AT zP Af (GF ts 158 (JQ ts n)):=Ta fun id rest r v r' hq H hH=>by
 unfold JQ at hq
 split at hq
 ·rename_i p g id'
  split at hq
  ·rename_i hc
   obtain ⟨rfl,h1,h2,h3⟩:=hc
   split at hq
   ·rename_i hg
    subst hg;injection hq with hq;simp only [Prod.mk.injEq] at hq;obtain ⟨rfl,rfl⟩:=hq;have:=Tj hf (by decide) Tx.go152 (TY ts n) p.toNat r h2 h3 hH
    rwa [Int.toNat_of_nonneg h1] at this
   ·split at hq
    ·rename_i hg
     subst hg;injection hq with hq;simp only [Prod.mk.injEq] at hq;obtain ⟨rfl,rfl⟩:=hq;have:=Tj hs (by decide) Tx.go132 (PN ts n) p.toNat r h2 h3 hH
     rwa [Int.toNat_of_nonneg h1] at this
    ·cases hq
  ·cases hq
 ·cases hq
noncomputable def oFc (ts:List Wd) (n:Nat):Orc:=Ay [(135,oRd ts 135 Fq),(157,oRd ts 157 (Dj ts)),
 (159,oRd ts 159 (KQ ts)),(156,oRd ts 156 (LF ts n)),(158,GF ts 158 (JQ ts n))]
theorem fL {ts:List Wd} (oK:ts.length<1000000) {n:Nat} (hf:DZ ts 152 (fac ts n) n):Cx (oFc ts n) zP Af:=⟨FB (by
 have hs:=Td oK hf;intro p hp;simp only [List.mem_cons,List.not_mem_nil,or_false] at hp;rcases hp with rfl|rfl|rfl|rfl|rfl
 ·exact KP ts
 ·exact PJ ts oK
 ·exact TV ts oK
 ·exact fJ oK hs
 ·exact fK hf hs),Dh,Ad⟩
theorem fM (ts:List Wd) (n:Nat):Tg (oFc ts n) ts n where
 fail:=fun a d x p e H ha hd hp he=>by rw [←LD p e H ha hd hp he];simp [oFc,Ay,List.lookup]
 takesT:=fun a d x s H ha hd hn=>by rw [←PK s H ha hd hn];simp [oFc,Ay,List.lookup]
 takesF:=fun a d x s H ha hd hn=>by rw [←PL s H ha hd hn];simp [oFc,Ay,List.lookup]
 must:=fun a d x s H ha hd=>by rw [←Ti s H ha hd];simp [oFc,Ay,List.lookup]
 name:=fun a d w H ha hd ob hw hm=>by
  have e1:oFc ts n 156 [.ptr 0 0] (some (.box [AE ts,.int .i64 a,.int .i64 d,eAV none])::H)=oRd ts 156 (LF ts n) 156 [.ptr 0 0] (some (.box [AE ts,.int .i64 a,.int .i64 d,eAV none])::H):=by simp [oFc,Ay,List.lookup]
  rw [e1,Ht (HO ha hd)];have h1:d.toNat≤20:=by omega
  simp only [LF,hw,if_pos (And.intro h1 hm),Option.map_some,List.set_cons_zero]
 inFac:=fun a d p x H ha hd ob hp hm=>by
  have e1:oFc ts n 158 [.ptr 0 0,.int .i64 p,.func (.func 152) [.ptr 0 0] []] (some (.box [AE ts,.int .i64 a,.int .i64 d,eAV x])::H)=GF ts 158 (JQ ts n) 158 [.ptr 0 0,.int .i64 p,.func (.func 152) [.ptr 0 0] []] (some (.box [AE ts,.int .i64 a,.int .i64 d,eAV x])::H):=by simp [oFc,Ay,List.lookup]
  rw [e1,PO (HO ha hd)];have h1:d.toNat≤20:=by omega
  simp only [JQ,if_pos (show (True∧0≤p∧d.toNat≤20∧ts.length-a.toNat<n) from ⟨trivial,hp,h1,hm⟩),if_true,Option.map_some,List.set_cons_zero]
 inSum:=fun a d p x H ha hd ob hp hm=>by
  have e1:oFc ts n 158 [.ptr 0 0,.int .i64 p,.func (.func 132) [.ptr 0 0] []] (some (.box [AE ts,.int .i64 a,.int .i64 d,eAV x])::H)=GF ts 158 (JQ ts n) 158 [.ptr 0 0,.int .i64 p,.func (.func 132) [.ptr 0 0] []] (some (.box [AE ts,.int .i64 a,.int .i64 d,eAV x])::H):=by simp [oFc,Ay,List.lookup]
  rw [e1,PO (HO ha hd)];have h1:d.toNat≤20:=by omega
  have h2:¬(132=152):=by decide
  simp only [JQ,if_pos (show (True∧0≤p∧d.toNat≤20∧ts.length-a.toNat<n) from ⟨trivial,hp,h1,hm⟩),if_neg h2,if_true,Option.map_some,List.set_cons_zero]
theorem zX {ts:List Wd} (oK:ts.length<1000000):∀n,DZ ts 152 (fac ts n) n
 |0=>DZ.mk' fun r _ hn=>absurd hn (Nat.not_lt_zero _)
 |n+1=>DZ.mk' fun r hr hn H id hH=>fF ts oK (fL oK (zX oK n)) (fM ts n) r hr hn hH
theorem Tm {ts:List Wd} (oK:ts.length<1000000):DZ ts 132 (B6 ts) (ts.length+1):=Td oK (zX oK _)
theorem To {ts:List Wd} {a d:Int} {x:Option (Nat × Nat)} {e0:Option Ent} (H:AH) (ha:0≤a) (hd:0≤d) (ob:d≤20) :
  oRd ts 132 (Gs ts (B6 ts) (ts.length+1)) 132 [.ptr 1 0] (e0::some (.box [AE ts,.int .i64 a,.int .i64 d,eAV x])::H) =
   some (CH (B6 ts ⟨a.toNat,d.toNat,x⟩).1,e0::some (.box ((B6 ts ⟨a.toNat,d.toNat,x⟩).2.cells ts))::H):=by
 have h0:AH.at (e0::some (.box [AE ts,.int .i64 a,.int .i64 d,eAV x])::H) 1=some (.box ((⟨a.toNat,d.toNat,x⟩:St).cells ts)):=by simp [AH.at,St.cells,Int.toNat_of_nonneg ha,Int.toNat_of_nonneg hd]
 rw [Ht h0];have h1:d.toNat≤20:=by omega
 have h2:ts.length-a.toNat<ts.length+1:=by omega
 simp only [Gs,if_pos (And.intro h1 h2),Option.map_some,List.set_cons_succ,List.set_cons_zero]
@[simp] theorem buRd (ts:List Wd):Aq zP 250 [(0,AE ts)]=some (.agg [AE ts,.int .i64 0,.int .i64 0,.nilIface]):=by
 unfold AE
 split<;>kernel_rfl
theorem Mr:eAV none = .nilIface:=AS rfl
def LG (x:Ex × Nat × Option (Nat × Nat)):AV := .tup [CH x.1,.int .i64 x.2.1,eAV x.2.2]
theorem fN (ts:List Wd) (oK:ts.length<1000000) (H:AH):CS zP Af 123 [AE ts] H (LG (B0 ts)) H:=by
 have X:Cx (oRd ts 132 (Gs ts (B6 ts) (ts.length+1))) zP Af:=⟨Tm oK,Dh,Ad⟩
 refine CS.tr0 DB Tryz.func123 (by kernel_rfl) 0 (by simp [Tryz.f123]) (fun B hB hG => ?_) (by simp [LG]) (by simp) H;refine Tr.goD X hG ?_;have h1:=fun H e0=>To (ts:=ts) (a:=0) (d:=0) (x:=none) (e0:=e0) H (by omega) (by omega) (by omega)
 simp only [B0];simp [St.cells,Mr] at h1;generalize B6 ts ⟨0,0,none⟩=p at *;obtain ⟨e,⟨b,d,x⟩⟩:=p;simp only at h1;cases x with
 |none =>simp [Tryz.f123,h1];refine LpD.turns X hG [5] zL0 ?_;simp [LG,Mr]
 |some y =>simp [Tryz.f123,h1];refine LpD.turns X hG [5] zL0 ?_;simp [LG]
theorem cxN:Cx Bu zP AM:=⟨Fe,C4,Ad⟩
theorem fO (b:UInt8) (H:AH):CS zP AM 75 [.int .u8 (b.toNat:Int)] H (.bool (Bz b)) H:=by
 refine CS.run0 cxN Eb Tryz.func75 (by kernel_rfl) (by kernel_rfl) 0 (by simp [Tryz.f75]) ?_ rfl rfl H
 by_cases h1:(97:Int)≤(b.toNat:Int)
 ·have h3:97≤b.toNat:=by omega
  by_cases h2:(b.toNat:Int)≤122
  ·have h4:b.toNat≤122:=by omega
   simp [Tryz.f75,Bz,h1,h2,h3,h4]
  ·have h4:¬b.toNat≤122:=by omega
   simp [Tryz.f75,Bz,h1,h2,h3,h4]
 ·have h3:¬97≤b.toNat:=by omega
  simp [Tryz.f75,Bz,h1,h3]
theorem fP (b:UInt8) (H:AH):CS zP AM 78 [.int .u8 (b.toNat:Int)] H (.bool (A2 b)) H:=by
 refine CS.run0 cxN Eb Tryz.func78 (by kernel_rfl) (by kernel_rfl) 0 (by simp [Tryz.f78]) ?_ rfl rfl H
 by_cases h1:(48:Int)≤(b.toNat:Int)
 ·have h3:48≤b.toNat:=by omega
  by_cases h2:(b.toNat:Int)≤57
  ·have h4:b.toNat≤57:=by omega
   simp [Tryz.f78,A2,h1,h2,h3,h4]
  ·have h4:¬b.toNat≤57:=by omega
   simp [Tryz.f78,A2,h1,h2,h3,h4]
 ·have h3:¬48≤b.toNat:=by omega
  simp [Tryz.f78,A2,h1,h3]
def oRb:Orc:=Ay [(75,Fb 75 Bz),(78,Fb 78 A2)]
theorem PQ:AT zP AM oRb:=FB fun p hp=>by
 simp only [List.mem_cons,List.not_mem_nil,or_false] at hp;rcases hp with rfl|rfl
 ·exact Ju fO
 ·exact Ju fP
theorem Ms (b:UInt8) (H:AH):oRb 75 [.int .u8 (b.toNat:Int)] H=some (.bool (Bz b),H):=by simp [oRb,Ay,Jv]
theorem PR (b:UInt8) (H:AH):oRb 78 [.int .u8 (b.toNat:Int)] H=some (.bool (A2 b),H):=by simp [oRb,Ay,Jv]
theorem fQ (b:UInt8) (H:AH):CS zP AM 76 [.int .u8 (b.toNat:Int)] H (.bool (Bi b)) H:=by
 refine CS.run0 ⟨PQ,C4,Ad⟩ Eb Tryz.func76 (by kernel_rfl) (by kernel_rfl) 0 (by simp [Tryz.f76]) ?_ rfl rfl H;cases h1:Bz b
 ·cases h2:A2 b
  ·simp [Tryz.f76,Bi,h1,h2,Ms,PR]
   rw [Bool.eq_iff_iff];simp only [beq_iff_eq];omega
  ·simp [Tryz.f76,Bi,h1,h2,Ms,PR]
 ·simp [Tryz.f76,Bi,h1,Ms]
theorem fR (w:List UInt8) (p e:Int) (H:AH):CS zP AM 20 [.str w,.int .i64 p,.int .i64 e] H (.agg [.slice .full 2 1 [.str w,.int .i64 p],.int .i64 e]) H:=by
 have b1:Aq zP 108 [(0,.str w),(1,.int .i64 p)]=some (.agg [.str w,.int .i64 p]):=by kernel_rfl
 have b2:CK zP 26 1 [(0,.agg [.str w,.int .i64 p])]=some (.slice .full 2 1 [.str w,.int .i64 p]):=by kernel_rfl
 have b3:Aq zP 28 [(0,.slice .full 2 1 [.str w,.int .i64 p]),(1,.int .i64 e)]=some (.agg [.slice .full 2 1 [.str w,.int .i64 p],.int .i64 e]):=by kernel_rfl
 refine CS.run0 cxN Eb Tryz.func20 (by kernel_rfl) (by kernel_rfl) 0 (by simp [Tryz.f20]) ?_ rfl rfl H;simp [Tryz.f20,b1,b2,b3]
theorem fS (s:List UInt8) (i:Nat) (hi:i<s.length) (hs:s.length<Br) (H:AH):CS zP AM 80 [.str s,.int .i64 i] H (.int .i64 (CZ (s.drop i))) H:=by
 rw [Dx] at hs;refine CS.run0 cxN Eb Tryz.func80 (by kernel_rfl) (by kernel_rfl) 0 (by simp [Tryz.f80]) ?_ rfl rfl H;have hd:s.drop i=s[i]::s.drop (i+1):=List.drop_eq_getElem_cons hi;have w:IntKind.i64.wrap ((i:Int)+1)=(i:Int)+1:=Ab (by omega) (by omega);have ht:((i:Int)+1).toNat=i+1:=by omega
 have uM:(0:Int)≤(i:Int)+1:=by omega
 rw [hd];generalize hc:s[i]=c
 by_cases h:c.toNat=60∨c.toNat=62∨c.toNat=61∨c.toNat=47∨c.toNat=43∨c.toNat=45∨c.toNat=42∨c.toNat=40∨c.toNat=41∨c.toNat=44
 ·by_cases hl:i+1<s.length
  ·have hl':(i:Int)+1<s.length:=by omega
   have ob:s.drop (i+1)=s[i+1]::s.drop (i+1+1):=List.drop_eq_getElem_cons hl;rw [ob];generalize hd:s[i+1]=d
   by_cases he:d.toNat=61
   ·rcases h with h|h|h|h|h|h|h|h|h|h <;>
     simp [Tryz.f80,CZ,h,hc,hd,he,hl,hl',w,ht,uM,hi]
   ·have he':¬(d.toNat:Int)=61:=by omega
    rcases h with h|h|h|h|h|h|h|h|h|h <;>
     simp [Tryz.f80,CZ,h,hc,hd,he,he',hl,hl',w,ht,uM,hi]
  ·have hl':¬(i:Int)+1<s.length:=by omega
   have ob:s.drop (i+1)=[]:=List.drop_of_length_le (by omega);rw [ob]
   rcases h with h|h|h|h|h|h|h|h|h|h <;>
    simp [Tryz.f80,CZ,h,hc,hl,hl',w,ht,uM,hi]
 ·simp only [not_or] at h
  obtain ⟨a0,a1,a2,a3,a4,a5,a6,a7,a8,a9⟩:=h;have b0:¬(c.toNat:Int)=60:=by omega
  have b1:¬(c.toNat:Int)=62:=by omega
  have b2:¬(c.toNat:Int)=61:=by omega
  have b3:¬(c.toNat:Int)=47:=by omega
  have b4:¬(c.toNat:Int)=43:=by omega
  have b5:¬(c.toNat:Int)=45:=by omega
  have b6:¬(c.toNat:Int)=42:=by omega
  have b7:¬(c.toNat:Int)=40:=by omega
  have b8:¬(c.toNat:Int)=41:=by omega
  have b9:¬(c.toNat:Int)=44:=by omega
  by_cases hl:i+1<s.length
  ·have hl':(i:Int)+1<s.length:=by omega
   simp [Tryz.f80,CZ,hc,hl,hl',w,ht,uM,hi,a0,a1,a2,a3,a4,a5,a6,a7,a8,a9,b0,b1,b2,b3,b4,b5,b6,b7,b8,b9]
  ·have hl':¬(i:Int)+1<s.length:=by omega
   simp [Tryz.f80,CZ,hc,hl,hl',w,ht,uM,hi,a0,a1,a2,a3,a4,a5,a6,a7,a8,a9,b0,b1,b2,b3,b4,b5,b6,b7,b8,b9]
noncomputable def cK:Code:=Au Tryz.f77
noncomputable def JR:Code:=Cj 2 cK
noncomputable def LH:Code:=CY JR
noncomputable def Tp:Code:=A1 JR
noncomputable def Mt:Code:=A1 LH
noncomputable def PS:Code:=inC (inC Mt)
def Ib:AV := .slice .full 1 8 (GB.map .str)
theorem fT (s:List UInt8) (H:AH):CS zP AM 77 [.str s] H (.bool (C5 s)) H:=by
 have bs:CK zP 25 8 [(0,.str [105,110,116,101,103,101,114]),(1,.str [100,111]),(2,.str [101,110,100]),(3,.str [105,102]),(4,.str [116,104,101,110]),(5,.str [101,108,115,101]),(6,.str [114,101,97,100]),(7,.str [112,114,105,110,116])]=some Ib:=by kernel_rfl
 refine CS.tr0 Eb Tryz.func77 (by kernel_rfl) 0 (by simp [Tryz.f77]) (fun B hB hG => ?_) rfl rfl H;refine Tr.pre cxN hG 2 (R:=JR) rfl (by kernel_rfl) (by kernel_rfl) ?_;rw [DX];simp [Tryz.f77,bs];refine Tr.seqD (a:=LH) (b:=Tp) (by kernel_rfl) ?_;refine Tr.pre cxN hG 1 (R:=Mt) (by kernel_rfl) (by kernel_rfl) (by kernel_rfl) ?_;rw [DX];simp [LH,JR,cK,Tryz.f77];refine Tr.less (t':=mkT 18 [(0,.str s),(3,Ib),(4,.int .i64 ((0:Nat):Int))]) (H':=[]) (AD.mk0 hB ?_) ?_
 ·simp [Ib,GB]
 refine Tr.forD (a:=PS) (id:=0) (by kernel_rfl) (fun k t H=>∃i,i+k=8∧t=mkT 18 [(0,.str s),(3,Ib),(4,.int .i64 ((i:Nat):Int))]∧H=[]∧∀j<i,GB[j]? ≠ some s) 8 ⟨0,rfl,rfl,rfl,by simp⟩ ?_;rintro k t H ⟨i,oQ,rfl,rfl,hI⟩;refine Tr.run cxN hG (by kernel_rfl) ?_;rw [DX];cases k with
 |zero =>
  obtain rfl:i=8:=by omega
  have pf:C5 s=false:=by unfold C5;rw [←Bool.not_eq_true,List.contains_iff_mem];intro hm;obtain ⟨j,hj⟩:=List.mem_iff_getElem?.1 hm;have:j<8:=(List.getElem?_eq_some_iff.1 hj).1;exact hI j this hj
  simp [PS,Mt,LH,JR,cK,Tryz.f77,Ib,Bo];refine Tr.run cxN hG (by kernel_rfl) ?_;rw [DX];simp [Tp,JR,cK,Tryz.f77,pf]
 |succ k =>
  have h8:GB.length=8:=rfl;obtain ⟨x,hx⟩:∃x,GB[i]? = some x:=⟨_,List.getElem?_eq_getElem (by omega)⟩
  have hi:(i:Int)<8:=by omega
  have w:IntKind.i64.wrap ((i:Int)+1)=(i:Int)+1:=Ab (by omega) (by omega);simp [PS,Mt,LH,JR,cK,Tryz.f77,Ib,hi,hx];refine J0 (fun he => ?_) (fun he => ?_)
  ·subst he
   have yE:C5 x=true:=by unfold C5;rw [List.contains_iff_mem];exact List.mem_of_getElem? hx
   simp [MD,yE]
  ·simp [w]
   refine ⟨k,by omega,_,_,AD.mk0 (l':=[(0,.str s),(3,Ib),(4,.int .i64 ((i+1:Nat):Int))]) hB ?_,i+1,by omega,rfl,rfl,fun j hj => ?_⟩
   ·simp [Ib,GB]
   ·rcases Nat.lt_or_ge j i with h|h
    ·exact hI j h
    ·obtain rfl:j=i:=by omega
     rw [hx];intro h;injection h with h;exact he h
noncomputable def cN:Code:=Au Tryz.f79
noncomputable def JS:Code:=Cj 2 cN
noncomputable def loopN:Code:=CY JS
noncomputable def Tq:Code:=A1 JS
noncomputable def Mu:Code:=A1 loopN
noncomputable def PT:Code:=inC (inC Mu)
def Hu (s:List UInt8):AV:=if Ba s<9223372036854775808 then .tup [.int .i64 (Ba s),.bool true] else .tup [.int .i64 0,.bool false]
def NumI (s:List UInt8) (k:Nat) (t:List AV) (H:AH):Prop :=∃i n,i+k=s.length∧t=mkT 29 [(0,.str s),(4,.int .u64 ((n:Nat):Int)),(5,.int .i64 ((i:Nat):Int))]∧H=[]∧n=Ba (s.take i)∧n<9223372036854775808
theorem fU (s:List UInt8) (hd:Hp s) (hs:s.length<Br) (H:AH):CS zP AM 79 [.str s] H (Hu s) H:=by
 rw [Dx] at hs;refine CS.tr0 Eb Tryz.func79 (by kernel_rfl) 0 (by simp [Tryz.f79]) (fun B hB hG => ?_) (by unfold Hu;split<;>rfl) rfl H;refine Tr.pre cxN hG 2 (R:=JS) rfl (by kernel_rfl) (by kernel_rfl) ?_;rw [DX];simp [Tryz.f79];refine Tr.seqD (a:=loopN) (b:=Tq) (by kernel_rfl) ?_;refine Tr.pre cxN hG 1 (R:=Mu) (by kernel_rfl) (by kernel_rfl) (by kernel_rfl) ?_;rw [DX];simp [loopN,JS,cN,Tryz.f79];refine Tr.less (t':=mkT 29 [(0,.str s),(4,.int .u64 ((0:Nat):Int)),(5,.int .i64 ((0:Nat):Int))]) (H':=[]) (AD.mk0 hB ?_) ?_
 ·simp
 refine Tr.forD (a:=PT) (id:=0) (by kernel_rfl) (NumI s) s.length ⟨0,0,by omega,rfl,rfl,rfl,by omega⟩ ?_;rintro k t H ⟨i,n,oQ,rfl,rfl,hn,oX⟩;refine Tr.run cxN hG (by kernel_rfl) ?_;rw [DX];cases k with
 |zero =>
  obtain rfl:i=s.length:=by omega
  rw [List.take_length] at hn;have w:IntKind.i64.wrap (n:Int)=(n:Int):=Ab (by omega) (by omega);have hr:Hu s = .tup [.int .i64 n,.bool true]:=by rw [Hu,if_pos (by omega),hn]
  simp [PT,Mu,loopN,JS,cN,Tryz.f79,Bo];refine Tr.run cxN hG (by kernel_rfl) ?_;rw [DX];simp [Tq,JS,cN,Tryz.f79,w,hr]
 |succ k =>
  have hi:i<s.length:=by omega
  have hi':(i:Int)<s.length:=by omega
  have hc:=hd s[i] (List.getElem_mem hi);have oe:s.take (i+1)=s.take i++[s[i]]:=by rw [List.take_add_one,List.getElem?_eq_getElem hi];rfl
  have rJ:Ba (s.take (i+1))=10*n+(s[i].toNat-48):=by rw [oe,Oo,←hn]
  have oO:Ba (s.take (i+1))≤Ba s:=by
   have:=Sw (s.take (i+1)) (s.drop (i+1))
   rwa [List.take_append_drop] at this
  obtain ⟨d,r9⟩:∃d:Nat,d=s[i].toNat-48:=⟨_,rfl⟩
  have w1:IntKind.u8.wrap ((s[i].toNat:Int)-48)=(d:Int):=by simp [IntKind.wrap,IntKind.bits,IntKind.signed];omega
  have w2:IntKind.u64.wrap (d:Int)=(d:Int):=by simp [IntKind.wrap,IntKind.bits,IntKind.signed];omega
  have w3:IntKind.u64.wrap (9223372036854775807-(d:Int))=9223372036854775807-(d:Int):=by simp [IntKind.wrap,IntKind.bits,IntKind.signed];omega
  obtain ⟨q,hq⟩:∃q:Nat,q=(9223372036854775807-d) / 10:=⟨_,rfl⟩
  have w4:(9223372036854775807-(d:Int)).tdiv 10=(q:Int):=by rw [Int.tdiv_eq_ediv_of_nonneg (by omega)];omega
  have w5:IntKind.u64.wrap (q:Int)=(q:Int):=by simp [IntKind.wrap,IntKind.bits,IntKind.signed];omega
  have w9:IntKind.i64.wrap ((i:Int)+1)=(i:Int)+1:=Ab (by omega) (by omega);simp [PT,Mu,loopN,JS,cN,Tryz.f79,hi,hi',w1,w2,w3,w4,w5];refine J0 (fun he => ?_) (fun he => ?_)
  ·have hr:Hu s = .tup [.int .i64 0,.bool false]:=by rw [Hu,if_neg (by omega)]
   simp [MD,hr]
  ·have w6:IntKind.u64.wrap (10*(n:Int))=10*(n:Int):=by simp [IntKind.wrap,IntKind.bits,IntKind.signed];omega
   have w7:IntKind.u64.wrap (10*(n:Int)+(d:Int))=10*(n:Int)+(d:Int):=by simp [IntKind.wrap,IntKind.bits,IntKind.signed];omega
   simp [w6,w7,w9];refine ⟨k,by omega,_,_,AD.mk0 (l':=[(0,.str s),(4,.int .u64 ((10*n+d:Nat):Int)),(5,.int .i64 ((i+1:Nat):Int))]) hB ?_,i+1,10*n+d,by omega,rfl,rfl,by omega,by omega⟩;simp
noncomputable def c10:Code:=Au Tryz.f49
noncomputable def Ee:Code:=Cj 3 c10
noncomputable def Fs:Code:=CY Ee
noncomputable def PU:Code:=A1 Ee
noncomputable def EN:Code:=inC (inC Fs)
noncomputable def F10:Func:=Tryz.f49
def FI (w:List UInt8) (p e:Nat):AV := .agg [.slice .full 2 1 [.str w,.int .i64 p],.int .i64 e]
def LI:AV := .agg [.nilSlice,.int .i64 0]
def Cu:Except (Nat × Nat) (List Wd)→AV
 |.ok l => .tup [AE l,LI]
 |.error (p,e) => .tup [.nilSlice,FI C8 p e]
def FJ (l:List Wd):AV:=if l=[] then .nilSlice else .slice (.tok 1) 4 l.length (A3 l)
def B7:Ent := .box [.nilSlice,.int .i64 0]
def HR (l:List Wd):AH:=if l=[] then [some B7] else [some B7,some (.tok l.length)]
theorem Gt (l:List Wd):(l=[]∧HR l=[some B7])∨(l≠[]∧HR l=[some B7,some (.tok l.length)]):=by
 unfold HR
 by_cases h:l=[]
 ·exact .inl ⟨h,if_pos h⟩
 ·exact .inr ⟨h,if_neg h⟩
theorem KS (l:List Wd) (w:Wd) (fid:Nat) (H:AH) (hl:l.length<137438953470) (h1:l=[]→fid=1) (h2:l≠[]→H.at 1=some (.tok l.length)) :
  DO zP H fid 157 157 (FJ l) (.slice .full 4 1 [.int .i64 w.kind,.str w.text,.int .i64 w.at_,.int .i64 w.n])=some (FJ (l++[w]),[(1,.tok (l.length+1))]):=by
 by_cases h:l=[]
 ·subst h
  rw [h1 rfl];simp only [FJ,if_true];rw [F9 Ty.ec157 (by omega) (by omega) (by simp [AV.one])];simp [A3,BA]
 ·have oL:l++[w]≠[]:=by simp
  simp only [FJ,if_neg h,if_neg oL];rw [EZ Ty.ec157 (h2 h) (by omega) (by omega) (by simp [AV.one])];simp [A3,BA]
theorem bsR (a:Int) (b:List UInt8) (c d:Int):CK zP 157 1 [(0,.agg [.int .i64 a,.str b,.int .i64 c,.int .i64 d])]=some (.slice .full 4 1 [.int .i64 a,.str b,.int .i64 c,.int .i64 d]):=by kernel_rfl
theorem buR (a:Int) (b:List UInt8) (c d:Int):Aq zP 165 [(0,.int .i64 a),(1,.str b),(2,.int .i64 c),(3,.int .i64 d)]=some (.agg [.int .i64 a,.str b,.int .i64 c,.int .i64 d]):=by kernel_rfl
theorem buW:Aq zP 28 []=some (.agg [.nilSlice,.int .i64 0]):=by kernel_rfl
def tR (s:List UInt8) (l:List Wd) (i:Nat):List AV:=mkT 139 [(0,.str s),(3,.ptr 0 0),(4,FJ l),(5,.int .i64 i)]
theorem Ts (l:List Wd) (m:Nat) (h:l=[]∨1<m):low m (FJ l)=true:=by
 unfold FJ
 split
 ·rfl
 ·rename_i hn
  have:1<m:=by rcases h with h|h;exact absurd h hn;exact h
  simp [this,Am (Nat.zero_le m) _ (Hq l)]
theorem GG {B:Bs} (hB:B.H=[]) {s:List UInt8} {l:List Wd} {i:Nat} {a:List (Nat × AV)} {H:AH} (h0:(a.lookup 0).getD .undef = .str s) (h3:(a.lookup 3).getD .undef = .ptr 0 0) (h4:(a.lookup 4).getD .undef=FJ l) (h5:(a.lookup 5).getD .undef = .int .i64 i)
  (hH:H.take (HR l).length=HR l):AD B (mkT 139 a) H (tR s l i) (HR l):=by
 refine AD.mkT (HR l).length (by simp [hB]) ?_ hH ?_
 ·intro p hp
  simp only [List.mem_cons,List.not_mem_nil,or_false] at hp;rcases hp with rfl|rfl|rfl|rfl
  ·exact .same h0 rfl
  ·refine .same h3 ?_
   rcases Gt l with ⟨_,h⟩|⟨_,h⟩<;>simp [h]
  ·refine .same h4 (Ts l _ ?_)
   rcases Gt l with ⟨h,_⟩|⟨_,h⟩
   ·exact .inl h
   ·exact .inr (by rw [h];simp)
  ·exact .same h5 rfl
 ·rcases Gt l with ⟨_,h⟩|⟨_,h⟩<;>simp [h,B7]
def PV:Orc:=Bp 77 (fun args=>match args with
  |[.str s]=>some s
  |_=>none) fun s => .bool (C5 s)
theorem fV:AT zP AM PV:=Dp fun args x H h=>by
 split at h
 ·injection h with h
  subst h;exact fT _ H
 ·cases h
def PW:Orc:=Bp 80 (fun args=>match args with
  |[.str s,.int .i64 n]=>if 0≤n∧n.toNat<s.length∧s.length<Br then some (s,n.toNat) else none
  |_=>none) fun x => .int .i64 (CZ (x.1.drop x.2))
theorem fW:AT zP AM PW:=Dp fun args x H h=>by
 split at h
 ·split at h
  ·rename_i s n hn
   injection h with h;subst h;have:=fS s n.toNat hn.2.1 hn.2.2 H
   rwa [Int.toNat_of_nonneg hn.1] at this
  ·cases h
 ·cases h
def PX:Orc:=Bp 79 (fun args=>match args with
  |[.str s]=>if s.length<Br∧s.all (fun b=>decide (48≤b.toNat)&&decide (b.toNat≤57))=true then some s else none
  |_=>none) Hu
theorem fX:AT zP AM PX:=Dp fun args x H h=>by
 split at h
 ·split at h
  ·rename_i s hn
   injection h with h;subst h;exact fU s (fun b hb=>by simpa using List.all_eq_true.1 hn.2 b hb) hn.1 H
  ·cases h
 ·cases h
def JT:Orc:=Bp 20 (fun args=>match args with
  |[.str w,.int .i64 p,.int .i64 e]=>some (w,p,e)
  |_=>none) fun x => .agg [.slice .full 2 1 [.str x.1,.int .i64 x.2.1],.int .i64 x.2.2]
theorem Mv:AT zP AM JT:=Dp fun args x H h=>by
 split at h
 ·injection h with h
  subst h;exact fR _ _ _ H
 ·cases h
def oR:Orc:=Ay [(75,oRb),(78,oRb),(76,Fb 76 Bi),(77,PV),(80,PW),(79,PX),(20,JT)]
theorem fY:AT zP AM oR:=FB fun p hp=>by
 simp only [List.mem_cons,List.not_mem_nil,or_false] at hp;rcases hp with rfl|rfl|rfl|rfl|rfl|rfl|rfl
 ·exact PQ
 ·exact PQ
 ·exact Ju fQ
 ·exact fV
 ·exact fW
 ·exact fX
 ·exact Mv
theorem Ic:Cx oR zP AM:=⟨fY,C4,Ad⟩
theorem Dz (b:UInt8) (H:AH):oR 75 [.int .u8 (b.toNat:Int)] H=some (.bool (Bz b),H):=by simp [oR,Ay,Ms]
theorem Da (b:UInt8) (H:AH):oR 78 [.int .u8 (b.toNat:Int)] H=some (.bool (A2 b),H):=by simp [oR,Ay,PR]
theorem DH (b:UInt8) (H:AH):oR 76 [.int .u8 (b.toNat:Int)] H=some (.bool (Bi b),H):=by simp [oR,Ay,Jv]
theorem Ie (s:List UInt8) (H:AH):oR 77 [.str s] H=some (.bool (C5 s),H):=by simp [oR,Ay,PV,Bp]
theorem DI (w:List UInt8) (p e:Int) (H:AH):oR 20 [.str w,.int .i64 p,.int .i64 e] H=some (.agg [.slice .full 2 1 [.str w,.int .i64 p],.int .i64 e],H):=by simp [oR,Ay,JT,Bp]
theorem oR_s (s:List UInt8) (n:Nat) (H:AH) (h:n<s.length) (hs:s.length<Br):oR 80 [.str s,.int .i64 n] H=some (.int .i64 (CZ (s.drop n)),H):=by simp [oR,Ay,PW,Bp,h,hs]
theorem oR_n (s:List UInt8) (H:AH) (h:Hp s) (hs:s.length<Br):oR 79 [.str s] H=some (Hu s,H):=by
 have:s.all (fun b=>decide (48≤b.toNat)&&decide (b.toNat≤57))=true:=List.all_eq_true.2 fun b hb=>by simpa using h b hb
 simp only [oR,Ay,List.lookup];simp [PX,Bp,hs];exact h
def Mw (s:List UInt8) (l:List Wd) (i F:Nat) (H:AH) (k:Nat) (t:List AV) (H':AH):Prop :=∃m,m+k=F∧t=mkT 139 [(0,.str s),(3,.ptr 0 0),(4,FJ l),(5,.int .i64 ((i+m:Nat):Int)),(6,.int .i64 ((i:Nat):Int))]∧H'=H
theorem If {B:Bs} (hB:B.H=[]) {s:List UInt8} {l:List Wd} {i j:Nat} {a:List (Nat × AV)} {H:AH} (hH:H=HR l) (h0:(a.lookup 0).getD .undef = .str s) (h3:(a.lookup 3).getD .undef = .ptr 0 0) (h4:(a.lookup 4).getD .undef=FJ l)
  (h5:(a.lookup 5).getD .undef = .int .i64 ((j:Nat):Int)) (h6:(a.lookup 6).getD .undef = .int .i64 ((i:Nat):Int)) :
  AD B (mkT 139 a) H (mkT 139 [(0,.str s),(3,.ptr 0 0),(4,FJ l),(5,.int .i64 ((j:Nat):Int)),(6,.int .i64 ((i:Nat):Int))]) H:=by
 subst hH;refine AD.mkT (HR l).length (by simp [hB]) ?_ (by simp) ?_
 ·intro p hp
  simp only [List.mem_cons,List.not_mem_nil,or_false] at hp;rcases hp with rfl|rfl|rfl|rfl|rfl
  ·exact .same h0 rfl
  ·refine .same h3 ?_
   rcases Gt l with ⟨_,h⟩|⟨_,h⟩<;>simp [h]
  ·refine .same h4 (Ts l _ ?_)
   rcases Gt l with ⟨h,_⟩|⟨_,h⟩
   ·exact .inl h
   ·exact .inr (by rw [h];simp)
  ·exact .same h5 rfl
  ·exact .same h6 rfl
 ·rcases Gt l with ⟨_,h⟩|⟨_,h⟩<;>simp [h,B7]
theorem Mx (p:UInt8→Bool) (s:List UInt8) (i m:Nat) (h:m<Ak p (s.drop i)):∃h:i+m<s.length,p s[i+m]=true:=by obtain ⟨h1,h2⟩:=MA p (s.drop i) m h;rw [List.length_drop] at h1;exact ⟨by omega,by simpa [List.getElem_drop] using h2⟩
theorem My (p:UInt8→Bool) (s:List UInt8) (i:Nat) (h:i+Ak p (s.drop i)<s.length):p s[i+Ak p (s.drop i)]=false:=by have:=MB p (s.drop i) (by rw [List.length_drop];omega);simpa [List.getElem_drop] using this
theorem Tt (p:UInt8→Bool) (s:List UInt8) (i:Nat) (hi:i≤s.length):i+Ak p (s.drop i)≤s.length:=by have:=Fc p (s.drop i);rw [List.length_drop] at this;omega
theorem FK (s:List UInt8) (i F:Nat):(s.take (i+F)).drop i=(s.drop i).take F:=by
 rw [List.drop_take]
 congr 1
 omega
theorem fZ (B:Bs) (hB:B.H=[]) (hG:Al AM B.g) (s:List UInt8) (l:List Wd) (i m:Nat) (hi:i<s.length) (hs:s.length<137438953470) (ox:l.length≤i)
  (oZ:¬(s[i].toNat:Int)=32) (oW:¬(s[i].toNat:Int)=9) (pE:Bz s[i]=true) (hF:m=Ak Bi (s.drop i)) (Q:AEx→List AV→AH→Prop) (K:Nat) (hK:K=if C5 ((s.drop i).take m) then 4 else 1)
  (hN:m≤31→∀t H,AD B t H (tR s (l++[⟨K,(s.drop i).take m,i,0⟩]) (i+m)) (HR (l++[⟨K,(s.drop i).take m,i,0⟩]))→Q .normal t H)
  (hE:31<m→∀t H,Fin zP F10 0 1 (Cu (.error (i,4))) [] .ret t H→Q .ret t H) :
  Go oR zP AM (LpT zP B) EN [] (tR s l i) (HR l) Q:=by
 have oO:i+m≤s.length:=by rw [hF];exact Tt Bi s i (by omega)
 have hi':(i:Int)<s.length:=by omega
 have e1:((i:Int)+(m:Int)).toNat=i+m:=by omega
 have e2:(i:Int)+(m:Int)≤s.length:=by omega
 have e3:(0:Int)≤(i:Int)+(m:Int):=by omega
 have e4:(i:Int)≤(i:Int)+(m:Int):=by omega
 have e5:IntKind.i64.wrap (m:Int)=(m:Int):=Ab (by omega) (by omega);have e7:(i:Int)+(m:Int)-(i:Int)=(m:Int):=by omega
 have e8:IntKind.i64.wrap ((i:Int)+(m:Int))=(i:Int)+(m:Int):=Ab (by omega) (by omega);rcases Gt l with ⟨hl,hH⟩|⟨hl,hH⟩
 ·rw [hH]
  have oP:=fun H=>KS l ⟨K,(s.drop i).take m,i,0⟩ 1 H (by omega) (fun _=>rfl) (fun h=>absurd hl h)
  simp [EN,Fs,Ee,c10,Tryz.f49,tR,hi,hi',oZ,oW,Dz,pE];refine LpT.loop Ic hG (by kernel_rfl) (Mw s l i m _) m (If (j:=i+0) hB hH.symm (by simp) (by simp) (by simp) (by simp) (by simp)) ⟨0,by omega,rfl,rfl⟩ ?_;rintro k t H ⟨d,hd,rfl,rfl⟩;cases k with
  |succ k =>
   obtain ⟨h1,h2⟩:=Mx Bi s i d (by omega);have f1:(i:Int)+(d:Int)<s.length:=by omega
   have f2:((i:Int)+(d:Int)).toNat=i+d:=by omega
   have f3:(0:Int)≤(i:Int)+(d:Int):=by omega
   have f4:IntKind.i64.wrap ((i:Int)+(d:Int)+1)=(i:Int)+(d:Int)+1:=Ab (by omega) (by omega);simp [f1,f2,f3,f4,h1,DH,Da,h2];refine ⟨k,by omega,_,_,If (j:=i+(d+1)) hB hH.symm (by simp) (by simp) (by simp) (by simp;omega) (by simp),d+1,by omega,rfl,rfl⟩
  |zero =>
   obtain rfl:d=m:=by omega
   by_cases h1:i+d<s.length
   ·have h2:Bi s[i+d]=false:=by
     have:=My Bi s i (by rw [←hF];exact h1);simpa only [←hF] using this
    have f1:(i:Int)+(d:Int)<s.length:=by omega
    by_cases vq:31<d
    ·have f5:(31:Int)<(d:Int):=by omega
     by_cases hk:C5 ((s.drop i).take d)=true
     all_goals
      simp only [hk,if_true,if_false,Bool.false_eq_true] at hK;subst hK;simp at oP;simp [f1,f5,hk,e1,e2,e3,e4,e5,e7,e8,DH,FK,Ie,DI,h1,h2,B7];refine hE (by omega) _ _ ?_;rw [Dq];simp [F10,Tryz.f49,Cu,FI,C8,B7]
    ·have f5:¬(31:Int)<(d:Int):=by omega
     by_cases hk:C5 ((s.drop i).take d)=true
     all_goals
      simp only [hk,if_true,if_false,Bool.false_eq_true] at hK;subst hK;simp at oP;simp [f1,f5,hk,e1,e2,e3,e4,e5,e7,e8,DH,FK,Ie,DI,h1,h2,buR,bsR,oP];refine hN (by omega) _ _ (GG hB ?_ ?_ ?_ ?_ ?_)
      ·simp
      ·simp
      ·simp
      ·simp
      ·simp [HR,hl]
   ·have f1:¬(i:Int)+(d:Int)<s.length:=by omega
    by_cases vq:31<d
    ·have f5:(31:Int)<(d:Int):=by omega
     by_cases hk:C5 ((s.drop i).take d)=true
     all_goals
      simp only [hk,if_true,if_false,Bool.false_eq_true] at hK;subst hK;simp at oP;simp [f1,f5,hk,e1,e2,e3,e4,e5,e7,e8,DH,FK,Ie,DI,B7];refine hE (by omega) _ _ ?_;rw [Dq];simp [F10,Tryz.f49,Cu,FI,C8,B7]
    ·have f5:¬(31:Int)<(d:Int):=by omega
     by_cases hk:C5 ((s.drop i).take d)=true
     all_goals
      simp only [hk,if_true,if_false,Bool.false_eq_true] at hK;subst hK;simp at oP;simp [f1,f5,hk,e1,e2,e3,e4,e5,e7,e8,DH,FK,Ie,DI,buR,bsR,oP];refine hN (by omega) _ _ (GG hB ?_ ?_ ?_ ?_ ?_)
      ·simp
      ·simp
      ·simp
      ·simp
      ·simp [HR,hl]
 ·rw [hH]
  have oP:=fun fid=>KS l ⟨K,(s.drop i).take m,i,0⟩ fid [some B7,some (.tok l.length),none] (by omega) (fun h=>absurd h hl) (fun _=>by simp)
  simp [EN,Fs,Ee,c10,Tryz.f49,tR,hi,hi',oZ,oW,Dz,pE];refine LpT.loop Ic hG (by kernel_rfl) (Mw s l i m _) m (If (j:=i+0) hB hH.symm (by simp) (by simp) (by simp) (by simp) (by simp)) ⟨0,by omega,rfl,rfl⟩ ?_;rintro k t H ⟨d,hd,rfl,rfl⟩;cases k with
  |succ k =>
   obtain ⟨h1,h2⟩:=Mx Bi s i d (by omega);have f1:(i:Int)+(d:Int)<s.length:=by omega
   have f2:((i:Int)+(d:Int)).toNat=i+d:=by omega
   have f3:(0:Int)≤(i:Int)+(d:Int):=by omega
   have f4:IntKind.i64.wrap ((i:Int)+(d:Int)+1)=(i:Int)+(d:Int)+1:=Ab (by omega) (by omega);simp [f1,f2,f3,f4,h1,DH,Da,h2];refine ⟨k,by omega,_,_,If (j:=i+(d+1)) hB hH.symm (by simp) (by simp) (by simp) (by simp;omega) (by simp),d+1,by omega,rfl,rfl⟩
  |zero =>
   obtain rfl:d=m:=by omega
   by_cases h1:i+d<s.length
   ·have h2:Bi s[i+d]=false:=by
     have:=My Bi s i (by rw [←hF];exact h1);simpa only [←hF] using this
    have f1:(i:Int)+(d:Int)<s.length:=by omega
    by_cases vq:31<d
    ·have f5:(31:Int)<(d:Int):=by omega
     by_cases hk:C5 ((s.drop i).take d)=true
     all_goals
      simp only [hk,if_true,if_false,Bool.false_eq_true] at hK;subst hK;simp at oP;simp [f1,f5,hk,e1,e2,e3,e4,e5,e7,e8,DH,FK,Ie,DI,h1,h2,B7];refine hE (by omega) _ _ ?_;rw [Dq];simp [F10,Tryz.f49,Cu,FI,C8,B7]
    ·have f5:¬(31:Int)<(d:Int):=by omega
     by_cases hk:C5 ((s.drop i).take d)=true
     all_goals
      simp only [hk,if_true,if_false,Bool.false_eq_true] at hK;subst hK;simp at oP;simp [f1,f5,hk,e1,e2,e3,e4,e5,e7,e8,DH,FK,Ie,DI,h1,h2,buR,bsR,oP];refine hN (by omega) _ _ (GG hB ?_ ?_ ?_ ?_ ?_)
      ·simp
      ·simp
      ·simp
      ·simp
      ·simp [HR,hl]
   ·have f1:¬(i:Int)+(d:Int)<s.length:=by omega
    by_cases vq:31<d
    ·have f5:(31:Int)<(d:Int):=by omega
     by_cases hk:C5 ((s.drop i).take d)=true
     all_goals
      simp only [hk,if_true,if_false,Bool.false_eq_true] at hK;subst hK;simp at oP;simp [f1,f5,hk,e1,e2,e3,e4,e5,e7,e8,DH,FK,Ie,DI,B7];refine hE (by omega) _ _ ?_;rw [Dq];simp [F10,Tryz.f49,Cu,FI,C8,B7]
    ·have f5:¬(31:Int)<(d:Int):=by omega
     by_cases hk:C5 ((s.drop i).take d)=true
     all_goals
      simp only [hk,if_true,if_false,Bool.false_eq_true] at hK;subst hK;simp at oP;simp [f1,f5,hk,e1,e2,e3,e4,e5,e7,e8,DH,FK,Ie,DI,buR,bsR,oP];refine hN (by omega) _ _ (GG hB ?_ ?_ ?_ ?_ ?_)
      ·simp
      ·simp
      ·simp
      ·simp
      ·simp [HR,hl]
theorem fa (B:Bs) (hB:B.H=[]) (hG:Al AM B.g) (s:List UInt8) (l:List Wd) (i m:Nat) (hi:i<s.length) (hs:s.length<137438953470) (ox:l.length≤i)
  (oZ:¬(s[i].toNat:Int)=32) (oW:¬(s[i].toNat:Int)=9) (pE:Bz s[i]=false) (qD:A2 s[i]=true) (hF:m=Ak A2 (s.drop i)) (Q:AEx→List AV→AH→Prop)
  (hN:Ba ((s.drop i).take m)<9223372036854775808→(∀h:i+m<s.length,Bz s[i+m]=false)→∀t H,AD B t H (tR s (l++[⟨2,(s.drop i).take m,i,Ba ((s.drop i).take m)⟩]) (i+m)) (HR (l++[⟨2,(s.drop i).take m,i,Ba ((s.drop i).take m)⟩]))→Q .normal t H)
  (hE:¬Ba ((s.drop i).take m)<9223372036854775808→∀t H,Fin zP F10 0 1 (Cu (.error (i,5))) [] .ret t H→Q .ret t H)
  (tI:Ba ((s.drop i).take m)<9223372036854775808→(∃h:i+m<s.length,Bz s[i+m]=true)→∀t H,Fin zP F10 0 1 (Cu (.error (i+m,3))) [] .ret t H→Q .ret t H) :
  Go oR zP AM (LpT zP B) EN [] (tR s l i) (HR l) Q:=by
 have oO:i+m≤s.length:=by rw [hF];exact Tt A2 s i (by omega)
 have hi':(i:Int)<s.length:=by omega
 have e1:((i:Int)+(m:Int)).toNat=i+m:=by omega
 have e2:(i:Int)+(m:Int)≤s.length:=by omega
 have e3:(0:Int)≤(i:Int)+(m:Int):=by omega
 have e4:(i:Int)≤(i:Int)+(m:Int):=by omega
 have e5:IntKind.i64.wrap (m:Int)=(m:Int):=Ab (by omega) (by omega);have e7:(i:Int)+(m:Int)-(i:Int)=(m:Int):=by omega
 have e8:IntKind.i64.wrap ((i:Int)+(m:Int))=(i:Int)+(m:Int):=Ab (by omega) (by omega)
 have sw:Hp ((s.drop i).take m):=fun b hb=>by have:=PC A2 (s.drop i) b (by rw [←hF];exact hb);simpa [A2] using this
 have oX:((s.drop i).take m).length<Br:=by rw [Dx,List.length_take,List.length_drop];omega
 have hn:=fun H=>oR_n ((s.drop i).take m) H sw oX
 unfold Hu at hn;rcases Gt l with ⟨hl,hH⟩|⟨hl,hH⟩
 ·rw [hH]
  have oP:=fun H=>KS l ⟨2,(s.drop i).take m,i,Ba ((s.drop i).take m)⟩ 1 H (by omega) (fun _=>rfl) (fun h=>absurd hl h)
  simp at oP;simp [EN,Fs,Ee,c10,Tryz.f49,tR,hi,hi',oZ,oW,Dz,Da,pE,qD];refine LpT.loop Ic hG (by kernel_rfl) (Mw s l i m _) m (If (j:=i+0) hB hH.symm (by simp) (by simp) (by simp) (by simp) (by simp)) ⟨0,by omega,rfl,rfl⟩ ?_;rintro k t H ⟨d,hd,rfl,rfl⟩;cases k with
  |succ k =>
   obtain ⟨h1,h2⟩:=Mx A2 s i d (by omega);have f1:(i:Int)+(d:Int)<s.length:=by omega
   have f2:((i:Int)+(d:Int)).toNat=i+d:=by omega
   have f3:(0:Int)≤(i:Int)+(d:Int):=by omega
   have f4:IntKind.i64.wrap ((i:Int)+(d:Int)+1)=(i:Int)+(d:Int)+1:=Ab (by omega) (by omega);simp [f1,f2,f3,f4,h1,DH,Da,h2];refine ⟨k,by omega,_,_,If (j:=i+(d+1)) hB hH.symm (by simp) (by simp) (by simp) (by simp;omega) (by simp),d+1,by omega,rfl,rfl⟩
  |zero =>
   obtain rfl:d=m:=by omega
   generalize hT:(s.drop i).take d=T at hn oP hN hE tI;have qy:(s.take (i+d)).drop i=T:=by rw [FK];exact hT
   generalize Ba T=N at hn oP hN hE tI
   by_cases h1:i+d<s.length
   ·have h2:A2 s[i+d]=false:=by
     have:=My A2 s i (by rw [←hF];exact h1);simpa only [←hF] using this
    have f1:(i:Int)+(d:Int)<s.length:=by omega
    by_cases pj:N<9223372036854775808
    ·rw [if_pos pj] at hn
     cases h3:Bz s[i+d]
     ·simp [f1,e1,e2,e3,e4,e5,e7,e8,DH,Da,Dz,qy,DI,hn,h1,h2,h3,buR,bsR,oP]
      refine hN pj (fun _=>h3) _ _ (GG hB ?_ ?_ ?_ ?_ ?_)
      ·simp
      ·simp
      ·simp
      ·simp
      ·simp [HR,hl]
     ·simp [f1,e1,e2,e3,e4,e5,e7,e8,DH,Da,Dz,qy,DI,hn,h1,h2,h3,B7]
      refine tI pj ⟨h1,h3⟩ _ _ ?_;rw [Dq];simp [F10,Tryz.f49,Cu,FI,C8,B7]
    ·rw [if_neg pj] at hn
     simp [f1,e1,e2,e3,e4,e5,e7,e8,DH,Da,Dz,qy,DI,hn,h1,h2,B7];refine hE pj _ _ ?_;rw [Dq];simp [F10,Tryz.f49,Cu,FI,C8,B7]
   ·have f1:¬(i:Int)+(d:Int)<s.length:=by omega
    by_cases pj:N<9223372036854775808
    ·rw [if_pos pj] at hn
     simp [f1,e1,e2,e3,e4,e5,e7,e8,DH,Da,Dz,qy,DI,hn,buR,bsR,oP];refine hN pj (fun h=>absurd h h1) _ _ (GG hB ?_ ?_ ?_ ?_ ?_)
     ·simp
     ·simp
     ·simp
     ·simp
     ·simp [HR,hl]
    ·rw [if_neg pj] at hn
     simp [f1,e1,e2,e3,e4,e5,e7,e8,DH,Da,Dz,qy,DI,hn,B7];refine hE pj _ _ ?_;rw [Dq];simp [F10,Tryz.f49,Cu,FI,C8,B7]
 ·rw [hH]
  have oP:=fun fid=>KS l ⟨2,(s.drop i).take m,i,Ba ((s.drop i).take m)⟩ fid [some B7,some (.tok l.length),none] (by omega) (fun h=>absurd h hl) (fun _=>by simp)
  simp at oP;simp [EN,Fs,Ee,c10,Tryz.f49,tR,hi,hi',oZ,oW,Dz,Da,pE,qD];refine LpT.loop Ic hG (by kernel_rfl) (Mw s l i m _) m (If (j:=i+0) hB hH.symm (by simp) (by simp) (by simp) (by simp) (by simp)) ⟨0,by omega,rfl,rfl⟩ ?_;rintro k t H ⟨d,hd,rfl,rfl⟩;cases k with
  |succ k =>
   obtain ⟨h1,h2⟩:=Mx A2 s i d (by omega);have f1:(i:Int)+(d:Int)<s.length:=by omega
   have f2:((i:Int)+(d:Int)).toNat=i+d:=by omega
   have f3:(0:Int)≤(i:Int)+(d:Int):=by omega
   have f4:IntKind.i64.wrap ((i:Int)+(d:Int)+1)=(i:Int)+(d:Int)+1:=Ab (by omega) (by omega);simp [f1,f2,f3,f4,h1,DH,Da,h2];refine ⟨k,by omega,_,_,If (j:=i+(d+1)) hB hH.symm (by simp) (by simp) (by simp) (by simp;omega) (by simp),d+1,by omega,rfl,rfl⟩
  |zero =>
   obtain rfl:d=m:=by omega
   generalize hT:(s.drop i).take d=T at hn oP hN hE tI;have qy:(s.take (i+d)).drop i=T:=by rw [FK];exact hT
   generalize Ba T=N at hn oP hN hE tI
   by_cases h1:i+d<s.length
   ·have h2:A2 s[i+d]=false:=by
     have:=My A2 s i (by rw [←hF];exact h1);simpa only [←hF] using this
    have f1:(i:Int)+(d:Int)<s.length:=by omega
    by_cases pj:N<9223372036854775808
    ·rw [if_pos pj] at hn
     cases h3:Bz s[i+d]
     ·simp [f1,e1,e2,e3,e4,e5,e7,e8,DH,Da,Dz,qy,DI,hn,h1,h2,h3,buR,bsR,oP]
      refine hN pj (fun _=>h3) _ _ (GG hB ?_ ?_ ?_ ?_ ?_)
      ·simp
      ·simp
      ·simp
      ·simp
      ·simp [HR,hl]
     ·simp [f1,e1,e2,e3,e4,e5,e7,e8,DH,Da,Dz,qy,DI,hn,h1,h2,h3,B7]
      refine tI pj ⟨h1,h3⟩ _ _ ?_;rw [Dq];simp [F10,Tryz.f49,Cu,FI,C8,B7]
    ·rw [if_neg pj] at hn
     simp [f1,e1,e2,e3,e4,e5,e7,e8,DH,Da,Dz,qy,DI,hn,h1,h2,B7];refine hE pj _ _ ?_;rw [Dq];simp [F10,Tryz.f49,Cu,FI,C8,B7]
   ·have f1:¬(i:Int)+(d:Int)<s.length:=by omega
    by_cases pj:N<9223372036854775808
    ·rw [if_pos pj] at hn
     simp [f1,e1,e2,e3,e4,e5,e7,e8,DH,Da,Dz,qy,DI,hn,buR,bsR,oP];refine hN pj (fun h=>absurd h h1) _ _ (GG hB ?_ ?_ ?_ ?_ ?_)
     ·simp
     ·simp
     ·simp
     ·simp
     ·simp [HR,hl]
    ·rw [if_neg pj] at hn
     simp [f1,e1,e2,e3,e4,e5,e7,e8,DH,Da,Dz,qy,DI,hn,B7];refine hE pj _ _ ?_;rw [Dq];simp [F10,Tryz.f49,Cu,FI,C8,B7]
theorem fb (B:Bs) (hB:B.H=[]) (hG:Al AM B.g) (s:List UInt8) (l:List Wd) (i m:Nat) (hi:i<s.length) (hs:s.length<137438953470) (ox:l.length≤i)
  (oZ:¬(s[i].toNat:Int)=32) (oW:¬(s[i].toNat:Int)=9) (pE:Bz s[i]=false) (qD:A2 s[i]=false) (hF:m=CZ (s.drop i)) (Q:AEx→List AV→AH→Prop)
  (hN:m≠0→∀t H,AD B t H (tR s (l++[⟨3,(s.drop i).take m,i,0⟩]) (i+m)) (HR (l++[⟨3,(s.drop i).take m,i,0⟩]))→Q .normal t H)
  (hE:m=0→∀t H,Fin zP F10 0 1 (Cu (.error (i,3))) [] .ret t H→Q .ret t H) :
  Go oR zP AM (LpT zP B) EN [] (tR s l i) (HR l) Q:=by
 have oO:i+m≤s.length:=by have:=Mc (s.drop i);rw [List.length_drop] at this;omega
 have hi':(i:Int)<s.length:=by omega
 have e1:((i:Int)+(m:Int)).toNat=i+m:=by omega
 have e2:(i:Int)+(m:Int)≤s.length:=by omega
 have e3:(0:Int)≤(i:Int)+(m:Int):=by omega
 have e4:(i:Int)≤(i:Int)+(m:Int):=by omega
 have e5:IntKind.i64.wrap (m:Int)=(m:Int):=Ab (by omega) (by omega);have e7:(i:Int)+(m:Int)-(i:Int)=(m:Int):=by omega
 have e8:IntKind.i64.wrap ((i:Int)+(m:Int))=(i:Int)+(m:Int):=Ab (by omega) (by omega);have pF:=fun H=>oR_s s i H hi (by rw [Dx];omega)
 rw [←hF] at pF;rcases Gt l with ⟨hl,hH⟩|⟨hl,hH⟩
 ·rw [hH]
  have oP:=fun H=>KS l ⟨3,(s.drop i).take m,i,0⟩ 1 H (by omega) (fun _=>rfl) (fun h=>absurd hl h)
  simp at oP
  by_cases h0:m=0
  ·have g0:(m:Int)=0:=by omega
   simp [EN,Fs,Ee,c10,Tryz.f49,tR,hi,hi',oZ,oW,Dz,Da,pE,qD,e1,e2,e3,e4,e5,e7,e8,FK,DI,pF,g0,h0,B7];refine hE h0 _ _ ?_;rw [Dq];simp [F10,Tryz.f49,Cu,FI,C8,B7]
  ·have g0:¬(m:Int)=0:=by omega
   simp [EN,Fs,Ee,c10,Tryz.f49,tR,hi,hi',oZ,oW,Dz,Da,pE,qD,e1,e2,e3,e4,e5,e7,e8,FK,DI,pF,g0,h0,buR,bsR,oP];refine hN h0 _ _ (GG hB ?_ ?_ ?_ ?_ ?_)
   ·simp
   ·simp
   ·simp
   ·simp
   ·simp [HR,hl]
 ·rw [hH]
  have oP:=fun fid=>KS l ⟨3,(s.drop i).take m,i,0⟩ fid [some B7,some (.tok l.length),none] (by omega) (fun h=>absurd h hl) (fun _=>by simp)
  simp at oP
  by_cases h0:m=0
  ·have g0:(m:Int)=0:=by omega
   simp [EN,Fs,Ee,c10,Tryz.f49,tR,hi,hi',oZ,oW,Dz,Da,pE,qD,e1,e2,e3,e4,e5,e7,e8,FK,DI,pF,g0,h0,B7];refine hE h0 _ _ ?_;rw [Dq];simp [F10,Tryz.f49,Cu,FI,C8,B7]
  ·have g0:¬(m:Int)=0:=by omega
   simp [EN,Fs,Ee,c10,Tryz.f49,tR,hi,hi',oZ,oW,Dz,Da,pE,qD,e1,e2,e3,e4,e5,e7,e8,FK,DI,pF,g0,h0,buR,bsR,oP];refine hN h0 _ _ (GG hB ?_ ?_ ?_ ?_ ?_)
   ·simp
   ·simp
   ·simp
   ·simp
   ·simp [HR,hl]
theorem z6 (B:Bs) (hB:B.H=[]) (hG:Al AM B.g) (s:List UInt8) (l:List Wd) (i:Nat) (hi:i<s.length) (hs:s.length<137438953470)
  (hb:s[i].toNat=32∨s[i].toNat=9) (Q:AEx→List AV→AH→Prop) (hN:∀t H,AD B t H (tR s l (i+1)) (HR l)→Q .normal t H) :
  Go oR zP AM (LpT zP B) EN [] (tR s l i) (HR l) Q:=by
 have hi':(i:Int)<s.length:=by omega
 have w:IntKind.i64.wrap ((i:Int)+1)=(i:Int)+1:=Ab (by omega) (by omega);rcases Gt l with ⟨hl,hH⟩|⟨hl,hH⟩
 all_goals
  rw [hH];rcases hb with hb|hb
  all_goals
   simp [EN,Fs,Ee,c10,Tryz.f49,tR,hi,hi',hb,w];refine hN _ _ (GG hB ?_ ?_ ?_ ?_ ?_)
   ·simp
   ·simp
   ·simp
   ·simp
   ·simp [HR,hl]
@[simp] theorem zAE:Af.imm 214=false:=by decide
@[simp] theorem m6:Af.imm 78=true:=by decide
@[simp high] theorem m7 (l:List Wd):alen zP 157 (AE l)=some (.int .i64 l.length):=by
 unfold AE
 split
 ·rename_i h;subst h;simp [alen]
 ·simp [alen]
@[simp high] theorem Tu {l:List Wd} {i:Nat} (h:i<l.length):Ao zP 157 (AE l) (.int .i64 (i:Int))=some (.vptr (A3 l) (i*4)):=by
 have oL:l≠[]:=by rintro rfl;simp at h
 have:(i:Int)<l.length:=by omega
 simp [AE,oL,Ao,h]
def BO (x:Option (Nat × Nat)):Prop:=∀p,x≠some (p,0)
theorem Cm:BO none:=fun _ h=>by cases h
def pAV:Option (Nat × Nat)→AV
 |none => .nilSlice
 |some (p,_) => .slice .full 2 1 [.str Di,.int .i64 (p:Int)]
def cI:Option (Nat × Nat)→Int
 |none=>0
 |some (_,c)=>(c:Int)
theorem HP {x:Option (Nat × Nat)} (h:BO x):(cI x=0)↔x=none:=by
 cases x with
 |none=>simp [cI]
 |some y =>
  obtain ⟨p,c⟩:=y;have:c≠0:=fun hc=>h p (by rw [hc])
  simp [cI];omega
@[simp ↓ high] theorem m8 (m:Nat) (x:Option (Nat × Nat)):low m (pAV x)=true:=by
 cases x with
 |none=>rfl
 |some x=>rfl
@[simp ↓ high] theorem m9 (x:Option (Nat × Nat)):BN (pAV x)=[]:=by cases x<;>rfl
@[simp ↓ high] theorem nA (x:Option (Nat × Nat)):(pAV x).known=true:=by cases x<;>rfl
@[simp ↓ high] theorem nB (x:Option (Nat × Nat)):(pAV x).one=true:=by cases x<;>rfl
@[simp ↓ high] theorem nC (x:Option (Nat × Nat)):An (pAV x)=[pAV x]:=by cases x<;>rfl
theorem Tv {x y:Option (Nat × Nat)} (h1:pAV x=pAV y) (h2:cI x=cI y):x=y:=by
 cases x with
 |none=>cases y with
  |none=>rfl
  |some y=>simp [pAV] at h1
 |some x=>cases y with
  |none=>simp [pAV] at h1
  |some y =>
   obtain ⟨p,c⟩:=x;obtain ⟨q,d⟩:=y;simp [pAV] at h1;simp [cI] at h2;have e1:p=q:=by omega
   have e2:c=d:=by omega
   rw [e1,e2]
def rrC (ts:List Wd) (a:Int) (x:Option (Nat × Nat)):List AV:=[AE ts,.int .i64 a,pAV x,.int .i64 (cI x)]
@[simp] theorem fe (ts:List Wd) (a:Int) (x:Option (Nat × Nat)):rrC ts a x=[AE ts,.int .i64 a,pAV x,.int .i64 (cI x)]:=AS rfl
theorem FL (ts:List Wd) (a:Int) (x:Option (Nat × Nat)):lowL 0 (rrC ts a x)=true:=by simp
theorem Tw {ts:List Wd} {a b:Nat} {x y:Option (Nat × Nat)} (h:rrC ts (a:Int) x=rrC ts (b:Int) y):a=b∧x=y:=by simp only [fe,List.cons.injEq,AV.int.injEq,true_and,and_true] at h;exact ⟨by omega,Tv h.2.1 h.2.2⟩
theorem fg:Cx JT zP Af:=⟨AT.toX (AT.toN Mv),Dh,Ad⟩
theorem Mz (w:List UInt8) (p e:Int) (H:AH):JT 20 [.str w,.int .i64 p,.int .i64 e] H=some (.agg [.slice .full 2 1 [.str w,.int .i64 p],.int .i64 e],H):=by simp [JT,Bp]
theorem fh (ts:List Wd) (a:Nat) (x:Option (Nat × Nat)) (hx:BO x) (p e:Nat) {H:AH} {id:Nat} (hH:H.at id=some (.box (rrC ts a x))) :
  CS zP Af 104 [.ptr id 0,.int .i64 (p:Int),.int .i64 (e:Int)] H (.tup []) (H.set id (some (.box (rrC ts a (some (x.getD (p,e))))))):=by
 refine CS.rd DB Tryz.func104 (by kernel_rfl) 0 (by simp [Tryz.f104]) (fun B hB hG => ?_) (by simp) rfl (FL _ _ _) (FL _ _ _) hH;refine Tr.goD fg hG ?_;cases x with
 |none=>simp [Tryz.f104,cI,pAV,Mz,Di]
 |some y =>
  have h0:¬cI (some y)=0:=fun h=>by have:=(HP hx).1 h;cases this
  simp [Tryz.f104,h0]
theorem fj (ts:List Wd) (a:Nat) (x:Option (Nat × Nat)) (hx:BO x) (s:List UInt8) {H:AH} {id:Nat} (hH:H.at id=some (.box (rrC ts a x))) :
  CS zP Af 105 [.ptr id 0,.str s] H (.bool (Aa ts ⟨a,0,x⟩ s)) (H.set id (some (.box (rrC ts a x)))):=by
 refine CS.rd DB Tryz.func105 (by kernel_rfl) 0 (by simp [Tryz.f105]) (fun B hB hG => ?_) (by simp) rfl (FL _ _ _) (FL _ _ _) hH;refine Tr.goD KM hG ?_;simp [Tryz.f105];refine LpD.turns KM hG [] [] ?_;cases x with
 |some y =>
  have h0:(cI (some y)==0)=false:=by rw [beq_eq_false_iff_ne];intro h;have:=(HP hx).1 h;cases this
  simp [Aa,h0]
 |none =>
  by_cases hl:a<ts.length
  ·have hl':(a:Int)<ts.length:=by omega
   obtain ⟨w,hw⟩:∃w,ts[a]? = some w:=⟨_,List.getElem?_eq_getElem hl⟩
   obtain ⟨c0,c1,c3⟩:=EM hw;have hn:isS ts a s=(w.kind==3&&w.text==s):=by simp only [isS,hw]
   by_cases hk:w.kind=3
   ·simp [Aa,hn,cI,hl,hl',hk,c0,c1]
   ·have hk':((w.kind:Int)==3)=false:=by rw [beq_eq_false_iff_ne];omega
    simp [Aa,hn,cI,hl,hl',hk,hk',c0,c1]
  ·have hl':¬((a:Int)<ts.length):=by omega
   have hw:ts[a]? = none:=List.getElem?_eq_none (by omega);have hn:isS ts a s=false:=by simp only [isS,hw]
   simp [Aa,hn,cI,hl',hw]
open Classical in
noncomputable def oRr (ts:List Wd) (f0:FuncId) (spec:List AV→St→Option (AV × St)):Orc:=fun f args H =>
 if f=f0 then (match args with
  |.ptr id 0::rest=>if h:∃r:St,r.deep=0∧BO r.err∧H.at id=some (.box (rrC ts r.at_ r.err)) then (spec rest h.choose).map fun x=>(x.1,H.set id (some (.box (rrC ts x.2.at_ x.2.err)))) else none
  |_=>none) else none
theorem Hv {ts:List Wd} {f0:FuncId} {spec:List AV→St→Option (AV × St)} {id:Nat} {rest:List AV} {H:AH} {a:Nat} {x:Option (Nat × Nat)} (hx:BO x) (h:H.at id=some (.box (rrC ts a x))) :
  oRr ts f0 spec f0 (.ptr id 0::rest) H=(spec rest ⟨a,0,x⟩).map fun x=>(x.1,H.set id (some (.box (rrC ts x.2.at_ x.2.err)))):=by
 have hq:∃r:St,r.deep=0∧BO r.err∧H.at id=some (.box (rrC ts r.at_ r.err)):=⟨⟨a,0,x⟩,rfl,hx,h⟩
 obtain ⟨h1,h2,h3⟩:=hq.choose_spec;have hc:=h.symm.trans h3;simp only [Option.some.injEq,Ent.box.injEq] at hc;obtain ⟨e1,e2⟩:=Tw hc
 have:hq.choose=⟨a,0,x⟩:=by
  cases hs:hq.choose with
  |mk a' d' x' =>rw [hs] at e1 e2 h1;simp only at e1 e2 h1;rw [e1,e2,h1]
 simp only [oRr,if_true,dif_pos hq,this]
theorem LJ {ts:List Wd} {f0:FuncId} {spec:List AV→St→Option (AV × St)}
  (h:∀rest r v r',spec rest r=some (v,r')→r.deep=0→BO r.err→∀H id,H.at id=some (.box (rrC ts r.at_ r.err))→CS zP Af f0 (.ptr id 0::rest) H v (H.set id (some (.box (rrC ts r'.at_ r'.err))))):AT zP Af (oRr ts f0 spec):=by
 intro f args H v H' ho;unfold oRr at ho
 split at ho
 ·rename_i hf
  subst hf
  split at ho
  ·rename_i id rest
   split at ho
   ·rename_i hx
    obtain ⟨x,hs,qZ⟩:=Option.map_eq_some_iff.1 ho;simp only [Prod.mk.injEq] at qZ;obtain ⟨rfl,rfl⟩:=qZ;obtain ⟨q1,q2,q3⟩:=hx.choose_spec;refine ⟨h _ _ _ _ hs q1 q2 _ _ q3,by simp,fun j _ hj=>Mi q3 hj⟩
   ·cases ho
  ·cases ho
 ·cases ho
theorem KT {ts:List Wd} {a:Int} {x:Option (Nat × Nat)} {H:AH} (ha:0≤a):AH.at (some (.box [AE ts,.int .i64 a,pAV x,.int .i64 (cI x)])::H) 0=some (.box (rrC ts (a.toNat:Nat) x)):=by simp [AH.at,Int.toNat_of_nonneg ha]
theorem PY (ts:List Wd):AT zP Af (oRr ts 105 (Ed ts)):=LJ fun rest r v r' h h0 hx H id hH=>by
 unfold Ed at h
 split at h
 ·injection h with h
  simp only [Prod.mk.injEq] at h;obtain ⟨rfl,rfl⟩:=h;exact fj ts r.at_ r.err hx _ hH
 ·cases h
def Hw (rest:List AV) (r:St):Option (AV × St):=match rest with
 |[.int .i64 p,.int .i64 e]=>if 0≤p∧0≤e then some (.tup [],⟨r.at_,0,some (r.err.getD (p.toNat,e.toNat))⟩) else none
 |_=>none
theorem PZ (ts:List Wd):AT zP Af (oRr ts 104 Hw):=LJ fun rest r v r' h h0 hx H id hH=>by
 unfold Hw at h
 split at h
 ·rename_i p e
  split at h
  ·rename_i uJ
   injection h with h;simp only [Prod.mk.injEq] at h;obtain ⟨rfl,rfl⟩:=h;have:=fh ts r.at_ r.err hx p.toNat e.toNat hH
   rwa [Int.toNat_of_nonneg uJ.1,Int.toNat_of_nonneg uJ.2] at this
  ·cases h
 ·cases h
theorem Pa {ts:List Wd} {a:Int} {x:Option (Nat × Nat)} (s:List UInt8) (H:AH) (ha:0≤a) (hx:BO x):oRr ts 105 (Ed ts) 105 [.ptr 0 0,.str s] (some (.box [AE ts,.int .i64 a,pAV x,.int .i64 (cI x)])::H) =
  some (.bool (Aa ts ⟨a.toNat,0,x⟩ s),some (.box [AE ts,.int .i64 a,pAV x,.int .i64 (cI x)])::H):=by
 rw [Hv hx (KT ha)];simp [Ed,Int.toNat_of_nonneg ha]
theorem Tz {ts:List Wd} {a:Int} {x:Option (Nat × Nat)} (p e:Int) (H:AH) (ha:0≤a) (hx:BO x) (hp:0≤p) (he:0≤e):oRr ts 104 Hw 104 [.ptr 0 0,.int .i64 p,.int .i64 e] (some (.box [AE ts,.int .i64 a,pAV x,.int .i64 (cI x)])::H) =
  some (.tup [],some (.box [AE ts,.int .i64 a,pAV (some (x.getD (p.toNat,e.toNat))),.int .i64 (cI (some (x.getD (p.toNat,e.toNat))))])::H):=by
 rw [Hv hx (KT ha)];simp [Hw,hp,he,Int.toNat_of_nonneg ha]
theorem fk (ts:List Wd):Cx (oRr ts 105 (Ed ts)) zP Af:=⟨PY ts,Dh,Ad⟩
theorem fo (ts:List Wd) (oK:ts.length<1000000) (a:Nat) (x:Option (Nat × Nat)) (hx:BO x) (s:List UInt8) {H:AH} {id:Nat} (hH:H.at id=some (.box (rrC ts a x))) :
  CS zP Af 106 [.ptr id 0,.str s] H (.bool (Aa ts ⟨a,0,x⟩ s)) (H.set id (some (.box (rrC ts (GE ts ⟨a,0,x⟩ s).at_ (GE ts ⟨a,0,x⟩ s).err)))):=by
 refine CS.rd DB Tryz.func106 (by kernel_rfl) 0 (by simp [Tryz.f106]) (fun B hB hG => ?_) (by simp) rfl (FL _ _ _) (FL _ _ _) hH;refine Tr.goD (fk ts) hG ?_;have pF:=fun H=>Pa (ts:=ts) (a:=a) (x:=x) s H (by omega) hx
 simp at pF;cases hn:Aa ts ⟨a,0,x⟩ s with
 |true =>have hl:a<ts.length:=Ew hn;have w1:IntKind.i64.wrap ((a:Int)+1)=(a:Int)+1:=Ab (by omega) (by omega);simp [Tryz.f106,GE,hn,pF,w1,St.step]
 |false=>simp [Tryz.f106,GE,hn,pF]
theorem Pb (ts:List Wd) (oK:ts.length<1000000):AT zP Af (oRr ts 106 (Dj ts)):=LJ fun rest r v r' h h0 hx H id hH=>by
 unfold Dj at h
 split at h
 ·injection h with h
  simp only [Prod.mk.injEq] at h;obtain ⟨rfl,rfl⟩:=h;obtain ⟨a,d,x⟩:=r;simp only at h0;subst h0;exact fo ts oK a x hx _ hH
 ·cases h
theorem Pc {ts:List Wd} {a:Int} {x:Option (Nat × Nat)} (s:List UInt8) (H:AH) (ha:0≤a) (hx:BO x) (hn:Aa ts ⟨a.toNat,0,x⟩ s=true) :
  oRr ts 106 (Dj ts) 106 [.ptr 0 0,.str s] (some (.box [AE ts,.int .i64 a,pAV x,.int .i64 (cI x)])::H)=some (.bool true,some (.box [AE ts,.int .i64 (a+1),pAV x,.int .i64 (cI x)])::H):=by
 rw [Hv hx (KT ha)];simp [Dj,GE,hn,St.step,Int.toNat_of_nonneg ha]
theorem Pd {ts:List Wd} {a:Int} {x:Option (Nat × Nat)} (s:List UInt8) (H:AH) (ha:0≤a) (hx:BO x) (hn:Aa ts ⟨a.toNat,0,x⟩ s=false) :
  oRr ts 106 (Dj ts) 106 [.ptr 0 0,.str s] (some (.box [AE ts,.int .i64 a,pAV x,.int .i64 (cI x)])::H)=some (.bool false,some (.box [AE ts,.int .i64 a,pAV x,.int .i64 (cI x)])::H):=by
 rw [Hv hx (KT ha)];simp [Dj,GE,hn,Int.toNat_of_nonneg ha]
theorem Pe {ts:List Wd} {of:Rd} (h:upw of) {f s:List UInt8} {one two:Nat}:∀(n:Nat) (e:Ex),upw (Cs ts of f one s two n e)
 |0,e,r=>Nat.le_refl _
 |n+1,e,r=>by
  have h1:=h r.step;simp only [Cs]
  split
  ·have:=Pe h (ts:=ts) (f:=f) (s:=s) (one:=one) (two:=two) n (.bin one e (of r.step).1) (of r.step).2
   simp only [St.step] at h1 this ⊢;omega
  ·split
   ·have:=Pe h (ts:=ts) (f:=f) (s:=s) (one:=one) (two:=two) n (.bin two e (of r.step).1) (of r.step).2
    simp only [St.step] at h1 this ⊢;omega
   ·exact Nat.le_refl _
theorem LK {ts:List Wd} {of:Rd} (h:upw of) {f s:List UInt8} {one two:Nat}:upw (FF ts of f one s two):=fun r=>Nat.le_trans (h r) (Pe h _ _ _)
def okE (of:Rd):Prop:=∀r,BO r.err→BO (of r).2.err
theorem Pf {ts:List Wd} {of:Rd} (h:okE of) {f s:List UInt8} {one two:Nat}:∀(n:Nat) (e:Ex),okE (Cs ts of f one s two n e)
 |0,e,r,hr=>hr
 |n+1,e,r,hr=>by
  have h1:=h r.step hr;simp only [Cs]
  split
  ·exact Pf h n _ _ h1
  ·split
   ·exact Pf h n _ _ h1
   ·exact hr
theorem Gu {ts:List Wd} {of:Rd} (h:okE of) {f s:List UInt8} {one two:Nat}:okE (FF ts of f one s two):=fun r hr=>Pf h _ _ _ (h r hr)
def JU (O:Orc) (ts:List Wd) (g:FuncId) (of:Rd) (n:Nat):Prop:=∀(a d:Int) (x:Option (Nat × Nat)) (H:AH),0≤a→0≤d→d≤20→BO x→ts.length-a.toNat<n →
 O g [.ptr 0 0,.int .i64 d] (some (.box [AE ts,.int .i64 a,pAV x,.int .i64 (cI x)])::H)=some (CH (of ⟨a.toNat,d.toNat,x⟩).1,some (.box (rrC ts (of ⟨a.toNat,d.toNat,x⟩).2.at_ (of ⟨a.toNat,d.toNat,x⟩).2.err))::H)
structure LL (O:Orc) (ts:List Wd):Prop where
 tookT:∀(a:Int) (x:Option (Nat × Nat)) (s:List UInt8) (H:AH),0≤a→BO x→Aa ts ⟨a.toNat,0,x⟩ s=true →
  O 106 [.ptr 0 0,.str s] (some (.box [AE ts,.int .i64 a,pAV x,.int .i64 (cI x)])::H)=some (.bool true,some (.box [AE ts,.int .i64 (a+1),pAV x,.int .i64 (cI x)])::H)
 tookF:∀(a:Int) (x:Option (Nat × Nat)) (s:List UInt8) (H:AH),0≤a→BO x→Aa ts ⟨a.toNat,0,x⟩ s=false →
  O 106 [.ptr 0 0,.str s] (some (.box [AE ts,.int .i64 a,pAV x,.int .i64 (cI x)])::H)=some (.bool false,some (.box [AE ts,.int .i64 a,pAV x,.int .i64 (cI x)])::H)
@[simp] theorem buY0:Aq zP 78 []=some (.agg [.int .i64 0,.int .i64 0,.str [],.nilSlice]):=by kernel_rfl
@[simp] theorem buY1 (k n:Int):Aq zP 78 [(0,.int .i64 k),(1,.int .i64 n)]=some (.agg [.int .i64 k,.int .i64 n,.str [],.nilSlice]):=by kernel_rfl
@[simp] theorem buY2 (k:Int) (s:List UInt8):Aq zP 78 [(0,.int .i64 k),(2,.str s)]=some (.agg [.int .i64 k,.int .i64 0,.str s,.nilSlice]):=by kernel_rfl
@[simp] theorem buY3 (k:Int) (ow:Own) (sz n:Nat) (cs:List AV):Aq zP 78 [(0,.int .i64 k),(3,.slice ow sz n cs)]=some (.agg [.int .i64 k,.int .i64 0,.str [],.slice ow sz n cs]):=by kernel_rfl
@[simp] theorem buY4 (k:Int) (s:List UInt8) (ow:Own) (sz n:Nat) (cs:List AV):Aq zP 78 [(0,.int .i64 k),(2,.str s),(3,.slice ow sz n cs)]=some (.agg [.int .i64 k,.int .i64 0,.str s,.slice ow sz n cs]):=by kernel_rfl
@[simp] theorem bsY1 (a b c d:AV):CK zP 76 1 [(0,.agg [a,b,c,d])]=some (.slice .full 4 1 [a,b,c,d]):=by kernel_rfl
@[simp] theorem bsY2 (a b c d e f g h:AV):CK zP 76 2 [(0,.agg [a,b,c,d]),(1,.agg [e,f,g,h])]=some (.slice .full 4 2 [a,b,c,d,e,f,g,h]):=by kernel_rfl
def fp (ts:List Wd) (of:Rd) (dd n:Nat) (res:Ex × St) (k:Nat) (t:List AV) (H:AH):Prop :=
 ∃(e:Ex) (r:St),Cs ts of De 7 Df 8 k e r=res∧ts.length-r.at_<k∧ts.length-r.at_<n∧r.deep=dd∧BO r.err ∧
  t=mkT 24 [(0,.ptr 0 0),(1,.int .i64 (dd:Int)),(4,.ptr 1 0),(5,.ptr 2 0)]∧H=[some (.box (rrC ts r.at_ r.err)),some (.box (exC .none)),some (.box (exC e))]
theorem fq (ts:List Wd) (oK:ts.length<1000000) {O:Orc} (X:Cx O zP Af) (hT:LL O ts) {of:Rd} {n:Nat} (hA:JU O ts 136 of n) (hu:upw of) (hd:∀r,(of r).2.deep=r.deep) (o6:okE of)
  (a dd:Nat) (x:Option (Nat × Nat)) (hx:BO x) (hr:dd≤20) (hn:ts.length-a<n) {H:AH} {id:Nat} (hH:H.at id=some (.box (rrC ts a x))) :
  CS zP Af 125 [.ptr id 0,.int .i64 (dd:Int)] H (CH (FF ts of De 7 Df 8 ⟨a,dd,x⟩).1) (H.set id (some (.box (rrC ts (FF ts of De 7 Df 8 ⟨a,dd,x⟩).2.at_ (FF ts of De 7 Df 8 ⟨a,dd,x⟩).2.err)))):=by
 refine CS.rd DB Tryz.func125 (by kernel_rfl) 0 (by simp [Tryz.f125]) (fun B hB hG => ?_) (by simp) (by simp) (FL _ _ _) (FL _ _ _) hH;have pC:(dd:Int)≤20:=by omega
 have h1:=fun H=>hA a dd x H (by omega) (by omega) pC hx (by simpa using hn)
 simp only [Int.toNat_natCast] at h1;have sV:=hu ⟨a,dd,x⟩;have oi:=hd ⟨a,dd,x⟩;have hk1:=o6 ⟨a,dd,x⟩ hx;simp only [FF];generalize vn:of ⟨a,dd,x⟩=p at *;obtain ⟨e,q⟩:=p;simp only at h1 sV oi hk1;refine Tr.goD X hG ?_;simp at h1;simp [Tryz.f125,h1]
 refine LpD.loopN X hG (fp ts of dd n (Cs ts of De 7 Df 8 (ts.length+1) e q)) (ts.length+1)
  (t':=mkT 24 [(0,.ptr 0 0),(1,.int .i64 (dd:Int)),(4,.ptr 1 0),(5,.ptr 2 0)])
  (H':=[some (.box (rrC ts q.at_ q.err)),some (.box (exC .none)),some (.box (exC e))]) (AD.mkK 3 (by simp [hB]) (by simp) (by simp) (by simp)) ⟨e,q,rfl,by omega,by omega,oi,hk1,rfl,rfl⟩ ?_
 rintro k t H ⟨e',r',oM,hk,ry,pi,o9,rfl,rfl⟩;cases k with
 |zero=>omega
 |succ k =>
  obtain ⟨b,d,y⟩:=r';simp only at hk ry pi o9;subst pi;have ol:∀s,Aa ts ⟨b,d,y⟩ s=Aa ts ⟨b,0,y⟩ s:=fun s=>rfl
  cases hf:Aa ts ⟨b,0,y⟩ De with
  |true =>
   have hl:b<ts.length:=Ew hf;have w1:IntKind.i64.wrap ((b:Int)+1)=(b:Int)+1:=Ab (by omega) (by omega);have h2:=fun H=>hA (b+1:Nat) d y H (by omega) (by omega) pC o9 (by simp only [Int.toNat_natCast];omega)
   have t1:=fun H=>hT.tookT b y De H (by omega) o9 (by simpa using hf)
   simp [De] at t1;simp at h2;simp [t1];refine LpD.turns X hG [4,7] [(0,4),(1,4)] ?_;simp [h2]
   refine Nxt.mk k (by omega) (AD.mkK 3 (l':=[(0,.ptr 0 0),(1,.int .i64 (d:Int)),(4,.ptr 1 0),(5,.ptr 2 0)])
    (H':=[some (.box (rrC ts (of ⟨b+1,d,y⟩).2.at_ (of ⟨b+1,d,y⟩).2.err)),some (.box (exC .none)),some (.box (exC (.bin 7 e' (of ⟨b+1,d,y⟩).1)))]) (by simp [hB]) (by simp) (by simp) (by simp))
    ⟨.bin 7 e' (of ⟨b+1,d,y⟩).1,(of ⟨b+1,d,y⟩).2,?_,?_,?_,?_,o6 ⟨b+1,d,y⟩ o9,rfl,rfl⟩
   ·rw [←oM];simp [Cs,ol,hf,St.step]
   ·have:=hu ⟨b+1,d,y⟩;simp only at this;omega
   ·have:=hu ⟨b+1,d,y⟩;simp only at this;omega
   ·exact hd ⟨b+1,d,y⟩
  |false =>
   have t1:=fun H=>hT.tookF b y De H (by omega) o9 (by simpa using hf)
   simp [De] at t1;cases hs:Aa ts ⟨b,0,y⟩ Df with
   |true =>
    have hl:b<ts.length:=Ew hs;have w1:IntKind.i64.wrap ((b:Int)+1)=(b:Int)+1:=Ab (by omega) (by omega);have h2:=fun H=>hA (b+1:Nat) d y H (by omega) (by omega) pC o9 (by simp only [Int.toNat_natCast];omega)
    have t2:=fun H=>hT.tookT b y Df H (by omega) o9 (by simpa using hs)
    simp [Df] at t2;simp at h2;simp [t1,t2];refine LpD.turns X hG [4,7] [(0,4),(1,4)] ?_;simp [h2]
    refine Nxt.mk k (by omega) (AD.mkK 3 (l':=[(0,.ptr 0 0),(1,.int .i64 (d:Int)),(4,.ptr 1 0),(5,.ptr 2 0)])
     (H':=[some (.box (rrC ts (of ⟨b+1,d,y⟩).2.at_ (of ⟨b+1,d,y⟩).2.err)),some (.box (exC .none)),some (.box (exC (.bin 8 e' (of ⟨b+1,d,y⟩).1)))]) (by simp [hB]) (by simp) (by simp) (by simp))
     ⟨.bin 8 e' (of ⟨b+1,d,y⟩).1,(of ⟨b+1,d,y⟩).2,?_,?_,?_,?_,o6 ⟨b+1,d,y⟩ o9,rfl,rfl⟩
    ·rw [←oM];simp [Cs,ol,hf,hs,St.step]
    ·have:=hu ⟨b+1,d,y⟩;simp only at this;omega
    ·have:=hu ⟨b+1,d,y⟩;simp only at this;omega
    ·exact hd ⟨b+1,d,y⟩
   |false =>
    have t2:=fun H=>hT.tookF b y Df H (by omega) o9 (by simpa using hs)
    simp [Df] at t2;have om:Cs ts of De 7 Df 8 (k+1) e' ⟨b,d,y⟩=(e',⟨b,d,y⟩):=by simp [Cs,ol,hs,hf]
    rw [←oM,om];simp [t1,t2]
def ft (ts:List Wd) (of:Rd) (dd n:Nat) (res:Ex × St) (k:Nat) (t:List AV) (H:AH):Prop :=
 ∃(e:Ex) (r:St),Cs ts of EI 5 Bb 6 k e r=res∧ts.length-r.at_<k∧ts.length-r.at_<n∧r.deep=dd∧BO r.err ∧
  t=mkT 24 [(0,.ptr 0 0),(1,.int .i64 (dd:Int)),(4,.ptr 1 0),(5,.ptr 2 0)]∧H=[some (.box (rrC ts r.at_ r.err)),some (.box (exC .none)),some (.box (exC e))]
theorem fu (ts:List Wd) (oK:ts.length<1000000) {O:Orc} (X:Cx O zP Af) (hT:LL O ts) {of:Rd} {n:Nat} (hA:JU O ts 125 of n) (hu:upw of) (hd:∀r,(of r).2.deep=r.deep) (o6:okE of)
  (a dd:Nat) (x:Option (Nat × Nat)) (hx:BO x) (hr:dd≤20) (hn:ts.length-a<n) {H:AH} {id:Nat} (hH:H.at id=some (.box (rrC ts a x))) :
  CS zP Af 102 [.ptr id 0,.int .i64 (dd:Int)] H (CH (FF ts of EI 5 Bb 6 ⟨a,dd,x⟩).1) (H.set id (some (.box (rrC ts (FF ts of EI 5 Bb 6 ⟨a,dd,x⟩).2.at_ (FF ts of EI 5 Bb 6 ⟨a,dd,x⟩).2.err)))):=by
 refine CS.rd DB Tryz.func102 (by kernel_rfl) 0 (by simp [Tryz.f102]) (fun B hB hG => ?_) (by simp) (by simp) (FL _ _ _) (FL _ _ _) hH;have pC:(dd:Int)≤20:=by omega
 have h1:=fun H=>hA a dd x H (by omega) (by omega) pC hx (by simpa using hn)
 simp only [Int.toNat_natCast] at h1;have sV:=hu ⟨a,dd,x⟩;have oi:=hd ⟨a,dd,x⟩;have hk1:=o6 ⟨a,dd,x⟩ hx;simp only [FF];generalize vn:of ⟨a,dd,x⟩=p at *;obtain ⟨e,q⟩:=p;simp only at h1 sV oi hk1;refine Tr.goD X hG ?_;simp at h1;simp [Tryz.f102,h1]
 refine LpD.loopN X hG (ft ts of dd n (Cs ts of EI 5 Bb 6 (ts.length+1) e q)) (ts.length+1)
  (t':=mkT 24 [(0,.ptr 0 0),(1,.int .i64 (dd:Int)),(4,.ptr 1 0),(5,.ptr 2 0)])
  (H':=[some (.box (rrC ts q.at_ q.err)),some (.box (exC .none)),some (.box (exC e))]) (AD.mkK 3 (by simp [hB]) (by simp) (by simp) (by simp)) ⟨e,q,rfl,by omega,by omega,oi,hk1,rfl,rfl⟩ ?_
 rintro k t H ⟨e',r',oM,hk,ry,pi,o9,rfl,rfl⟩;cases k with
 |zero=>omega
 |succ k =>
  obtain ⟨b,d,y⟩:=r';simp only at hk ry pi o9;subst pi;have ol:∀s,Aa ts ⟨b,d,y⟩ s=Aa ts ⟨b,0,y⟩ s:=fun s=>rfl
  cases hf:Aa ts ⟨b,0,y⟩ EI with
  |true =>
   have hl:b<ts.length:=Ew hf;have w1:IntKind.i64.wrap ((b:Int)+1)=(b:Int)+1:=Ab (by omega) (by omega);have h2:=fun H=>hA (b+1:Nat) d y H (by omega) (by omega) pC o9 (by simp only [Int.toNat_natCast];omega)
   have t1:=fun H=>hT.tookT b y EI H (by omega) o9 (by simpa using hf)
   simp [EI] at t1;simp at h2;simp [t1];refine LpD.turns X hG [4,7] [(0,4),(1,4)] ?_;simp [h2]
   refine Nxt.mk k (by omega) (AD.mkK 3 (l':=[(0,.ptr 0 0),(1,.int .i64 (d:Int)),(4,.ptr 1 0),(5,.ptr 2 0)])
    (H':=[some (.box (rrC ts (of ⟨b+1,d,y⟩).2.at_ (of ⟨b+1,d,y⟩).2.err)),some (.box (exC .none)),some (.box (exC (.bin 5 e' (of ⟨b+1,d,y⟩).1)))]) (by simp [hB]) (by simp) (by simp) (by simp))
    ⟨.bin 5 e' (of ⟨b+1,d,y⟩).1,(of ⟨b+1,d,y⟩).2,?_,?_,?_,?_,o6 ⟨b+1,d,y⟩ o9,rfl,rfl⟩
   ·rw [←oM];simp [Cs,ol,hf,St.step]
   ·have:=hu ⟨b+1,d,y⟩;simp only at this;omega
   ·have:=hu ⟨b+1,d,y⟩;simp only at this;omega
   ·exact hd ⟨b+1,d,y⟩
  |false =>
   have t1:=fun H=>hT.tookF b y EI H (by omega) o9 (by simpa using hf)
   simp [EI] at t1;cases hs:Aa ts ⟨b,0,y⟩ Bb with
   |true =>
    have hl:b<ts.length:=Ew hs;have w1:IntKind.i64.wrap ((b:Int)+1)=(b:Int)+1:=Ab (by omega) (by omega);have h2:=fun H=>hA (b+1:Nat) d y H (by omega) (by omega) pC o9 (by simp only [Int.toNat_natCast];omega)
    have t2:=fun H=>hT.tookT b y Bb H (by omega) o9 (by simpa using hs)
    simp [Bb] at t2;simp at h2;simp [t1,t2];refine LpD.turns X hG [4,7] [(0,4),(1,4)] ?_;simp [h2]
    refine Nxt.mk k (by omega) (AD.mkK 3 (l':=[(0,.ptr 0 0),(1,.int .i64 (d:Int)),(4,.ptr 1 0),(5,.ptr 2 0)])
     (H':=[some (.box (rrC ts (of ⟨b+1,d,y⟩).2.at_ (of ⟨b+1,d,y⟩).2.err)),some (.box (exC .none)),some (.box (exC (.bin 6 e' (of ⟨b+1,d,y⟩).1)))]) (by simp [hB]) (by simp) (by simp) (by simp))
     ⟨.bin 6 e' (of ⟨b+1,d,y⟩).1,(of ⟨b+1,d,y⟩).2,?_,?_,?_,?_,o6 ⟨b+1,d,y⟩ o9,rfl,rfl⟩
    ·rw [←oM];simp [Cs,ol,hf,hs,St.step]
    ·have:=hu ⟨b+1,d,y⟩;simp only at this;omega
    ·have:=hu ⟨b+1,d,y⟩;simp only at this;omega
    ·exact hd ⟨b+1,d,y⟩
   |false =>
    have t2:=fun H=>hT.tookF b y Bb H (by omega) o9 (by simpa using hs)
    simp [Bb] at t2;have om:Cs ts of EI 5 Bb 6 (k+1) e' ⟨b,d,y⟩=(e',⟨b,d,y⟩):=by simp [Cs,ol,hs,hf]
    rw [←oM,om];simp [t1,t2]
end Go.Proofs.YtmjfldclpijghaaGreatDoor
