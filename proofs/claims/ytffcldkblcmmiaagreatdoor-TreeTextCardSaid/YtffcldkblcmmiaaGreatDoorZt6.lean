/- internal/stringslite.Clone tells the same bytes (after the s .. The reference's reader of expressions: fail, sign, took. The -/
import Derived.Test.YtffcldkblcmmiaaGreatDoorZt5
import Derived.Lib.BufferWrite
import Derived.Lib.UnsafeStr
import Derived.Lib.Hide
import Derived.Laws.MakeOwn
set_option linter.unusedSimpArgs false
set_option linter.unusedVariables false
namespace Go.Proofs.YtffcldkblcmmiaaGreatDoor
open Go.RowKit Go.Proofs.Fw
set_option maxHeartbeats 4000000 in
set_option maxRecDepth 100000 in
theorem i8 (s:ByteArray) (w:World) (zBn:s.size≤281474976710656) :
  Calls Tryz.prog 151 #[.string s] w fun e w'=>e = .returned (.string s)∧Below w.heap.size w w':=by
 have L37:Tryz.prog.underlying 148=some (.slice 5):=by kernel_rfl
 have L127:Tryz.prog.underlying 271=some (.pointer 5):=by kernel_rfl
 by_cases h0:s.size=0
 ·have hs:s=⟨#[]⟩:=by
   apply ByteArray.ext;exact Array.eq_empty_of_size_eq_zero h0
  subst hs
  go_enter Tryz.func151,Tryz.ntmps151
  go_wp2
  go_ret
  exact ⟨rfl,Below.refl _ _⟩
 ·have i5:(Tryz.prog.info? 5).map (fun i=>(i.zero,i.size,i.bytes))=some (some (Value.int IntKind.u8 0),1,1):=by kernel_rfl
  obtain ⟨i0,hi,wH,uS,tw⟩:=info_parts i5;have zCI:(Tryz.prog.info? 5).map (·.size)=some 1:=by rw [hi];simp [uS]
  have hco:Tryz.prog.cellsOf 5=1:=by simp [Program.cellsOf,hi,uS]
  obtain ⟨M,hM⟩:∃M,M=madeCells (Value.int .u8 0).cells (((s.size:Nat):Int).toNat*i0.size):=⟨_,rfl⟩
  have hMs:M.size=s.size:=by rw [hM,size_madeCells,uS];simp
  have hmk:∀W:World,(Instr.makeSlice 148 (.int .i64 (s.size:Int)) (.int .i64 (s.size:Int))).run Tryz.prog W = .ok (.slice (some ⟨W.heap.size,0,none⟩) s.size s.size) (W.alloc (.cells M 5)):=fun W=>by have h:=run_make (P:=Tryz.prog) W 148 5 i0 (.int .u8 0) L37 hi wH .i64 .i64 (s.size:Int) (s.size:Int) (by omega) (by omega) (by rw [tw];omega) (by omega);rw [←hM] at h;simpa using h
  clear hM;have hcp:=Lib.run_copy_row_string (P:=Tryz.prog) (w.alloc (.cells M 5)) 148 9 3 5 w.heap.size 0 s.size s.size s M 5 L37 zCI (heap_alloc_new w _) (Nat.le_refl _) (by omega);obtain ⟨Y,hY⟩:∃Y,Y=(M.toList.take 0++Lib.byteCells s.data.toList++M.toList.drop (0+s.size)).toArray:=⟨_,rfl⟩
  rw [←hY] at hcp
  have hYl:Y.toList=Lib.byteCells s.data.toList:=by rw [hY,List.toList_toArray,List.take_zero,List.nil_append,List.drop_of_length_le (by rw [Array.length_toList];omega),List.append_nil]
  have hYs:Y.size=s.size:=by rw [←Array.length_toList,hYl,Lib.byteCells_length,←Lib.size_eq]
  have hgY:((w.alloc (.cells M 5)).setRow w.heap.size Y).heap[w.heap.size]? = some (.cells Y 5 (0,0)):=setRow_heap _ _ M _ 5 (0,0) (heap_alloc_new w _);have sU:s.data.toList≠[]:=fun e=>h0 (by rw [Lib.size_eq,e];rfl)
  have hUS:=Lib.run_unsafeString_row (P:=Tryz.prog) ((w.alloc (.cells M 5)).setRow w.heap.size Y) 271 3 9 5 L127 hco w.heap.size Y.size (by unfold World.shape?;rw [hgY]) s.data.toList sU (by rw [←Lib.size_eq];omega) (by rw [←Lib.size_eq];omega)
   (fun j x hx=>Lib.cells_of_row hgY Y.size j _ (by rw [List.take_of_length_le (by rw [Array.length_toList];exact Nat.le_refl _),hYl];simp [Lib.byteCells,hx]))
  rw [←Lib.size_eq] at hUS;clear hY
  go_enter Tryz.func151,Tryz.ntmps151
  go_wp2
  go_ret
  have so:Below w.heap.size w (w.alloc (.cells M 5)):=(Below.refl _ w).alloc (Nat.le_refl _) _;have sh:Below w.heap.size (w.alloc (.cells M 5)) ((w.alloc (.cells M 5)).setRow w.heap.size Y):=⟨rfl,rfl,rfl,by simp,fun k hk=>setRow_other _ _ _ _ (by omega)⟩
  exact ⟨rfl,Lib.below_freeze (so.trans sh) (p:=⟨w.heap.size,0,none⟩) (Nat.le_refl _) _⟩
theorem i9 (E:Env) (s:List UInt8) (H:AH) (hs:s.length≤281474976710656):CS zP E 151 [.str s] H (.str s) H:=by
 refine CS.of_below fun g w cargs hA => ?_
 simp only [AB,AA] at hA;obtain ⟨_,_,rfl,rfl,rfl⟩:=hA;refine (i8 ⟨s.toArray⟩ w (by simpa [ByteArray.size] using hs)).mono fun e w' => ?_
 rintro ⟨rfl,hb⟩;exact ⟨_,rfl,fun g=>by simp only [AA],hb⟩
set_option maxRecDepth 100000
set_option maxHeartbeats 4000000
theorem jA (a b:Int):aeq zP 27 (.iface 240 (.int .i64 a)) (.iface 240 (.int .i64 b))=some (a==b):=by kernel_rfl
theorem jB:AM.glob 7=Px:=rfl
theorem jC:AM.imm 258=true:=rfl
theorem jD (a b:List UInt8) (t:TypeId) (v:AV):Ay zP 258 [(0,.str a),(1,.str b),(2,.iface t v)]=some (.agg [.str a,.str b,.iface t v]):=by kernel_rfl
def Hh (f s:List UInt8):AV := .vptr [.str f,.str s,.iface 272 (.vptr [.str Un] 0)] 0
theorem jE (O:Orc) (X:Cx O zP AM) (f s:List UInt8) (h64:∀H,O 151 [.str s] H=some (.str s,H)) (H:AH):CS zP AM 141 [.str f,.str s] H (Hh f s) H :=
 (CS.of_Tr (H0:=[]) (H1:=[]) (c:=At Tryz.f141) Tryz.func141 (by kernel_rfl) 0 (by simp [Tryz.f141]) (fun B hB hG=>by
  refine Tr.run X hG (by kernel_rfl) ?_;rw [Dy]
  simp [Tryz.f141,h64,jB,Px,jD,jC,Hh]) rfl rfl).frame Ew rfl H
theorem jG (O:Orc) (X:Cx O zP AM) (f s:List UInt8) (h57:∀H,O 141 [.str f,.str s] H=some (Hh f s,H)) (H:AH) :
  CS zP AM 126 [.str f,.str s,.int .i64 10,.int .i64 64,.iface 240 (.int .i64 1)] H (.iface 243 (Hh f s)) H :=
 (CS.of_Tr (H0:=[]) (H1:=[]) (c:=At Tryz.f126) Tryz.func126 (by kernel_rfl) 0 (by simp [Tryz.f126]) (fun B hB hG=>by
  refine Tr.run X hG (by kernel_rfl) ?_;rw [Dy]
  simp [Tryz.f126,h57,↓jA,Hh]) rfl rfl).frame Ew rfl H
def NP:List UInt8:=[80,97,114,115,101,73,110,116]
def Kf (s:List UInt8):AV:=if Ba s<9223372036854775808 then .tup [.int .i64 (Ba s),.nilIface] else .tup [.int .i64 9223372036854775807,.iface 243 (Hh NP s)]
theorem jH (O:Orc) (X:Cx O zP AM) (s:List UInt8) (yk:∀H,O 125 [.str s,.int .i64 10,.int .i64 64] H=some (Ij s,H))
  (h49:∀H,O 126 [.str NP,.str s,.int .i64 10,.int .i64 64,.iface 240 (.int .i64 1)] H=some (.iface 243 (Hh NP s),H)) (H:AH) :
  CS zP AM 100 [.str s,.int .i64 10,.int .i64 64] H (Kf s) H:=by
 refine CS.frame (CS.of_Tr (H0:=[]) (H1:=[]) (c:=At Tryz.f100) Tryz.func100 (by kernel_rfl) 0 (by simp [Tryz.f100]) (fun B hB hG => ?_) ?_ rfl) Ew rfl H
 ·refine Tr.run X hG (by kernel_rfl) ?_
  rw [Dy];unfold Ij at yk;unfold Kf;unfold NP at h49 ⊢
  by_cases h:Ba s<9223372036854775808
  ·rw [if_pos h] at yk ⊢
   simp [Tryz.f100,yk]
  ·rw [if_neg h] at yk ⊢
   simp [Tryz.f100,yk,h49,Hh]
 ·unfold Kf
  split<;>rfl
def DW (s:List UInt8):Bool:=decide (1≤s.length)&&(s.drop (s.length-1)==[10])
def CD (s:List UInt8):List UInt8:=if DW s then s.take (s.length-1) else s
theorem jI (O:Orc) (s:List UInt8) (N:Nat) (H:AH) (hs:s.length<9223372036854775807):Az O zP AM N 121 [.str s,.str [10]] H=some (.bool (DW s),H):=by
 by_cases h:1≤s.length
 ·have h1:(1:Int)≤(s.length:Int):=by omega
  have w:IntKind.i64.wrap ((s.length:Int)-1)=((s.length-1:Nat):Int):=by rw [AZ (by omega) (by omega)];omega
  have k1:((s.length-1:Nat):Int)≤(s.length:Int):=by omega
  simp [Tryz.func121,Tryz.f121,Az,AL,Bf,AX,Ap,Ai,grow,A8,Ax,AU,callee,aop,AT,AC,BP,BW,BU,AQ,BE,BK,alen,BI,Bc,Be,aun,BQ,BG,BZ,BR,BS,BV,Au,BH,BO,BA,BM,A9,aeq,DW,h,h1,w,k1,Tryz.underlying9]
 ·have h1:¬(1:Int)≤(s.length:Int):=by omega
  simp [Tryz.func121,Tryz.f121,Az,AL,Bf,AX,Ap,Ai,grow,A8,Ax,AU,callee,aop,AT,AC,BP,BW,BU,AQ,BE,BK,alen,BI,Bc,Be,aun,BQ,BG,BZ,BR,BS,BV,Au,BH,BO,BA,BM,A9,aeq,DW,h,h1]
theorem go53:AI zP 121=true:=EO _ (by simp)
theorem go46:AI zP 94=true:=EO _ (by simp)
theorem go32:AI zP 69=true:=EO _ (by simp)
theorem go33:AI zP 70=true:=EO _ (by simp)
theorem go47:AI zP 95=true:=EO _ (by simp)
theorem jJ (O:Orc) (s:List UInt8) (N:Nat) (H:AH) (hs:s.length<9223372036854775807) (ho:O 121 [.str s,.str [10]] H=some (.bool (DW s),H)) :
  Az O zP AM N 94 [.str s,.str [10]] H=some (.tup [.str (CD s),.bool (DW s)],H):=by
 unfold CD;cases h:DW s
 ·rw [h] at ho
  simp [Tryz.func94,Tryz.f94,Az,AL,Bf,AX,Ap,Ai,grow,A8,Ax,AU,callee,aop,AT,AC,BP,BW,BU,AQ,BE,BK,alen,BI,Bc,Be,aun,BQ,BG,BZ,BR,BS,BV,Au,BH,BO,BA,BM,A9,aeq,go53,ho]
 ·rw [h] at ho
  have h1:1≤s.length:=by unfold DW at h;simp only [Bool.and_eq_true,decide_eq_true_eq] at h;exact h.1
  have w:IntKind.i64.wrap ((s.length:Int)-1)=((s.length-1:Nat):Int):=by rw [AZ (by omega) (by omega)];omega
  have k1:((s.length-1:Nat):Int)≤(s.length:Int):=by omega
  simp [Tryz.func94,Tryz.f94,Az,AL,Bf,AX,Ap,Ai,grow,A8,Ax,AU,callee,aop,AT,AC,BP,BW,BU,AQ,BE,BK,alen,BI,Bc,Be,aun,BQ,BG,BZ,BR,BS,BV,Au,BH,BO,BA,BM,A9,aeq,go53,ho,w,k1,Tryz.underlying9]
theorem jK (O:Orc) (s:List UInt8) (N:Nat) (H:AH) (ho:O 94 [.str s,.str [10]] H=some (.tup [.str (CD s),.bool (DW s)],H)) :
  Az O zP AM N 69 [.str s,.str [10]] H=some (.tup [.str (CD s),.bool (DW s)],H):=by
 simp [Tryz.func69,Tryz.f69,Az,AL,Bf,AX,Ap,Ai,grow,A8,Ax,AU,callee,aop,AT,AC,BP,BW,BU,AQ,BE,BK,alen,BI,Bc,Be,aun,BQ,BG,BZ,BR,BS,BV,Au,BH,BO,BA,BM,A9,aeq,go46,ho]
theorem jL (O:Orc) (s:List UInt8) (c m:Int) (N:Nat) (H:AH) (ho:O 95 [.str s,.int .u8 c] H=some (.int .i64 m,H)):Az O zP AM N 70 [.str s,.int .u8 c] H=some (.int .i64 m,H):=by simp [Tryz.func70,Tryz.f70,Az,AL,Bf,AX,Ap,Ai,grow,A8,Ax,AU,callee,aop,AT,AC,BP,BW,BU,AQ,BE,BK,alen,BI,Bc,Be,aun,BQ,BG,BZ,BR,BS,BV,Au,BH,BO,BA,BM,A9,aeq,go47,ho]
def G9 (s:List UInt8):List UInt8:=if DW s then [10] else []
theorem jM (O:Orc) (s:List UInt8) (m:Int) (N:Nat) (H:AH) (wN:O 69 [.str s,.str [10]] H=some (.tup [.str (CD s),.bool (DW s)],H)) (vr:O 70 [.str (CD s),.int .u8 33] H=some (.int .i64 m,H)) (hm:m<0) :
  Az O zP AM N 48 [.str s] H=some (.tup [.str (CD s),.str [],.str (G9 s)],H):=by
 have hm':¬(0:Int)≤m:=by omega
 unfold G9
 cases h:DW s<;>rw [h] at wN <;>
  simp [Tryz.func48,Tryz.f48,Az,AL,Bf,AX,Ap,Ai,grow,A8,Ax,AU,callee,aop,AT,AC,BP,BW,BU,AQ,BE,BK,alen,BI,Bc,Be,aun,BQ,BG,BZ,BR,BS,BV,Au,BH,BO,BA,BM,A9,aeq,go32,go33,wN,vr,hm']
noncomputable def P16:Code:=Aj (Aj (Bi (Aj (Aj (Aj (At Tryz.f48))))))
noncomputable def R16:Code:=UI P16
theorem p16:P16 = .cond (.tmp 16) (.region 6 (Ha R16) true) .skip:=by kernel_rfl
theorem jN:Ai AM (Ha R16).toList=0:=by kernel_rfl
theorem jO (n:Nat):JX (Ha R16) (EB 0 (CU [] (Ha R16).toList) (AX AM (Ha R16).toList n))=true:=by kernel_rfl
theorem jP:GR 0 (Ha R16).toList=true:=by kernel_rfl
theorem jQ (O:Orc) (b:List UInt8) (m:Nat) (t:List AV) (H:AH) (hl:t.length=26) (h2:t[2]? = some (.str b)) (h6:t[6]? = some (.int .i64 m)) (hm:m≤b.length) (Q:List AV→Prop)
  (hQ:∀t':List AV,t'.length=26→t'[2]? = some (.str (b.take m))→t'[3]? = some (.str (b.drop m))→t'[4]? = t[4]? → Q t') :
  ∃t',Ed O zP AM (Ha R16) t H=some (t',H)∧Q t':=by
 obtain ⟨_,g2⟩:=List.getElem?_eq_some_iff.1 h2;obtain ⟨_,g6⟩:=List.getElem?_eq_some_iff.1 h6;have k1:(m:Int)≤(b.length:Int):=by omega
 have key:∃t',evP O zP AM (Ha R16) (AX AM (Ha R16).toList H.length) t H=some t'∧Q t':=by simp [evP,Ck,BJ,BF,R16,P16,At,Tryz.f48,UI,Bi,Aj,Ha,Az,AL,Bf,AX,Ap,Ai,grow,A8,Ax,AU,callee,aop,AT,AC,BP,BW,BU,AQ,BE,BK,alen,BI,Bc,Be,aun,BQ,BG,BZ,BR,BS,BV,Au,BH,BO,BA,BM,A9,aeq,Fy,hl,g2,g6,k1,Tryz.underlying9];refine hQ _ ?_ ?_ ?_ ?_<;>simp [hl]
 obtain ⟨t',h1,h2⟩:=key;exact ⟨t',UN jN h1 jO jP,h2⟩
theorem jR (O:Orc) (s:List UInt8) (t:List AV) (N:Nat) (H:AH) (hl:t.length=26) (h0:t[0]? = some (.str s)) (wN:O 69 [.str s,.str [10]] H=some (.tup [.str (CD s),.bool (DW s)],H)) (Q:AEx→List AV→AH→Prop)
  (hQ:∀t':List AV,t'.length=26→t'[2]? = some (.str (CD s))→t'[4]? = some (.str (G9 s))→Q .normal t' H):Al (AL O zP AM N (DL 3 (At Tryz.f48)) t H) Q:=by
 obtain ⟨_,g0⟩:=List.getElem?_eq_some_iff.1 h0;unfold G9 at hQ
 cases h:DW s<;>rw [h] at wN hQ <;>
  simp [At,Tryz.f48,DL,Az,AL,Bf,AX,Ap,Ai,grow,A8,Ax,AU,callee,aop,AT,AC,BP,BW,BU,AQ,BE,BK,alen,BI,Bc,Be,aun,BQ,BG,BZ,BR,BS,BV,Au,BH,BO,BA,BM,A9,aeq,Al,hl,g0,go32,wN] <;>
  (refine hQ _ ?_ ?_ ?_<;>simp [hl])
noncomputable def t16:Code:=Aj (Aj (Aj (At Tryz.f48)))
theorem jS:Cz 3 (At Tryz.f48)=t16:=by kernel_rfl
noncomputable def x16:Code:=Bi t16
theorem jT (O:Orc) (b:List UInt8) (m:Nat) (t:List AV) (N:Nat) (H:AH) (hl:t.length=26) (h2:t[2]? = some (.str b)) (vr:O 70 [.str b,.int .u8 33] H=some (.int .i64 m,H)) (Q:AEx→List AV→AH→Prop)
  (hQ:∀t':List AV,t'.length=26→t'[2]? = t[2]? → t'[4]? = t[4]? → t'[6]? = some (.int .i64 m)→t'[16]? = some (.bool true)→Q .normal t' H):Al (AL O zP AM N (DL 2 x16) t H) Q:=by
 obtain ⟨_,g2⟩:=List.getElem?_eq_some_iff.1 h2;simp [x16,t16,At,Tryz.f48,DL,Bi,Aj,Az,AL,Bf,AX,Ap,Ai,grow,A8,Ax,AU,callee,aop,AT,AC,BP,BW,BU,AQ,BE,BK,alen,BI,Bc,Be,aun,BQ,BG,BZ,BR,BS,BV,Au,BH,BO,BA,BM,A9,aeq,Al,hl,g2,go33,vr];refine hQ _ ?_ ?_ ?_ ?_ ?_<;>simp [hl,g2]
theorem jU:Cz 2 x16=P16:=by kernel_rfl
theorem jV (O:Orc) (x y z:AV) (t:List AV) (N:Nat) (H:AH) (hl:t.length=26) (h2:t[2]? = some x) (h3:t[3]? = some y) (h4:t[4]? = some z) (Q:AEx→List AV→AH→Prop)
  (hQ:∀t':List AV,t'.length=26→t'[2]? = some x→t'[3]? = some y→t'[4]? = some z→Q .ret t' H):Al (AL O zP AM N (Aj t16) t H) Q:=by
 obtain ⟨_,g2⟩:=List.getElem?_eq_some_iff.1 h2;obtain ⟨_,g3⟩:=List.getElem?_eq_some_iff.1 h3;obtain ⟨_,g4⟩:=List.getElem?_eq_some_iff.1 h4;simp [t16,At,Tryz.f48,Aj,Az,AL,Bf,AX,Ap,Ai,grow,A8,Ax,AU,callee,aop,AT,AC,BP,BW,BU,AQ,BE,BK,alen,BI,Bc,Be,aun,BQ,BG,BZ,BR,BS,BV,Au,BH,BO,BA,BM,A9,aeq,Al,hl,g2,g3,g4];refine hQ _ ?_ ?_ ?_ ?_<;>simp [hl]
theorem jW (t:List AV) (H:AH) (x y z:AV) (h2:t[2]? = some x) (h3:t[3]? = some y) (h4:t[4]? = some z):fin zP Tryz.f48 (some (.ret,t,H))=some (.tup [x,y,z],H):=by simp [fin,Tryz.f48,BE,h2,h3,h4,BK]
theorem jX (O:Orc) (s:List UInt8) (m:Nat) (N:Nat) (H:AH) (wN:O 69 [.str s,.str [10]] H=some (.tup [.str (CD s),.bool (DW s)],H)) (vr:O 70 [.str (CD s),.int .u8 33] H=some (.int .i64 m,H)) (hm:m≤(CD s).length) :
  Az O zP AM N 48 [.str s] H=some (.tup [.str ((CD s).take m),.str ((CD s).drop m),.str (G9 s)],H):=by
 refine Ph (c:=At Tryz.f48) Tryz.func48 (by kernel_rfl) ?_;refine Al.split 3 _ ?_;refine jR O s _ _ H (by simp [Tryz.f48]) (by rfl) wN _ ?_;intro t hl k2 k4
 show Al (AL O zP AM N (Cz 3 (At Tryz.f48)) t H) _
 rw [jS];refine Al.seq (A:=x16) (B:=Aj t16) (by kernel_rfl) ?_;refine Al.split 2 _ ?_;refine jT O _ m t _ H hl k2 vr _ ?_;intro t2 se j2 j4 j6 j16
 show Al (AL O zP AM N (Cz 2 x16) t2 H) _
 rw [jU,p16];obtain ⟨t3,e3,sq,i2,i3,i4⟩:=jQ O (CD s) m t2 H se (j2.trans k2) j6 hm (fun t'=>t'.length=26∧t'[2]? = some (.str ((CD s).take m))∧t'[3]? = some (.str ((CD s).drop m))∧t'[4]? = t2[4]?) (fun t' a b c d=>⟨a,b,c,d⟩);have hc:AC AM t2 (.tmp 16) = .bool true:=by simp [AC,j16]
 simp only [AL,hc,if_true,e3];refine Al.some_iff.2 ?_
 show Al (AL O zP AM N (Aj t16) t3 H) (fun e t H'=>fin zP Tryz.f48 (some (e,t,H'))=some (.tup [.str ((CD s).take m),.str ((CD s).drop m),.str (G9 s)],H))
 refine jV O _ _ _ t3 _ H sq i2 i3 (i4.trans (j4.trans k4)) _ ?_;intro t4 xr a b c
 show fin zP Tryz.f48 (some (.ret,t4,H))=_
 rw [jW t4 H _ _ _ a b c]
def B7:Nat:=137438953470
theorem ER:B7=137438953470:=rfl
def NQ:Orc:=B5 96 (fun args=>match args with
  |[.str s,.func (.func g) [] []]=>if s.length<B7 then (if g=97 then some (Bk,s) else if g=99 then some (A6,s) else none) else none
  |_=>none) fun x => .int .i64 (Aq x.1 x.2)
theorem jY:AS zP AM NQ:=EK fun args x H h=>by
 split at h
 ·rename_i s g
  split at h
  ·rename_i hs
   rw [ER] at hs
   split at h
   ·rename_i hg
    subst hg;injection h with h;subst h;exact zAD La DN Ae (Us GY s _ Bk (EO _ (by simp)) gV (by omega) H)
   ·split at h
    ·rename_i hg
     subst hg;injection h with h;subst h;exact zAD La DN Ae (Us GY s _ A6 (EO _ (by simp)) Ur (by omega) H)
    ·cases h
  ·cases h
 ·cases h
def QC:Orc:=B5 101 (fun args=>match args with
  |[.str (c::r)]=>some (c,r)
  |_=>none) fun x => .int .i64 (Cl (x.1::x.2))
theorem jZ:AS zP AM QC:=EK fun args x H h=>by
 split at h
 ·injection h with h
  subst h;exact zAD Ih DN Ae (gq G5 _ _ H)
 ·cases h
def Kg:List AV→Option (List UInt8)
 |[.str s,.int .i64 10,.int .i64 64]=>if s≠[]∧s.length<B7∧s.all (fun b=>decide (48≤b.toNat)&&decide (b.toNat≤57))=true then some s else none
 |_=>none
theorem QD {args:List AV} {s:List UInt8} (h:Kg args=some s):args=[.str s,.int .i64 10,.int .i64 64]∧s≠[]∧s.length<B7∧IC s:=by
 unfold Kg at h
 split at h
 ·split at h
  ·rename_i s' hs
   injection h with h;subst h;obtain ⟨h1,h2,h3⟩:=hs;refine ⟨rfl,h1,h2,fun b hb => ?_⟩;have:=List.all_eq_true.1 h3 b hb;simpa using this
  ·cases h
 ·cases h
theorem QE {s:List UInt8} (h1:s≠[]) (h2:s.length<B7) (h3:IC s):Kg [.str s,.int .i64 10,.int .i64 64]=some s:=by exact if_pos ⟨h1,h2,List.all_eq_true.2 fun b hb=>by simpa using h3 b hb⟩
def oPu:Orc:=B5 139 Kg Ii
theorem ja:AS zP AM oPu:=EK fun args x H h=>by obtain ⟨rfl,h1,h2,h3⟩:=QD h;rw [ER] at h2;exact zAD Ih DN Ae (hJ G5 x h1 h3 (by omega) H)
def oPi:Orc:=B5 125 Kg Ij
theorem jb:AS zP AM oPi:=EK fun args x H h=>by obtain ⟨rfl,h1,h2,h3⟩:=QD h;exact zAD ja DN Ae (iB oPu x h1 h3 H (by simp [oPu,B5,QE h1 h2 h3]))
def NR:Orc:=B5 151 (fun args=>match args with
  |[.str s]=>if s.length<B7 then some s else none
  |_=>none) .str
theorem jc:AS zP AM NR:=EK fun args x H h=>by
 split at h
 ·split at h
  ·rename_i hs
   rw [ER] at hs;injection h with h;subst h;exact i9 AM _ H (by omega)
  ·cases h
 ·cases h
theorem jd {s:List UInt8} (h:s.length<B7) (H:AH):NR 151 [.str s] H=some (.str s,H):=by simp [NR,B5,h]
def QF:Orc:=B5 141 (fun args=>match args with
  |[.str f,.str s]=>if s.length<B7 then some (f,s) else none
  |_=>none) fun x=>Hh x.1 x.2
theorem je:AS zP AM QF:=EK fun args x H h=>by
 split at h
 ·split at h
  ·rename_i hs
   injection h with h;subst h;exact jE NR ⟨jc,DN,Ae⟩ _ _ (fun H=>jd hs H) H
  ·cases h
 ·cases h
def QG:Orc:=B5 126 (fun args=>match args with
  |[.str f,.str s,.int .i64 10,.int .i64 64,.iface 240 (.int .i64 1)]=>if s.length<B7 then some (f,s) else none
  |_=>none) fun x => .iface 243 (Hh x.1 x.2)
theorem jf:AS zP AM QG:=EK fun args x H h=>by
 split at h
 ·split at h
  ·rename_i hs
   injection h with h;subst h;exact jG QF ⟨je,DN,Ae⟩ _ _ (fun H=>by simp [QF,B5,hs]) H
  ·cases h
 ·cases h
def QH:Orc:=B5 100 Kg Kf
theorem jg:AS zP AM QH:=EK fun args x H h=>by
 obtain ⟨rfl,h1,h2,h3⟩:=QD h;refine jH (A5 [(125,oPi),(126,QG)]) ⟨FZ fun p hp => ?_,DN,Ae⟩ x (fun H => ?_) (fun H => ?_) H
 ·simp only [List.mem_cons,List.not_mem_nil,or_false] at hp
  rcases hp with rfl|rfl
  ·exact jb
  ·exact jf
 ·simp [A5,oPi,B5,QE h1 h2 h3]
 ·simp [A5,QG,B5,h2]
def oWs:Orc:=A5 [(72,GY),(99,GY),(96,NQ),(98,Py),(100,QH),(101,QC)]
theorem jh:AS zP AM oWs:=FZ fun p hp=>by
 simp only [List.mem_cons,List.not_mem_nil,or_false] at hp;rcases hp with rfl|rfl|rfl|rfl|rfl|rfl
 ·exact La
 ·exact La
 ·exact jY
 ·exact gp
 ·exact jg
 ·exact jZ
theorem NS:∀s:List UInt8,Cl s≤s.length
 |[]=>Nat.le_refl _
 |[c]=>by
  simp only [Cl,List.length_cons,List.length_nil]
  split
  ·omega
  ·split<;>omega
 |c::d::r=>by
  unfold Cl;simp only [List.length_cons]
  split
  ·split<;>omega
  ·split<;>omega
theorem QI (p:UInt8→Bool):∀(s:List UInt8),∀b∈s.take (Aq p s),p b=true
 |[],b,h=>by simp at h
 |c::s,b,h=>by
  unfold Aq at h;rw [List.takeWhile_cons] at h
  split at h
  ·rename_i hc
   simp only [List.length_cons,List.take_succ_cons,List.mem_cons] at h;rcases h with rfl|h
   ·exact hc
   ·exact QI p s b (by unfold Aq;exact h)
  ·simp at h
theorem QJ {p:UInt8→Bool} {c:UInt8} {s:List UInt8} (h:p c=true):0<Aq p (c::s):=by unfold Aq;rw [List.takeWhile_cons,if_pos h];simp
theorem ji (c:UInt8) (r:List UInt8) (hs:(c::r).length<B7) (H:AH):CS zP AM 71 [.str (c::r)] H (He (c::r)) H:=by
 have key:∀(v:AV),(∃H',Az oWs zP AM 0 71 [.str (c::r)] []=some (v,H'))→v=He (c::r)→CS zP AM 71 [.str (c::r)] H (He (c::r)) H:=by rintro v ⟨H',h⟩ rfl;have:=CS.of_ev jh DN Ae Ew (f:=71) (args:=[.str (c::r)]) (v:=He (c::r)) 0 ⟨H',h,rfl,rfl⟩ rfl H;exact this
 have sZ:∀p,(Aq p (c::r):Int)≤(r.length:Int)+1:=fun p=>by have:=F2 p (c::r);simp only [List.length_cons] at this;omega
 have vM:∀p,min (Aq p (c::r)) (r.length+1)=Aq p (c::r):=fun p=>by have:=F2 p (c::r);simp only [List.length_cons] at this;omega
 have hfr:∀H,oWs 96 [.str (c::r),.func (.func 97) [] []] H=some (.int .i64 (Aq Bk (c::r)),H):=fun H=>by simp only [List.length_cons] at hs;simp [oWs,A5,NQ,B5,hs]
 have hfd:∀H,oWs 96 [.str (c::r),.func (.func 99) [] []] H=some (.int .i64 (Aq A6 (c::r)),H):=fun H=>by simp only [List.length_cons] at hs;simp [oWs,A5,NQ,B5,hs]
 have uE:∀H,oWs 72 [.int .u8 (c.toNat:Int)] H=some (.bool (CF c),H):=fun H=>Uq c H
 have vq:∀H,oWs 99 [.int .u8 (c.toNat:Int)] H=some (.bool (A6 c),H):=fun H=>Ur c H
 cases h1:CF c
 ·rw [h1] at uE
  cases h2:A6 c
  ·rw [h2] at vq
   have yh:∀H,oWs 101 [.str (c::r)] H=some (.int .i64 (Cl (c::r)),H):=fun H=>by simp [oWs,A5,QC,B5]
   refine key _ (iD oWs c r 0 uE vq yh (by have:=NS (c::r);simp only [List.length_cons] at this;omega)) ?_
   by_cases h0:Cl (c::r)=0
   all_goals
    simp [He,BC,h1,h2,h0,Fc]
  ·rw [h2] at vq
   have hd:IC ((c::r).take (Aq A6 (c::r))):=fun b hb=>by have:=QI A6 (c::r) b hb;simpa [A6] using this
   have sU:(c::r).take (Aq A6 (c::r))≠[]:=fun h=>by
    have h3:=QJ (s:=r) h2;rw [List.take_eq_nil_iff] at h;rcases h with h|h
    ·omega
    ·cases h
   have sd:((c::r).take (Aq A6 (c::r))).length<B7:=Nat.lt_of_le_of_lt (List.length_take_le _ _) (by have:=F2 A6 (c::r);omega)
   have wY:∀H,oWs 100 [.str ((c::r).take (Aq A6 (c::r))),.int .i64 10,.int .i64 64] H=some (Kf ((c::r).take (Aq A6 (c::r))),H):=fun H=>by simp only [oWs,A5,List.lookup];simp [QH,B5,QE sU sd hd]
   unfold Kf at wY
   by_cases h3:Ba ((c::r).take (Aq A6 (c::r)))<9223372036854775808
   ·rw [if_pos h3] at wY
    refine key _ (Ux oWs c r _ .nilIface false (by simp) 0 uE vq hfd wY (sZ _) (vM _)) ?_;simp [He,BC,h1,h2,h3,Fc]
   ·rw [if_neg h3] at wY
    refine key _ (Ux oWs c r _ _ true (by simp) 0 uE vq hfd wY (sZ _) (vM _)) ?_;simp [He,BC,h1,h2,h3,Fc]
 ·rw [h1] at uE
  have yg:∀H,oWs 98 [.str ((c::r).take (Aq Bk (c::r)))] H=some (.bool (DO ((c::r).take (Aq Bk (c::r)))),H):=fun H=>by simp only [oWs,A5,List.lookup];simp [Py,callS]
  refine key _ (iC oWs c r _ 0 uE hfr yg (sZ _) (vM _)) ?_;simp only [He,BC,h1,Fc]
  by_cases h2:DO ((c::r).take (Aq Bk (c::r)))=true
  all_goals
   by_cases h3:31<Aq Bk (c::r)
   ·simp [h2,h3]
   ·simp [h2,h3]
def QK:Orc:=B5 71 (fun args=>match args with
  |[.str (c::r)]=>if (c::r).length<B7 then some (c,r) else none
  |_=>none) fun x=>He (x.1::x.2)
theorem jj:AS zP AM QK:=EK fun args x H h=>by
 split at h
 ·split at h
  ·rename_i hs
   injection h with h;subst h;exact ji _ _ hs H
  ·cases h
 ·cases h
def D4 (l:List Wd) (x:Except (Nat × Nat) (List Wd)):Except (Nat × Nat) (List Wd):=match x with
 |.ok r => .ok (l++r)
 |.error x => .error x
theorem NT {c:UInt8} {r:List UInt8} (h:(BC (c::r)).2=0):0<(BC (c::r)).1.2.1.length:=by
 unfold BC at h ⊢;simp only at h ⊢
 split
 ·rename_i h1
  have:=QJ (p:=Bk) (c:=c) (s:=r) (by simp [Bk,h1]);have h2:=F2 Bk (c::r);simp only [List.length_take];omega
 ·rename_i h1
  rw [if_neg h1] at h
  split
  ·rename_i h1
   have:=QJ (p:=A6) (s:=r) h1;have h2:=F2 A6 (c::r)
   split<;>(simp only [List.length_take];omega)
  ·rename_i h1
   rw [if_neg h1] at h
   split
   ·rename_i h2
    rw [if_pos h2] at h;cases h
   ·have h2:=NS (c::r)
    simp only [List.length_take];omega
theorem NU (c:UInt8) (r:List UInt8):(BC (c::r)).1.2.1.length≤(c::r).length:=by
 have key:∀n,((c::r).take n).length≤(c::r).length:=fun n=>by rw [List.length_take];omega
 unfold BC;simp only
 split
 ·exact key _
 ·split
  ·split<;>exact key _
  ·split
   ·exact Nat.zero_le _
   ·exact key _
def DQ (num:Bool) (c:UInt8) (r:List UInt8):Nat:=if num&&CF c then 3 else (BC (c::r)).2
theorem Gd (n:Nat) (c:UInt8) (r:List UInt8) (p:Nat) (num:Bool) (hb:EP c=false) :
  lex (n+1) (c::r) p num=if DQ num c r≠0 then .error (p,DQ num c r) else
   D4 [⟨(BC (c::r)).1.1,(BC (c::r)).1.2.1,p,(BC (c::r)).1.2.2⟩] (lex n ((c::r).drop (BC (c::r)).1.2.1.length) (p+(BC (c::r)).1.2.1.length) ((BC (c::r)).1.1==2)):=by
 simp only [lex,hb,Bool.false_eq_true,if_false]
 show (if DQ num c r≠0 then _ else _)=_
 by_cases h:DQ num c r≠0
 ·rw [if_pos h,if_pos h]
  rfl
 ·rw [if_neg h,if_neg h]
  rfl
theorem QL {num:Bool} {c:UInt8} {r:List UInt8} (h:DQ num c r=0):(BC (c::r)).2=0:=by
 unfold DQ at h
 split at h
 ·cases h
 ·exact h
theorem VJ:∀(n m:Nat) (s:List UInt8) (p:Nat) (b:Bool),s.length<n→s.length<m→lex n s p b=lex m s p b:=by
 intro n
 induction n with
 |zero=>intro m s p b h;omega
 |succ n ih =>
  intro m s p b hn hm;cases m with
  |zero=>omega
  |succ m =>
   cases s with
   |nil=>rfl
   |cons c r =>
    simp only [List.length_cons] at hn hm;cases hb:EP c with
    |true=>simp only [lex,hb,if_true];exact ih m r _ _ (by omega) (by omega)
    |false =>
     rw [Gd n c r p b hb,Gd m c r p b hb]
     by_cases h:DQ b c r≠0
     ·rw [if_pos h,if_pos h]
     ·rw [if_neg h,if_neg h]
      have h1:=NT (r:=r) (QL (by simpa using h));rw [ih m _ _ _ (by simp only [List.length_drop,List.length_cons];omega) (by simp only [List.length_drop,List.length_cons];omega)]
theorem VK (l m:List Wd) (x:Except (Nat × Nat) (List Wd)):D4 l (D4 m x)=D4 (l++m) x:=by cases x<;>simp [D4]
def NV (s:List UInt8) (k:Nat) (t:List AV) (H:AH):Prop :=
 ∃i l,i+k=s.length∧t=mkT 89 [(0,.str s),(4,F6 l),(5,.int .i64 i)]∧H=EQ l∧(∀x∈l,x.at_+x.text.length≤i)∧l.length≤i ∧
  lex (s.length+1) s 0 false=D4 l (lex (k+1) (s.drop i) i (FM l i))
theorem jk (l:List Wd):low (EQ l).length (F6 l)=true:=by
 unfold F6 EQ
 split
 ·rfl
 ·simp [Ak (Nat.zero_le 1) _ (ID l)]
theorem jl (l:List Wd):AR (EQ l).length (EQ l)=true:=by
 unfold EQ
 split<;>rfl
theorem VL (us:List Wd) (u:Wd) (i:Nat):FM (us++[u]) i=(u.kind==2&&u.at_+u.text.length==i):=by simp [FM]
theorem VM {s:List UInt8} {i k:Nat} {l:List Wd} {c:UInt8} {r:List UInt8} (sa:i+(k+1)=s.length) (hd:s.drop i=c::r) (hb:EP c=false) (he:DQ (FM l i) c r=0) (hl:∀x∈l,x.at_+x.text.length≤i) (tG:l.length≤i)
  (t9:lex (s.length+1) s 0 false=D4 l (lex (k+1+1) (s.drop i) i (FM l i))) :
  ∃j,j<k+1∧NV s j (mkT 89 [(0,.str s),(4,F6 (l++[⟨(BC (c::r)).1.1,(BC (c::r)).1.2.1,i,(BC (c::r)).1.2.2⟩])),(5,.int .i64 ((i+(BC (c::r)).1.2.1.length:Nat):Int))])
   (EQ (l++[⟨(BC (c::r)).1.1,(BC (c::r)).1.2.1,i,(BC (c::r)).1.2.2⟩])):=by
 have h1:=NT (r:=r) (QL he);have h2:=NU c r;have sZ:(c::r).length=k+1:=by rw [←hd,List.length_drop];omega
 generalize hL:(BC (c::r)).1.2.1.length=L at h1 h2 ⊢;refine ⟨k+1-L,by omega,i+L,_,by omega,rfl,rfl,?_,?_,?_⟩
 ·intro x hx
  rcases List.mem_append.1 hx with hx|hx
  ·have:=hl x hx;omega
  ·simp only [List.mem_singleton] at hx
   subst hx;simp only [hL];omega
 ·simp only [List.length_append,List.length_cons,List.length_nil];omega
 ·rw [t9,hd,Gd _ _ _ _ _ hb,if_neg (by simp [he]),VK,VL,hL]
  have:s.drop (i+L)=(c::r).drop L:=by rw [←hd,List.drop_drop]
  rw [this]
  congr 1
  simp only [beq_self_eq_true,Bool.and_true];have wO:((c::r).drop L).length=k+1-L:=by rw [List.length_drop,sZ]
  exact VJ _ _ _ _ _ (by omega) (by omega)
theorem jm {s:List UInt8} {i k:Nat} {l:List Wd} {c:UInt8} {r:List UInt8} (sa:i+(k+1)=s.length) (hd:s.drop i=c::r) (hb:EP c=true) (hl:∀x∈l,x.at_+x.text.length≤i) (tG:l.length≤i)
  (t9:lex (s.length+1) s 0 false=D4 l (lex (k+1+1) (s.drop i) i (FM l i))) :
  NV s k (mkT 89 [(0,.str s),(4,F6 l),(5,.int .i64 ((i+1:Nat):Int))]) (EQ l):=by
 refine ⟨i+1,l,by omega,rfl,rfl,fun x hx=>by have:=hl x hx;omega,by omega,?_⟩;have:s.drop (i+1)=r:=by rw [←List.drop_drop,hd];rfl
 rw [t9,hd,this]
 have hn:FM l (i+1)=false:=by
  unfold FM;cases h:l.getLast? with
  |none=>rfl
  |some t =>
   have:=hl t (List.mem_of_getLast? h);have h2:(t.at_+t.text.length==i+1)=false:=by simp only [beq_eq_false_iff_ne];omega
   simp [h2]
 simp only [lex,hb,if_true,hn]
def oLn:Orc:=A5 [(71,QK),(72,GY)]
theorem jn:AS zP AM oLn:=FZ fun p hp=>by
 simp only [List.mem_cons,List.not_mem_nil,or_false] at hp;rcases hp with rfl|rfl
 ·exact jj
 ·exact La
theorem NW:Cx oLn zP AM:=⟨jn,DN,Ae⟩
theorem jo (x:Except (Nat × Nat) (List Wd)):low 0 (Ey x)=true:=by
 cases x with
 |error x=>rfl
 |ok l =>
  simp only [Ey,AD]
  split
  ·rfl
  ·simp [ID]
theorem jp (us:List Wd) (u:Wd):(A7 (us++[u]))[us.length*4]? = some (.int .i64 u.kind)∧(A7 (us++[u]))[us.length*4+1]? = some (.str u.text)∧(A7 (us++[u]))[us.length*4+2]? = some (.int .i64 u.at_):=by
 have h:=KW us;simp only [A7,List.flatMap_append] at h ⊢;refine ⟨?_,?_,?_⟩
 ·rw [List.getElem?_append_right (by omega),h];simp [BD]
 ·rw [List.getElem?_append_right (by omega),h,show us.length*4+1-us.length*4=1 by omega];simp [BD]
 ·rw [List.getElem?_append_right (by omega),h,show us.length*4+2-us.length*4=2 by omega];simp [BD]
theorem jq (B:Bs) (hB:B.H=[]) (s:List UInt8) (hs:s.length<B7) (k i:Nat) (l:List Wd) (sa:i+(k+1)=s.length) (hl:∀x∈l,x.at_+x.text.length≤i) (tG:l.length≤i)
  (t9:lex (s.length+1) s 0 false=D4 l (lex (k+1+1) (s.drop i) i (FM l i))) (Q:AEx→List AV→AH→Prop)
  (hN:∀t H,(∃j t2 H2,j<k+1∧AE B t H t2 H2∧NV s j t2 H2)→Q .normal t H)
  (hE:∀t H,Fin zP Tryz.f49 0 4 (Ey (lex (s.length+1) s 0 false)) [] .ret t H→Q .ret t H) :
  Wx oLn zP AM F7 (mkT 89 [(0,.str s),(4,F6 l),(5,.int .i64 i)]) (EQ l) Q:=by
 have hi:i<s.length:=by omega
 rw [ER] at hs;obtain ⟨c,r,hd⟩:∃c r,s.drop i=c::r:=⟨s[i],s.drop (i+1),List.drop_eq_getElem_cons hi⟩
 have hc:s[i]=c:=by have:=List.drop_eq_getElem_cons hi;rw [hd] at this;injection this with this _;exact this.symm
 cases hb:EP c with
 |true =>refine iG B hB oLn s i (F6 l) (EQ l) hi (by omega) ?_ Q (fun t sY=>hN _ _ ⟨k,_,_,by omega,sY,jm sa hd hb hl tG t9⟩) (jk l) (jl l);rw [hc];simpa [EP] using hb
 |false =>
  have so:((s[i].toNat:Int)==32)=false:=by rw [hc];simp only [EP,Bool.or_eq_false_iff,beq_eq_false_iff_ne] at hb;simp only [beq_eq_false_iff_ne];omega
  have sh:((s[i].toNat:Int)==9)=false:=by rw [hc];simp only [EP,Bool.or_eq_false_iff,beq_eq_false_iff_ne] at hb;simp only [beq_eq_false_iff_ne];omega
  have sZ:(c::r).length=k+1:=by rw [←hd,List.length_drop];omega
  have wZ:∀H,oLn 71 [.str (s.drop i)] H=some (He (c::r),H):=fun H=>by
   rw [hd];have:(c::r).length<B7:=by rw [sZ,ER];omega
   simp only [List.length_cons] at this;simp [oLn,A5,QK,B5,this]
  have uE:∀H,oLn 72 [.int .u8 (s[i].toNat:Int)] H=some (.bool (CF c),H):=fun H=>by rw [hc];exact Uq c H
  have hw:=NU c r
  have ww:DQ (FM l i) c r≠0→lex (s.length+1) s 0 false = .error (i,DQ (FM l i) c r):=fun h=>by rw [t9,hd,Gd _ _ _ _ _ hb,if_pos h];rfl
  rcases List.eq_nil_or_concat l with rfl|⟨us,u,rfl⟩
  ·have he:DQ (FM [] i) c r=(BC (c::r)).2:=by simp [DQ,FM]
   refine iH B hB oLn s i _ _ _ _ hi (by omega) so sh wZ (by omega) Q (fun h0 t H sY => ?_) (fun h0 t H hf=>hE _ _ ?_)
   ·obtain ⟨j,hj,hI⟩:=VM (l:=[]) sa hd hb (he.trans h0) hl tG t9
    exact hN _ _ ⟨j,_,_,hj,sY,hI⟩
   ·rw [ww (by rw [he];exact h0),he];exact hf
  ·rw [List.concat_eq_append] at *
   obtain ⟨c0,c1,c2⟩:=jp us u;have hu:=hl u (by simp);have sU:us++[u]≠[]:=by simp
   have he:DQ (FM (us++[u]) i) c r=if CF c=true∧u.kind=2∧u.at_+u.text.length=i then 3 else (BC (c::r)).2:=by
    rw [VL];unfold DQ
    by_cases h1:CF c=true<;>by_cases h2:u.kind=2<;>by_cases h3:u.at_+u.text.length=i<;>simp [h1,h2,h3]
   have uC:∀l:List Wd,l≠[]→F6 l = .slice (.tok 0) 4 l.length (A7 l)∧EQ l=[some (.tok l.length)]:=fun l h=>by simp [F6,EQ,h]
   rw [(uC _ sU).1,(uC _ sU).2];simp only [List.length_append,List.length_cons,List.length_nil,Nat.zero_add] at tG ⊢;refine iI B hB oLn s i us.length (A7 (us++[u])) u.kind u.at_ u.text (CF c) _ _ _ _ hi (by omega) so sh c0 c1 c2 (ID _) (by omega) (by omega) uE wZ (by omega) Q _ he (fun h0 t H sY => ?_) (fun h0 t H hf=>hE _ _ ?_)
   ·obtain ⟨j,hj,hI⟩:=VM sa hd hb h0 hl (by simpa using tG) t9
    refine hN _ _ ⟨j,_,_,hj,sY,?_⟩;have h3:=uC ((us++[u])++[⟨(BC (c::r)).1.1,(BC (c::r)).1.2.1,i,(BC (c::r)).1.2.2⟩]) (by simp);rw [h3.1,h3.2] at hI;simpa [A7] using hI
   ·rw [ww h0];exact hf
noncomputable def NX:Code:=Cz 2 c11
noncomputable def QM:Code:=Aj NX
noncomputable def jr:Code:=Aj G7
theorem js (s:List UInt8) (hs:s.length<B7) (H:AH):CS zP AM 49 [.str s] H (Ey (lex (s.length+1) s 0 false)) H:=by
 refine CS.frame (CS.of_Tr (H0:=[]) (H1:=[]) (c:=c11) Tryz.func49 (by kernel_rfl) 4 (by simp [Tryz.f49]) (fun B hB hG => ?_) (jo _) rfl) Ew rfl H;refine Tr.pre NW hG 2 (R:=NX) rfl (by kernel_rfl) (by kernel_rfl) ?_;rw [Dy];simp [c11,Tryz.f49];refine Tr.seqD (a:=G7) (b:=QM) (by kernel_rfl) ?_;refine Tr.pre NW hG 1 (R:=jr) (by kernel_rfl) (by kernel_rfl) (by kernel_rfl) ?_;rw [Dy];simp [G7,c11,Tryz.f49];refine Tr.less (t':=mkT 89 [(0,.str s),(4,.nilSlice),(5,.int .i64 ((0:Nat):Int))]) (H':=[]) (AE.mkT 0 (by simp [hB]) ?_ rfl rfl) ?_
 ·simp
  exact ⟨.same rfl rfl,.same rfl rfl,.same rfl rfl⟩
 refine Tr.forD (a:=F7) (id:=0) (by kernel_rfl) (NV s) s.length ⟨0,[],by omega,rfl,rfl,by simp,by simp,?_⟩ ?_
 ·simp only [List.drop_zero,FM,List.getLast?_nil]
  cases lex (s.length+1) s 0 false<;>rfl
 rintro k t H ⟨i,l,sa,rfl,rfl,hl,tG,t9⟩;refine Tr.run NW hG iF ?_;cases k with
 |succ k=>exact jq B hB s hs k i l sa hl tG t9 _ (fun t H h=>h) (fun t H h=>h)
 |zero =>
  obtain rfl:i=s.length:=by omega
  have sV:lex (s.length+1) s 0 false = .ok l:=by rw [t9,List.drop_length];simp [lex,D4]
  rw [sV];rw [Dy];simp [F7,G7,c11,Tryz.f49,Bj];refine Tr.run NW hG (by kernel_rfl) ?_;rw [Dy]
  by_cases h:l=[]
  ·subst h
   simp [QM,NX,c11,Tryz.f49,F6,EQ,Ey,AD]
  ·simp [QM,NX,c11,Tryz.f49,F6,EQ,Ey,AD,h,ID]
def Ag:Env:=⟨Cp.glob,Le,fun t=>Cp.imm t || t==43 || t==55,fun _=>false,fun _=>false⟩
@[simp] theorem qD (t:TypeId):Ag.soft t=false:=AP rfl
theorem Dt:C7 zP Ag:=Ke
theorem DI:∀i,low 0 (Ag.glob i)=true:=Lf
theorem CS.toX {f:FuncId} {args:List AV} {H H':AH} {v:AV} (h:CS zP Cp f args H v H'):CS zP Ag f args H v H':=fun g w cargs R hG hA=>h g w cargs R hG hA
theorem AS.toX {O:Orc} (h:AS zP Cp O):AS zP Ag O:=fun f args H v H' ho=>by obtain ⟨h1,h2,h3⟩:=h f args H v H' ho;exact ⟨CS.toX h1,h2,h3⟩
@[simp] theorem immXF:Ag.imm 85=true:=by decide
@[simp] theorem immXE:Ag.imm 43=true:=by decide
@[simp] theorem immXR:Ag.imm 229=false:=by decide
theorem Kh:Cx Bl zP Ag:=⟨Jc,Dt,Ae⟩
def D5:List UInt8:=[101,120,112,114]
def eAV:Option (Nat × Nat)→AV
 |none => .nilIface
 |some (p,c)=>AY [(D5,(p:Int))] (c:Int)
@[simp ↓ high] theorem jt (x:Option (Nat × Nat)):low 0 (eAV x)=true:=by
 cases x with
 |none=>rfl
 |some x=>exact Gc _ _
@[simp ↓ high] theorem qE (x:Option (Nat × Nat)):Bh (eAV x)=[]:=by
 cases x with
 |none=>rfl
 |some x=>simp [eAV,AY,Bh]
@[simp high] theorem qF (x:Option (Nat × Nat)):BI zP .eql 27 true (eAV x) .nilIface=some (.bool x.isNone):=by
 cases x with
 |none=>simp [eAV]
 |some x=>simp [eAV]
@[simp high] theorem qG (x:Option (Nat × Nat)):BI zP .neq 27 true (eAV x) .nilIface=some (.bool x.isSome):=by
 cases x with
 |none=>simp [eAV]
 |some x=>simp [eAV]
@[simp ↓ high] theorem qH (x:Option (Nat × Nat)):(eAV x).known=true:=by cases x<;>simp [eAV,AY]
@[simp ↓ high] theorem qI (x:Option (Nat × Nat)):(eAV x).one=true:=by cases x<;>simp [eAV,AY]
@[simp ↓ high] theorem qJ (x:Option (Nat × Nat)):Aw (eAV x)=[eAV x]:=by cases x<;>simp [eAV,AY]
theorem ju {x y:Option (Nat × Nat)} (h:eAV x=eAV y):x=y:=by
 cases x with
 |none=>cases y with
  |none=>rfl
  |some y=>simp [eAV,AY] at h
 |some x=>cases y with
  |none=>simp [eAV,AY] at h
  |some y =>
   obtain ⟨p,c⟩:=x;obtain ⟨q,d⟩:=y;simp [eAV,AY] at h;obtain ⟨h1,h2⟩:=h;have e1:p=q:=by omega
   have e2:c=d:=by omega
   rw [e1,e2]
@[simp ↓ high] theorem QN (l:List Wd):low 0 (AD l)=true:=by
 unfold AD;split
 ·rfl
 ·exact ID l
@[simp ↓ high] theorem jv (l:List Wd):Bh (AD l)=[]:=by unfold AD;split<;>rfl
@[simp ↓ high] theorem qK (l:List Wd):(AD l).known=true:=by unfold AD;split<;>rfl
@[simp ↓ high] theorem qM (l:List Wd):(AD l).one=true:=by unfold AD;split<;>rfl
@[simp ↓ high] theorem qN (l:List Wd):Aw (AD l)=[AD l]:=by unfold AD;split<;>rfl
@[simp high] theorem alenX (l:List Wd):alen zP 137 (AD l)=some (.int .i64 l.length):=by
 unfold AD
 split
 ·rename_i h;subst h;simp [alen]
 ·simp [alen]
theorem Ki:∀(l:List Wd) (i:Nat) (w:Wd),l[i]? = some w→((A7 l).drop (i*4)).take 4=BD w∧i*4+4≤(A7 l).length
 |[],i,w,h=>by simp at h
 |x::l,i,w,h=>by
  have hc:A7 (x::l)=BD x++A7 l:=rfl;have hx:(BD x).length=4:=rfl;cases i with
  |zero =>simp only [List.getElem?_cons_zero,Option.some.injEq] at h;subst h;rw [hc];refine ⟨?_,by simp [hx]⟩;rw [Nat.zero_mul,List.drop_zero,List.take_append_of_le_length (by omega),List.take_of_length_le (by omega)]
  |succ i =>simp only [List.getElem?_cons_succ] at h;obtain ⟨h1,h2⟩:=Ki l i w h;rw [hc];refine ⟨?_,by simp only [List.length_append,hx];omega⟩;rw [List.drop_append,List.drop_of_length_le (by omega),hx,List.nil_append,show (i+1)*4-4=i*4 by omega];exact h1
@[simp high] theorem jw {l:List Wd} {i:Nat} (h:i<l.length):Au zP 137 (AD l) (.int .i64 (i:Int))=some (.vptr (A7 l) (i*4)):=by
 have sU:l≠[]:=by rintro rfl;simp at h
 have:(i:Int)<l.length:=by omega
 simp [AD,sU,Au,h]
theorem Eh {l:List Wd} {i:Nat} {w:Wd} (h:l[i]? = some w):(A7 l)[i*4]? = some (.int .i64 w.kind)∧(A7 l)[i*4+1]? = some (.str w.text)∧(A7 l)[i*4+3]? = some (.int .i64 w.n):=by
 obtain ⟨h1,h2⟩:=Ki l i w h
 have key:∀k,k<4→(A7 l)[i*4+k]? = (BD w)[k]? := by intro k hk;rw [←h1,List.getElem?_take,if_pos hk,List.getElem?_drop]
 exact ⟨by simpa [BD] using key 0 (by omega),by simpa [BD] using key 1 (by omega),by simpa [BD] using key 3 (by omega)⟩
def rdC (ts:List Wd) (a d:Int) (x:Option (Nat × Nat)):List AV:=[AD ts,.int .i64 a,.int .i64 d,eAV x]
@[simp] theorem jx (ts:List Wd) (a d:Int) (x:Option (Nat × Nat)):rdC ts a d x=[AD ts,.int .i64 a,.int .i64 d,eAV x]:=AP rfl
def St.cells (ts:List Wd) (r:St):List AV:=rdC ts r.at_ r.deep r.err
theorem St.cells_low (ts:List Wd) (r:St):lowL 0 (r.cells ts)=true:=by simp [St.cells]
theorem St.cells_inj {ts:List Wd} {r q:St} (h:r.cells ts=q.cells ts):r=q:=by obtain ⟨a,d,x⟩:=r;obtain ⟨b,e,y⟩:=q;simp only [St.cells,jx,List.cons.injEq,AV.int.injEq,true_and,and_true] at h;obtain ⟨h1,h2,h3⟩:=h;have:=ju h3;subst this;simp only [St.mk.injEq,and_true];omega
theorem jy (ts:List Wd) (r:St) (p e:Nat) {H:AH} {id:Nat} (hH:H.at id=some (.box (r.cells ts))) :
  CS zP Ag 131 [.ptr id 0,.int .i64 (p:Int),.int .i64 (e:Int)] H (.tup []) (H.set id (some (.box ((r.fail p e).cells ts)))):=by
 refine CS.rd DI Tryz.func131 (by kernel_rfl) 0 (by simp [Tryz.f131]) (fun B hB hG => ?_) (by simp) rfl (St.cells_low ts r) (St.cells_low ts _) hH;refine Tr.goD Kh hG ?_;cases he:r.err with
 |none=>simp [Tryz.f131,St.cells,St.fail,he,eAV,AY,KX,D5]
 |some x=>simp [Tryz.f131,St.cells,St.fail,he]
def Ex.kd:Ex→Int
 |.none=>0
 |.num _=>1
 |.var _=>2
 |.elem _ _=>3
 |.neg _=>4
 |.bin k _ _=>k
def Ex.nn:Ex→Int
 |.num n=>n
 |_=>0
def Ex.nm:Ex→List UInt8
 |.var s=>s
 |.elem s _=>s
 |_=>[]
mutual
def exC:Ex→List AV
 |.none=>[.int .i64 0,.int .i64 0,.str [],.nilSlice]
 |.num n=>[.int .i64 1,.int .i64 n,.str [],.nilSlice]
 |.var s=>[.int .i64 2,.int .i64 0,.str s,.nilSlice]
 |.elem s a=>[.int .i64 3,.int .i64 0,.str s,.slice .unk 4 a.length (CG a)]
 |.neg e=>[.int .i64 4,.int .i64 0,.str [],.slice .full 4 1 (exC e)]
 |.bin k a b=>[.int .i64 k,.int .i64 0,.str [],.slice .full 4 2 (exC a++exC b)]
def CG:List Ex→List AV
 |[]=>[]
 |e::l=>exC e++CG l
end
def Ex.ar (e:Ex):AV:=(exC e).getD 3 .undef
@[simp] theorem QO (e:Ex):exC e=[.int .i64 e.kd,.int .i64 e.nn,.str e.nm,e.ar]:=by cases e<;>rfl
theorem jz:Ex.none.ar = .nilSlice:=AP rfl
theorem j3 (n:Nat):(Ex.num n).ar = .nilSlice:=AP rfl
theorem j5 (s:List UInt8):(Ex.var s).ar = .nilSlice:=AP rfl
theorem j7 (s:List UInt8) (a:List Ex):(Ex.elem s a).ar = .slice .unk 4 a.length (CG a):=AP rfl
theorem j8 (e:Ex):(Ex.neg e).ar = .slice .full 4 1 (exC e):=AP rfl
theorem j9 (k:Nat) (a b:Ex):(Ex.bin k a b).ar = .slice .full 4 2 (exC a++exC b):=AP rfl
mutual
theorem Lg:∀e:Ex,lowL 0 (exC e)=true
 |.none=>rfl
 |.num _=>rfl
 |.var _=>rfl
 |.elem s a=>by rw [exC];have:=HA a;simp [this]
 |.neg e=>by rw [exC];have:=Lg e;simpa using this
 |.bin k a b=>by rw [exC];have h1:=Lg a;have h2:=Lg b;simp only [QO] at h1 h2;simp only [lowL,low,Bool.and_eq_true,true_and,and_true,Bool.true_and] at h1 h2;simp [h1,h2]
theorem HA:∀l:List Ex,lowL 0 (CG l)=true
 |[]=>rfl
 |e::l=>by rw [CG,EC,Lg e,HA l];rfl
end
theorem Hi:∀a b:List Ex,CG (a++b)=CG a++CG b
 |[],b=>rfl
 |e::a,b=>by rw [List.cons_append,CG,CG,Hi a b,List.append_assoc]
@[simp ↓ high] theorem kA (e:Ex):low 0 e.ar=true:=by have:=Lg e;rw [QO] at this;simpa using this
@[simp ↓ high] theorem qO (e:Ex):Bh e.ar=[]:=by cases e<;>rfl
@[simp ↓ high] theorem qP (e:Ex):e.ar.known=true:=by cases e<;>rfl
@[simp ↓ high] theorem qQ (e:Ex):e.ar.one=true:=by cases e<;>rfl
@[simp ↓ high] theorem qR (e:Ex):Aw e.ar=[e.ar]:=by cases e<;>rfl
def CX (e:Ex):AV := .agg (exC e)
@[simp] theorem qS (e:Ex):CX e = .agg [.int .i64 e.kd,.int .i64 e.nn,.str e.nm,e.ar]:=by rw [CX,QO]
@[simp] theorem buE0:Ay zP 43 []=some (.agg [.int .i64 0,.int .i64 0,.str [],.nilSlice]):=by kernel_rfl
@[simp] theorem buE1 (k n:Int):Ay zP 43 [(0,.int .i64 k),(1,.int .i64 n)]=some (.agg [.int .i64 k,.int .i64 n,.str [],.nilSlice]):=by kernel_rfl
@[simp] theorem buE2 (k:Int) (s:List UInt8):Ay zP 43 [(0,.int .i64 k),(2,.str s)]=some (.agg [.int .i64 k,.int .i64 0,.str s,.nilSlice]):=by kernel_rfl
@[simp] theorem buE3 (k:Int) (ow:Own) (sz n:Nat) (cs:List AV):Ay zP 43 [(0,.int .i64 k),(3,.slice ow sz n cs)]=some (.agg [.int .i64 k,.int .i64 0,.str [],.slice ow sz n cs]):=by kernel_rfl
@[simp] theorem bsE1 (a b c d:AV):Cr zP 41 1 [(0,.agg [a,b,c,d])]=some (.slice .full 4 1 [a,b,c,d]):=by kernel_rfl
@[simp] theorem bsE2 (a b c d e f g h:AV):Cr zP 41 2 [(0,.agg [a,b,c,d]),(1,.agg [e,f,g,h])]=some (.slice .full 4 2 [a,b,c,d,e,f,g,h]):=by kernel_rfl
theorem kB (ts:List Wd) (r:St) (s:List UInt8) {H:AH} {id:Nat} (hH:H.at id=some (.box (r.cells ts))) :
  CS zP Ag 130 [.ptr id 0,.str s] H (.bool (nextB ts r s)) (H.set id (some (.box (r.cells ts)))):=by
 refine CS.rd DI Tryz.func130 (by kernel_rfl) 0 (by simp [Tryz.f130]) (fun B hB hG => ?_) (by simp) rfl (St.cells_low ts r) (St.cells_low ts _) hH;refine Tr.goD Kh hG ?_;simp [Tryz.f130,St.cells];refine LpD.turns Kh hG [] [] ?_;cases he:r.err with
 |some x=>simp [nextB,he]
 |none =>
  by_cases hl:r.at_<ts.length
  ·have hl':(r.at_:Int)<ts.length:=by omega
   obtain ⟨w,hw⟩:∃w,ts[r.at_]? = some w:=⟨_,List.getElem?_eq_getElem hl⟩
   obtain ⟨c0,c1,c3⟩:=Eh hw;have hn:isS ts r.at_ s=(w.kind==3&&w.text==s):=by simp only [isS,hw]
   by_cases hk:w.kind=3
   ·simp [nextB,hn,he,hl,hl',hk,c0,c1]
   ·have hk':((w.kind:Int)==3)=false:=by rw [beq_eq_false_iff_ne];omega
    simp [nextB,hn,he,hl,hl',hk,hk',c0,c1]
  ·have hl':¬((r.at_:Int)<ts.length):=by omega
   have hw:ts[r.at_]? = none:=List.getElem?_eq_none (by omega);have hn:isS ts r.at_ s=false:=by simp only [isS,hw]
   simp [nextB,hn,he,hl',hw]
theorem Hj (r:St) (p e:Nat):r.fail p e=⟨r.at_,r.deep,some (r.err.getD (p,e))⟩:=by obtain ⟨a,d,x⟩:=r;cases x<;>rfl
theorem NY {H:AH} {i j:Nat} {e x:Ent} (hx:H.at i=some x) (hj:H.at j=none):AH.at (H.set i (some e)) j=none:=by
 have hij:i≠j:=fun h=>by subst h;rw [hx] at hj;cases hj
 unfold AH.at at hj ⊢;rw [List.getElem?_set_ne hij];exact hj
open Classical in
noncomputable def oRd (ts:List Wd) (f0:FuncId) (spec:List AV→St→Option (AV × St)):Orc:=fun f args H =>
 if f=f0 then (match args with
  |.ptr id 0::rest=>if h:∃r:St,H.at id=some (.box (r.cells ts)) then (spec rest h.choose).map fun x=>(x.1,H.set id (some (.box (x.2.cells ts)))) else none
  |_=>none) else none
theorem IF {ts:List Wd} {f0:FuncId} {spec:List AV→St→Option (AV × St)} {id:Nat} {rest:List AV} {H:AH} {r:St} (h:H.at id=some (.box (r.cells ts))) :
  oRd ts f0 spec f0 (.ptr id 0::rest) H=(spec rest r).map fun x=>(x.1,H.set id (some (.box (x.2.cells ts)))):=by
 have hx:∃r:St,H.at id=some (.box (r.cells ts)):=⟨r,h⟩
 have hc:=h.symm.trans hx.choose_spec;simp only [Option.some.injEq,Ent.box.injEq] at hc;have:hx.choose=r:=(St.cells_inj hc).symm;simp only [oRd,if_true,dif_pos hx,this]
theorem Kj {ts:List Wd} {f0:FuncId} {spec:List AV→St→Option (AV × St)}
  (h:∀rest r v r',spec rest r=some (v,r')→∀H id,H.at id=some (.box (r.cells ts))→CS zP Ag f0 (.ptr id 0::rest) H v (H.set id (some (.box (r'.cells ts))))):AS zP Ag (oRd ts f0 spec):=by
 intro f args H v H' ho;unfold oRd at ho
 split at ho
 ·rename_i hf
  subst hf
  split at ho
  ·rename_i id rest
   split at ho
   ·rename_i hx
    obtain ⟨x,hs,vV⟩:=Option.map_eq_some_iff.1 ho;simp only [Prod.mk.injEq] at vV;obtain ⟨rfl,rfl⟩:=vV;refine ⟨h _ _ _ _ hs _ _ hx.choose_spec,by simp,fun j _ hj=>NY hx.choose_spec hj⟩
   ·cases ho
  ·cases ho
 ·cases ho
def E0 (ts:List Wd) (rest:List AV) (r:St):Option (AV × St):=match rest with
 |[.str s]=>some (.bool (nextB ts r s),r)
 |_=>none
def GB (rest:List AV) (r:St):Option (AV × St):=match rest with
 |[.int .i64 p,.int .i64 e]=>if 0≤p∧0≤e then some (.tup [],r.fail p.toNat e.toNat) else none
 |_=>none
theorem NZ (ts:List Wd):AS zP Ag (oRd ts 130 (E0 ts)):=Kj fun rest r v r' h H id hH=>by
 unfold E0 at h
 split at h
 ·injection h with h
  simp only [Prod.mk.injEq] at h;obtain ⟨rfl,rfl⟩:=h;exact kB ts r _ hH
 ·cases h
theorem Kk (ts:List Wd):AS zP Ag (oRd ts 131 GB):=Kj fun rest r v r' h H id hH=>by
 unfold GB at h
 split at h
 ·rename_i p e
  split at h
  ·rename_i yl
   injection h with h;simp only [Prod.mk.injEq] at h;obtain ⟨rfl,rfl⟩:=h;have:=jy ts r p.toNat e.toNat hH
   rwa [Int.toNat_of_nonneg yl.1,Int.toNat_of_nonneg yl.2] at this
  ·cases h
 ·cases h
theorem Hk {ts:List Wd} {a d:Int} {x:Option (Nat × Nat)} {H:AH} (ha:0≤a) (hd:0≤d):AH.at (some (.box [AD ts,.int .i64 a,.int .i64 d,eAV x])::H) 0=some (.box ((⟨a.toNat,d.toNat,x⟩:St).cells ts)):=by simp [AH.at,St.cells,Int.toNat_of_nonneg ha,Int.toNat_of_nonneg hd]
structure Sm1 (O:Orc) (ts:List Wd):Prop where
 next:∀(a d:Int) (x:Option (Nat × Nat)) (s:List UInt8) (H:AH),0≤a→0≤d→O 130 [.ptr 0 0,.str s] (some (.box [AD ts,.int .i64 a,.int .i64 d,eAV x])::H) =
  some (.bool (nextB ts ⟨a.toNat,d.toNat,x⟩ s),some (.box [AD ts,.int .i64 a,.int .i64 d,eAV x])::H)
 fail:∀(a d:Int) (x:Option (Nat × Nat)) (p e:Int) (H:AH),0≤a→0≤d→0≤p→0≤e→O 131 [.ptr 0 0,.int .i64 p,.int .i64 e] (some (.box [AD ts,.int .i64 a,.int .i64 d,eAV x])::H) =
  some (.tup [],some (.box [AD ts,.int .i64 a,.int .i64 d,eAV (some (x.getD (p.toNat,e.toNat)))])::H)
theorem Na {ts:List Wd} {a d:Int} {x:Option (Nat × Nat)} (s:List UInt8) (H:AH) (ha:0≤a) (hd:0≤d):oRd ts 130 (E0 ts) 130 [.ptr 0 0,.str s] (some (.box [AD ts,.int .i64 a,.int .i64 d,eAV x])::H) =
  some (.bool (nextB ts ⟨a.toNat,d.toNat,x⟩ s),some (.box [AD ts,.int .i64 a,.int .i64 d,eAV x])::H):=by
 rw [IF (Hk ha hd)];simp [E0,St.cells,Int.toNat_of_nonneg ha,Int.toNat_of_nonneg hd]
theorem Lh {ts:List Wd} {a d:Int} {x:Option (Nat × Nat)} (p e:Int) (H:AH) (ha:0≤a) (hd:0≤d) (hp:0≤p) (he:0≤e):oRd ts 131 GB 131 [.ptr 0 0,.int .i64 p,.int .i64 e] (some (.box [AD ts,.int .i64 a,.int .i64 d,eAV x])::H) =
  some (.tup [],some (.box [AD ts,.int .i64 a,.int .i64 d,eAV (some (x.getD (p.toNat,e.toNat)))])::H):=by
 rw [IF (Hk ha hd)];simp [GB,Hj,St.cells,Int.toNat_of_nonneg ha,Int.toNat_of_nonneg hd,hp,he]
noncomputable def Nb (ts:List Wd):Orc:=A5 [(130,oRd ts 130 (E0 ts)),(131,oRd ts 131 GB)]
theorem kC (ts:List Wd):Cx (Nb ts) zP Ag:=⟨FZ (by
 intro p hp;simp only [List.mem_cons,List.not_mem_nil,or_false] at hp;rcases hp with rfl|rfl
 ·exact NZ ts
 ·exact Kk ts),Dt,Ae⟩
theorem VN (ts:List Wd):Sm1 (Nb ts) ts:=⟨fun a d x s H ha hd=>by
  rw [←Na s H ha hd];simp [Nb,A5,List.lookup],fun a d x p e H ha hd hp he=>by
  rw [←Lh p e H ha hd hp he];simp [Nb,A5,List.lookup]⟩
theorem FO {ts:List Wd} {r:St} {s:List UInt8} (h:nextB ts r s=true):r.at_<ts.length:=by
 simp only [nextB,isS,Bool.and_eq_true] at h;have h2:=h.2
 split at h2
 ·rename_i hw;exact (List.getElem?_eq_some_iff.1 hw).1
 ·cases h2
def Ge (ts:List Wd) (r:St) (s:List UInt8):St:=if nextB ts r s=true then r.step else r
theorem kD (ts:List Wd) (sT:ts.length<1000000) (r:St) (s:List UInt8) {H:AH} {id:Nat} (hH:H.at id=some (.box (r.cells ts))) :
  CS zP Ag 159 [.ptr id 0,.str s] H (.bool (nextB ts r s)) (H.set id (some (.box ((Ge ts r s).cells ts)))):=by
 refine CS.rd DI Tryz.func159 (by kernel_rfl) 0 (by simp [Tryz.f159]) (fun B hB hG => ?_) (by simp) rfl (St.cells_low ts r) (St.cells_low ts _) hH;refine Tr.goD (kC ts) hG ?_;cases hn:nextB ts r s with
 |true =>have hl:=FO hn;have w1:IntKind.i64.wrap ((r.at_:Int)+1)=(r.at_:Int)+1:=AZ (by omega) (by omega);simp [Tryz.f159,St.cells,Ge,hn,(VN ts).next,w1,St.step]
 |false=>simp [Tryz.f159,St.cells,Ge,hn,(VN ts).next]
def EF (ts:List Wd) (rest:List AV) (r:St):Option (AV × St):=match rest with
 |[.str s]=>some (.bool (nextB ts r s),Ge ts r s)
 |_=>none
theorem QP (ts:List Wd) (sT:ts.length<1000000):AS zP Ag (oRd ts 159 (EF ts)):=Kj fun rest r v r' h H id hH=>by
 unfold EF at h
 split at h
 ·injection h with h
  simp only [Prod.mk.injEq] at h;obtain ⟨rfl,rfl⟩:=h;exact kD ts sT r _ hH
 ·cases h
theorem QQ {ts:List Wd} {a d:Int} {x:Option (Nat × Nat)} (s:List UInt8) (H:AH) (ha:0≤a) (hd:0≤d) (hn:nextB ts ⟨a.toNat,d.toNat,x⟩ s=true) :
  oRd ts 159 (EF ts) 159 [.ptr 0 0,.str s] (some (.box [AD ts,.int .i64 a,.int .i64 d,eAV x])::H)=some (.bool true,some (.box [AD ts,.int .i64 (a+1),.int .i64 d,eAV x])::H):=by
 rw [IF (Hk ha hd)];simp [EF,Ge,hn,St.step,St.cells,Int.toNat_of_nonneg ha,Int.toNat_of_nonneg hd]
theorem QR {ts:List Wd} {a d:Int} {x:Option (Nat × Nat)} (s:List UInt8) (H:AH) (ha:0≤a) (hd:0≤d) (hn:nextB ts ⟨a.toNat,d.toNat,x⟩ s=false) :
  oRd ts 159 (EF ts) 159 [.ptr 0 0,.str s] (some (.box [AD ts,.int .i64 a,.int .i64 d,eAV x])::H)=some (.bool false,some (.box [AD ts,.int .i64 a,.int .i64 d,eAV x])::H):=by
 rw [IF (Hk ha hd)];simp [EF,Ge,hn,St.cells,Int.toNat_of_nonneg ha,Int.toNat_of_nonneg hd]
noncomputable def Jh (ts:List Wd):Orc:=A5 [(159,oRd ts 159 (EF ts)),(131,oRd ts 131 GB)]
theorem kE (ts:List Wd) (sT:ts.length<1000000):Cx (Jh ts) zP Ag:=⟨FZ (by
 intro p hp;simp only [List.mem_cons,List.not_mem_nil,or_false] at hp;rcases hp with rfl|rfl
 ·exact QP ts sT
 ·exact Kk ts),Dt,Ae⟩
theorem kG {ts:List Wd}:∀(a d:Int) (x:Option (Nat × Nat)) (s:List UInt8) (H:AH),0≤a→0≤d→nextB ts ⟨a.toNat,d.toNat,x⟩ s=true →
  Jh ts 159 [.ptr 0 0,.str s] (some (.box [AD ts,.int .i64 a,.int .i64 d,eAV x])::H)=some (.bool true,some (.box [AD ts,.int .i64 (a+1),.int .i64 d,eAV x])::H):=fun a d x s H ha hd hn=>by
 rw [←QQ s H ha hd hn];simp [Jh,A5,List.lookup]
theorem kH {ts:List Wd}:∀(a d:Int) (x:Option (Nat × Nat)) (s:List UInt8) (H:AH),0≤a→0≤d→nextB ts ⟨a.toNat,d.toNat,x⟩ s=false →
  Jh ts 159 [.ptr 0 0,.str s] (some (.box [AD ts,.int .i64 a,.int .i64 d,eAV x])::H)=some (.bool false,some (.box [AD ts,.int .i64 a,.int .i64 d,eAV x])::H):=fun a d x s H ha hd hn=>by
 rw [←QR s H ha hd hn];simp [Jh,A5,List.lookup]
theorem kI {ts:List Wd}:∀(a d:Int) (x:Option (Nat × Nat)) (p e:Int) (H:AH),0≤a→0≤d→0≤p→0≤e→Jh ts 131 [.ptr 0 0,.int .i64 p,.int .i64 e] (some (.box [AD ts,.int .i64 a,.int .i64 d,eAV x])::H) =
  some (.tup [],some (.box [AD ts,.int .i64 a,.int .i64 d,eAV (some (x.getD (p.toNat,e.toNat)))])::H):=fun a d x p e H ha hd hp he=>by
 rw [←Lh p e H ha hd hp he];simp [Jh,A5,List.lookup]
theorem kJ (ts:List Wd) (sT:ts.length<1000000) (r:St) (s:List UInt8) {H:AH} {id:Nat} (hH:H.at id=some (.box (r.cells ts))) :
  CS zP Ag 161 [.ptr id 0,.str s] H (.tup []) (H.set id (some (.box ((CJ ts r s).cells ts)))):=by
 refine CS.rd DI Tryz.func161 (by kernel_rfl) 0 (by simp [Tryz.f161]) (fun B hB hG => ?_) (by simp) rfl (St.cells_low ts r) (St.cells_low ts _) hH;refine Tr.goD (kE ts sT) hG ?_;cases hn:nextB ts r s with
 |true=>simp [Tryz.f161,St.cells,CJ,hn,kG,St.step]
 |false=>simp [Tryz.f161,St.cells,CJ,hn,kH,kI,Hj]
def Kl (ts:List Wd) (rest:List AV) (r:St):Option (AV × St):=match rest with
 |[.str s]=>some (.tup [],CJ ts r s)
 |_=>none
theorem VO (ts:List Wd) (sT:ts.length<1000000):AS zP Ag (oRd ts 161 (Kl ts)):=Kj fun rest r v r' h H id hH=>by
 unfold Kl at h
 split at h
 ·injection h with h
  simp only [Prod.mk.injEq] at h;obtain ⟨rfl,rfl⟩:=h;exact kJ ts sT r _ hH
 ·cases h
theorem AE.mkK {B:Bs} {n:Nat} {l l':List (Nat × AV)} {H H':AH} (m:Nat) (hm:B.H.length≤m) (h:∀p∈l',(l.lookup p.1).getD .undef=p.2∧low m p.2=true) (hH:H.take m=H') (hl:AR m H'=true):AE B (Fw.mkT n l) H (Fw.mkT n l') H' :=AE.mkT m hm (fun p hp => .same (h p hp).1 (h p hp).2) hH hl
theorem Nc (m:Nat) {a:AV} (h:low 0 a=true):low m a=true:=Cd (Nat.zero_le m) a h
@[simp ↓ high] theorem qT (m:Nat) (e:Ex):low m e.ar=true:=Nc m (kA e)
@[simp ↓ high] theorem qU (m:Nat) (x:Option (Nat × Nat)):low m (eAV x)=true:=Nc m (jt x)
@[simp ↓ high] theorem qV (m:Nat) (l:List Wd):low m (AD l)=true:=Nc m (QN l)
@[simp] theorem qW:Ex.none.kd=0:=AP rfl
@[simp] theorem qX (n:Nat):(Ex.num n).kd=1:=AP rfl
@[simp] theorem qY (s:List UInt8):(Ex.var s).kd=2:=AP rfl
@[simp] theorem qZ (s:List UInt8) (a:List Ex):(Ex.elem s a).kd=3:=AP rfl
@[simp] theorem qc (e:Ex):(Ex.neg e).kd=4:=AP rfl
@[simp] theorem qd (k:Nat) (a b:Ex):(Ex.bin k a b).kd=(k:Int):=AP rfl
@[simp] theorem qe:Ex.none.nn=0:=AP rfl
@[simp] theorem qf (n:Nat):(Ex.num n).nn=n:=AP rfl
@[simp] theorem qg (s:List UInt8):(Ex.var s).nn=0:=AP rfl
@[simp] theorem qh (s:List UInt8) (a:List Ex):(Ex.elem s a).nn=0:=AP rfl
@[simp] theorem qi (e:Ex):(Ex.neg e).nn=0:=AP rfl
@[simp] theorem qj (k:Nat) (a b:Ex):(Ex.bin k a b).nn=0:=AP rfl
@[simp] theorem qk:Ex.none.nm=[]:=AP rfl
@[simp] theorem ql (n:Nat):(Ex.num n).nm=[]:=AP rfl
@[simp] theorem qn (s:List UInt8):(Ex.var s).nm=s:=AP rfl
@[simp] theorem qo (s:List UInt8) (a:List Ex):(Ex.elem s a).nm=s:=AP rfl
@[simp] theorem qq (e:Ex):(Ex.neg e).nm=[]:=AP rfl
@[simp] theorem qr (k:Nat) (a b:Ex):(Ex.bin k a b).nm=[]:=AP rfl
attribute [simp] jz j3 j5 j7 j8 j9
def upw (of:Rd):Prop:=∀r,r.at_≤(of r).2.at_
theorem QS {ts:List Wd} {of:Rd} (h:upw of) {f s:List UInt8} {one two:Nat}:∀(n:Nat) (e:Ex),upw (DG ts of f one s two n e)
 |0,e,r=>Nat.le_refl _
 |n+1,e,r=>by
  have h1:=h r.step;simp only [DG]
  split
  ·exact Nat.le_refl _
  ·split
   ·have:=QS h (ts:=ts) (f:=f) (s:=s) (one:=one) (two:=two) n (.bin two e (of r.step).1) (of r.step).2
    simp only [St.step] at h1 this ⊢;omega
   ·split
    ·have:=QS h (ts:=ts) (f:=f) (s:=s) (one:=one) (two:=two) n (.bin one e (of r.step).1) (of r.step).2
     simp only [St.step] at h1 this ⊢;omega
    ·exact Nat.le_refl _
theorem zAN {ts:List Wd} {of:Rd} (h:upw of) {f s:List UInt8} {one two:Nat}:upw (Ef ts of f one s two):=fun r=>Nat.le_trans (h r) (QS h _ _ _)
def Ans (O:Orc) (ts:List Wd) (g:FuncId) (of:Rd) (n:Nat):Prop:=∀(a d:Int) (x:Option (Nat × Nat)) (H:AH),0≤a→0≤d→d≤20→ts.length-a.toNat<n →
 O g [.ptr 0 0] (some (.box [AD ts,.int .i64 a,.int .i64 d,eAV x])::H)=some (CX (of ⟨a.toNat,d.toNat,x⟩).1,some (.box ((of ⟨a.toNat,d.toNat,x⟩).2.cells ts))::H)
def RowI (ts:List Wd) (of:Rd) (g:FuncId) (f:List UInt8) (one:Nat) (s:List UInt8) (two:Nat) (n:Nat) (res:Ex × St) (k:Nat) (t:List AV) (H:AH):Prop :=
 ∃(e:Ex) (r:St),DG ts of f one s two k e r=res∧ts.length-r.at_<k∧ts.length-r.at_<n∧r.deep≤20 ∧
  t=mkT 47 [(0,.ptr 0 0),(1,.func (.func g) [.ptr 0 0] []),(2,.str f),(3,.int .i64 one),(4,.str s),(5,.int .i64 two),(12,.ptr 1 0),(13,.ptr 2 0)] ∧
  H=[some (.box (r.cells ts)),some (.box (exC .none)),some (.box (exC e))]
theorem kK (ts:List Wd) (sT:ts.length<1000000) {O:Orc} (X:Cx O zP Ag) (hN:∀(a d:Int) (x:Option (Nat × Nat)) (s:List UInt8) (H:AH),0≤a→0≤d→O 130 [.ptr 0 0,.str s] (some (.box [AD ts,.int .i64 a,.int .i64 d,eAV x])::H) =
  some (.bool (nextB ts ⟨a.toNat,d.toNat,x⟩ s),some (.box [AD ts,.int .i64 a,.int .i64 d,eAV x])::H)) {g:FuncId} (hg:AI zP g=true) {of:Rd} {n:Nat} (hA:Ans O ts g of n) (hu:upw of) (hd:∀r,(of r).2.deep=r.deep)
  (f:List UInt8) (one:Nat) (s:List UInt8) (two:Nat) (r:St) (hr:r.deep≤20) (hn:ts.length-r.at_<n) (B:Bs) (hB:B.H=[some (.box (r.cells ts))]) (hG:An Ag B.g) :
  Tr zP B (At Tryz.f144) (mkT 47 (EL 0 [.ptr 0 0,.func (.func g) [.ptr 0 0] [],.str f,.int .i64 one,.str s,.int .i64 two])) [some (.box (r.cells ts))]
   (Fin zP Tryz.f144 1 0 (CX (Ef ts of f one s two r).1) [some (.box ((Ef ts of f one s two r).2.cells ts))]):=by
 have uK:((r.deep:Int))≤20:=by omega
 have h1:=fun H=>hA r.at_ r.deep r.err H (by omega) (by omega) uK (by simpa using hn)
 simp only [Int.toNat_natCast] at h1;have xX:=hu r;have sr:=hd r;simp only [Ef];generalize wL:of r=p at *;obtain ⟨e,q⟩:=p;simp only at h1 xX sr;refine Tr.goD X hG ?_;simp [St.cells] at h1;simp [Tryz.f144,St.cells,hg,h1]
 refine LpD.loopN X hG (RowI ts of g f one s two n (DG ts of f one s two (ts.length+1) e q)) (ts.length+1)
  (t':=mkT 47 [(0,.ptr 0 0),(1,.func (.func g) [.ptr 0 0] []),(2,.str f),(3,.int .i64 one),(4,.str s),(5,.int .i64 two),(12,.ptr 1 0),(13,.ptr 2 0)])
  (H':=[some (.box (q.cells ts)),some (.box (exC .none)),some (.box (exC e))]) (AE.mkK 3 (by simp [hB]) (by simp) (by simp [St.cells]) (by simp [St.cells])) ⟨e,q,rfl,by omega,by omega,by omega,rfl,rfl⟩ ?_
 rintro k t H ⟨e',r',sV,hk,xB,uN,rfl,rfl⟩;cases k with
 |zero=>omega
 |succ k =>
  have ym:(r'.deep:Int)≤20:=by omega
  cases he:r'.err with
  |some x =>
   have sx:DG ts of f one s two (k+1) e' r'=(.none,r'):=by simp [DG,he]
   rw [←sV,sx];simp [St.cells,he,Bj]
  |none =>
   obtain ⟨a,d,x⟩:=r';simp only at he hk xB uN ym;subst he;cases hs:nextB ts ⟨a,d,none⟩ s with
   |true =>
    have hl:a<ts.length:=FO hs;have w1:IntKind.i64.wrap ((a:Int)+1)=(a:Int)+1:=AZ (by omega) (by omega);have h2:=fun H=>hA (a+1:Nat) d none H (by omega) (by omega) ym (by simp only [Int.toNat_natCast];omega)
    simp [St.cells] at h2;simp [St.cells,hN,hs,w1,Bj];refine LpD.turns X hG [3,6] [(0,3),(1,3)] ?_;simp [hg,h2]
    refine Nxt.mk k (by omega) (AE.mkK 3 (l':=[(0,.ptr 0 0),(1,.func (.func g) [.ptr 0 0] []),(2,.str f),(3,.int .i64 one),(4,.str s),(5,.int .i64 two),(12,.ptr 1 0),(13,.ptr 2 0)])
     (H':=[some (.box ((of ⟨a+1,d,none⟩).2.cells ts)),some (.box (exC .none)),some (.box (exC (.bin two e' (of ⟨a+1,d,none⟩).1)))]) (by simp [hB]) (by simp) (by simp [St.cells]) (by simp [St.cells]))
     ⟨.bin two e' (of ⟨a+1,d,none⟩).1,(of ⟨a+1,d,none⟩).2,?_,?_,?_,?_,rfl,rfl⟩
    ·rw [←sV];simp [DG,hs,St.step]
    ·have:=hu ⟨a+1,d,none⟩;simp only at this;omega
    ·have:=hu ⟨a+1,d,none⟩;simp only at this;omega
    ·have:=hd ⟨a+1,d,none⟩;simp only at this;omega
   |false =>
    cases hf:nextB ts ⟨a,d,none⟩ f with
    |true =>
     have hl:a<ts.length:=FO hf;have w1:IntKind.i64.wrap ((a:Int)+1)=(a:Int)+1:=AZ (by omega) (by omega);have h2:=fun H=>hA (a+1:Nat) d none H (by omega) (by omega) ym (by simp only [Int.toNat_natCast];omega)
     simp [St.cells] at h2;simp [St.cells,hN,hs,hf,w1,Bj];refine LpD.turns X hG [3,6] [(0,3),(1,3)] ?_;simp [hg,h2]
     refine Nxt.mk k (by omega) (AE.mkK 3 (l':=[(0,.ptr 0 0),(1,.func (.func g) [.ptr 0 0] []),(2,.str f),(3,.int .i64 one),(4,.str s),(5,.int .i64 two),(12,.ptr 1 0),(13,.ptr 2 0)])
      (H':=[some (.box ((of ⟨a+1,d,none⟩).2.cells ts)),some (.box (exC .none)),some (.box (exC (.bin one e' (of ⟨a+1,d,none⟩).1)))]) (by simp [hB]) (by simp) (by simp [St.cells]) (by simp [St.cells]))
      ⟨.bin one e' (of ⟨a+1,d,none⟩).1,(of ⟨a+1,d,none⟩).2,?_,?_,?_,?_,rfl,rfl⟩
     ·rw [←sV];simp [DG,hs,hf,St.step]
     ·have:=hu ⟨a+1,d,none⟩;simp only at this;omega
     ·have:=hu ⟨a+1,d,none⟩;simp only at this;omega
     ·have:=hd ⟨a+1,d,none⟩;simp only at this;omega
    |false =>
     have sx:DG ts of f one s two (k+1) e' ⟨a,d,none⟩=(e',⟨a,d,none⟩):=by simp [DG,hs,hf]
     rw [←sV,sx];simp [St.cells,hN,hs,hf,Bj]
theorem kL (ts:List Wd) (sT:ts.length<1000000) {O:Orc} (X:Cx O zP Ag) (hN:∀(a d:Int) (x:Option (Nat × Nat)) (s:List UInt8) (H:AH),0≤a→0≤d→O 130 [.ptr 0 0,.str s] (some (.box [AD ts,.int .i64 a,.int .i64 d,eAV x])::H) =
  some (.bool (nextB ts ⟨a.toNat,d.toNat,x⟩ s),some (.box [AD ts,.int .i64 a,.int .i64 d,eAV x])::H)) {g:FuncId} (hg:AI zP g=true) {of:Rd} {n:Nat} (hA:Ans O ts g of n) (hu:upw of) (hd:∀r,(of r).2.deep=r.deep)
  (f:List UInt8) (one:Nat) (s:List UInt8) (two:Nat) (r:St) (hr:r.deep≤20) (hn:ts.length-r.at_<n) {H:AH} {id:Nat} (hH:H.at id=some (.box (r.cells ts))) :
  CS zP Ag 144 [.ptr id 0,.func (.func g) [.ptr id 0] [],.str f,.int .i64 one,.str s,.int .i64 two] H (CX (Ef ts of f one s two r).1) (H.set id (some (.box ((Ef ts of f one s two r).2.cells ts)))):=by
 have:=CS.rdR (rest:=[.func (.func g) [.ptr 0 0] [],.str f,.int .i64 one,.str s,.int .i64 two]) DI Tryz.func144 (by kernel_rfl) 0 (by simp [Tryz.f144])
  (fun B hB hG=>kK ts sT X hN hg hA hu hd f one s two r hr hn B hB hG) (by simp) (by simp) (St.cells_low ts r) (St.cells_low ts _) hH
 simpa [AN,ren] using this
theorem VP {p:Nat} {f:Rd} (h:upw f):upw (inF p f):=by
 intro r
 by_cases hd:r.deep+1>20
 ·cases he:r.err with
  |none=>simp [inF,hd,he,St.fail]
  |some x=>simp [inF,hd,he,St.fail]
 ·cases he:r.err with
  |none=>simp only [inF,if_neg hd,he,Option.isNone_none,if_true];exact h ⟨r.at_,r.deep+1,none⟩
  |some x=>simp [inF,hd,he]
theorem Iu (r:St) (p e:Nat):(r.fail p e).at_=r.at_:=by unfold St.fail;split<;>rfl
theorem Nf (ts:List Wd) (r:St) (s:List UInt8):r.at_≤(CJ ts r s).at_:=by
 unfold CJ;split
 ·simp [St.step]
 ·rw [Iu];exact Nat.le_refl _
theorem VQ {ts:List Wd} {f:Rd} (h:upw f):∀(n:Nat) (a:List Ex) (r:St),r.at_≤(DH ts f n a r).2.at_
 |0,_,_=>Nat.le_refl _
 |n+1,a,r=>by
  have h1:=h r;simp only [DH]
  split
  ·have h2:=VQ h (ts:=ts) n (a++[(f r).1]) (if a.length+1==4 then (f r).2.fail (f r).2.at_ 4 else (f r).2).step
   have h3:(f r).2.at_≤(if a.length+1==4 then (f r).2.fail (f r).2.at_ 4 else (f r).2).step.at_:=by
    split
    ·simp [St.step,Iu]
    ·simp [St.step]
   omega
  ·exact h1
theorem kM {ts:List Wd} {sf f:Rd} (hs:upw sf) (h:upw f):upw (Cm ts sf f):=by
 intro r;unfold Cm
 split
 ·split
  ·simp [St.step]
  ·split
   ·unfold D0
    split
    ·have h1:=VQ (ts:=ts) hs 6 [] r.step.step
     have h2:=Nf ts (DH ts sf 6 [] r.step.step).2 Ao;simp only [St.step] at h1 h2 ⊢;omega
    ·simp [St.step]
   ·split
    ·have:=VP (p:=r.at_) h r.step
     simp only [St.step] at this ⊢;omega
    ·split
     ·have h1:=VP (p:=r.at_) hs r.step
      have h2:=Nf ts (inF r.at_ sf r.step).2 Ao;simp only [St.step] at h1 h2 ⊢;omega
     ·rw [Iu];exact Nat.le_refl _
 ·rw [Iu];exact Nat.le_refl _
theorem Ng (ts:List Wd):∀n,upw (fac ts n)
 |0=>fun _=>Nat.le_refl _
 |n+1=>kM (zAN (zAN (Ng ts n))) (Ng ts n)
theorem VR (ts:List Wd) (n:Nat):∀r,(fac ts n r).2.deep=r.deep:=(Fd ts n).2.2.2.1
theorem kN (ts:List Wd) (n:Nat):∀r,(Ik ts (fac ts n) r).2.deep=r.deep:=(KZ (ts:=ts) (f:=ED) (s:=EE) (Fd ts n) (by decide) 7 8).2.2.2.1
theorem QT (ts:List Wd) (n:Nat):∀r,(CW ts (fac ts n) r).2.deep=r.deep:=(In (ts:=ts) (Fd ts n)).2.2.2.1
theorem VS (ts:List Wd) (n:Nat):upw (Ik ts (fac ts n)):=zAN (Ng ts n)
theorem kO (ts:List Wd) (n:Nat):upw (CW ts (fac ts n)):=zAN (VS ts n)
open Classical in
noncomputable def Gf (ts:List Wd) (f0:FuncId) (spec:Nat→List AV→St→Option (AV × St)):Orc:=fun f args H =>
 if f=f0 then (match args with
  |.ptr id 0::rest=>if h:∃r:St,H.at id=some (.box (r.cells ts)) then (spec id rest h.choose).map fun x=>(x.1,H.set id (some (.box (x.2.cells ts)))) else none
  |_=>none) else none
theorem QU {ts:List Wd} {f0:FuncId} {spec:Nat→List AV→St→Option (AV × St)} {id:Nat} {rest:List AV} {H:AH} {r:St} (h:H.at id=some (.box (r.cells ts))) :
  Gf ts f0 spec f0 (.ptr id 0::rest) H=(spec id rest r).map fun x=>(x.1,H.set id (some (.box (x.2.cells ts)))):=by
 have hx:∃r:St,H.at id=some (.box (r.cells ts)):=⟨r,h⟩
 have hc:=h.symm.trans hx.choose_spec;simp only [Option.some.injEq,Ent.box.injEq] at hc;have:hx.choose=r:=(St.cells_inj hc).symm;simp only [Gf,if_true,dif_pos hx,this]
theorem VT {ts:List Wd} {f0:FuncId} {spec:Nat→List AV→St→Option (AV × St)}
  (h:∀id rest r v r',spec id rest r=some (v,r')→∀H,H.at id=some (.box (r.cells ts))→CS zP Ag f0 (.ptr id 0::rest) H v (H.set id (some (.box (r'.cells ts))))):AS zP Ag (Gf ts f0 spec):=by
 intro f args H v H' ho;unfold Gf at ho
 split at ho
 ·rename_i hf
  subst hf
  split at ho
  ·rename_i id rest
   split at ho
   ·rename_i hx
    obtain ⟨x,hs,vV⟩:=Option.map_eq_some_iff.1 ho;simp only [Prod.mk.injEq] at vV;obtain ⟨rfl,rfl⟩:=vV;refine ⟨h _ _ _ _ _ hs _ hx.choose_spec,by simp,fun j _ hj=>NY hx.choose_spec hj⟩
   ·cases ho
  ·cases ho
 ·cases ho
def HB (ts:List Wd) (of:Rd) (n:Nat) (rest:List AV) (r:St):Option (AV × St):=match rest with
 |[]=>if r.deep≤20∧ts.length-r.at_<n then some (CX (of r).1,(of r).2) else none
 |_=>none
def D6 (ts:List Wd) (g:FuncId) (of:Rd) (n:Nat):Prop:=AS zP Ag (oRd ts g (HB ts of n))
theorem D6.mk' {ts:List Wd} {g:FuncId} {of:Rd} {n:Nat} (h:∀r:St,r.deep≤20→ts.length-r.at_<n→∀H id,H.at id=some (.box (r.cells ts))→CS zP Ag g [.ptr id 0] H (CX (of r).1) (H.set id (some (.box ((of r).2.cells ts))))):D6 ts g of n :=
 Kj fun rest r v r' hs H id hH=>by
  unfold HB at hs
  split at hs
  ·split at hs
   ·rename_i hc
    injection hs with hs;simp only [Prod.mk.injEq] at hs;obtain ⟨rfl,rfl⟩:=hs;exact h r hc.1 hc.2 H id hH
   ·cases hs
  ·cases hs
theorem QV {ts:List Wd} {g:FuncId} {of:Rd} {n:Nat}:Ans (oRd ts g (HB ts of n)) ts g of n:=fun a d x H ha hd sk hm=>by
 rw [IF (Hk ha hd)];have h1:d.toNat≤20:=by omega
 simp only [HB,if_pos (And.intro h1 hm),Option.map_some,List.set_cons_zero]
noncomputable def oNG (ts:List Wd) (g:FuncId) (of:Rd) (n:Nat):Orc:=orElse (oRd ts 130 (E0 ts)) (oRd ts g (HB ts of n))
theorem kP {ts:List Wd} {g:FuncId} {of:Rd} {n:Nat} (h:D6 ts g of n):Cx (oNG ts g of n) zP Ag:=⟨AS.orElse (NZ ts) h,Dt,Ae⟩
theorem kQ {ts:List Wd} {g:FuncId} {of:Rd} {n:Nat} (a d:Int) (x:Option (Nat × Nat)) (s:List UInt8) (H:AH) (ha:0≤a) (hd:0≤d):oNG ts g of n 130 [.ptr 0 0,.str s] (some (.box [AD ts,.int .i64 a,.int .i64 d,eAV x])::H) =
  some (.bool (nextB ts ⟨a.toNat,d.toNat,x⟩ s),some (.box [AD ts,.int .i64 a,.int .i64 d,eAV x])::H):=by
 simp only [oNG,orElse,Na s H ha hd]
theorem kR {ts:List Wd} {g:FuncId} {of:Rd} {n:Nat} (hg:g≠130):Ans (oNG ts g of n) ts g of n:=fun a d x H ha hd sk hm=>by
 have:=QV (g:=g) (of:=of) (n:=n) a d x H ha hd sk hm;have h1:oRd ts 130 (E0 ts) g [.ptr 0 0] (some (.box [AD ts,.int .i64 a,.int .i64 d,eAV x])::H)=none:=by simp [oRd,hg]
 simp only [oNG,orElse,h1,this]
def Km (ts:List Wd) (g:FuncId) (of:Rd) (n:Nat) (id:Nat) (rest:List AV) (r:St):Option (AV × St):=match rest with
 |[.func (.func g') [.ptr id' 0] [],.str f,.int .i64 one,.str s,.int .i64 two] =>if g'=g∧id'=id∧0≤one∧0≤two∧r.deep≤20∧ts.length-r.at_<n then some (CX (Ef ts of f one.toNat s two.toNat r).1,(Ef ts of f one.toNat s two.toNat r).2) else none
 |_=>none
theorem VU {ts:List Wd} (sT:ts.length<1000000) {g:FuncId} {of:Rd} {n:Nat} (h:D6 ts g of n) (sU:g≠130) (hg:AI zP g=true) (hu:upw of) (hd:∀r,(of r).2.deep=r.deep) :
  AS zP Ag (Gf ts 144 (Km ts g of n)):=VT fun id rest r v r' hs H hH=>by
 unfold Km at hs
 split at hs
 ·rename_i g' id' f one s two
  split at hs
  ·rename_i hc
   obtain ⟨rfl,rfl,h1,h2,h3,h4⟩:=hc;injection hs with hs;simp only [Prod.mk.injEq] at hs;obtain ⟨rfl,rfl⟩:=hs;have:=kL ts sT (kP h) (fun a d x s H ha hd=>kQ a d x s H ha hd) hg (kR sU) hu hd f one.toNat s two.toNat r h3 h4 hH
   rwa [Int.toNat_of_nonneg h1,Int.toNat_of_nonneg h2] at this
  ·cases hs
 ·cases hs
theorem VV {ts:List Wd} {g:FuncId} {of:Rd} {n:Nat} {a d:Int} {x:Option (Nat × Nat)} (f s:List UInt8) (one two:Nat) (H:AH) (ha:0≤a) (hd:0≤d) (sk:d≤20) (hm:ts.length-a.toNat<n) :
  Gf ts 144 (Km ts g of n) 144 [.ptr 0 0,.func (.func g) [.ptr 0 0] [],.str f,.int .i64 one,.str s,.int .i64 two] (some (.box [AD ts,.int .i64 a,.int .i64 d,eAV x])::H) =
  some (CX (Ef ts of f one s two ⟨a.toNat,d.toNat,x⟩).1,some (.box ((Ef ts of f one s two ⟨a.toNat,d.toNat,x⟩).2.cells ts))::H):=by
 rw [QU (Hk ha hd)];have h1:d.toNat≤20:=by omega
 simp [Km,h1,hm]
theorem kS {ts:List Wd} (sT:ts.length<1000000) {n:Nat} (h:D6 ts 154 (fac ts n) n):D6 ts 145 (Ik ts (fac ts n)) n:=D6.mk' fun r hr hn H id hH=>by
 have X:Cx (Gf ts 144 (Km ts 154 (fac ts n) n)) zP Ag:=⟨VU sT h (by decide) Tx.go154 (Ng ts n) (VR ts n),Dt,Ae⟩
 refine CS.rd DI Tryz.func145 (by kernel_rfl) 0 (by simp [Tryz.f145]) (fun B hB hG => ?_) rfl (by simp) (St.cells_low ts r) (St.cells_low ts _) hH;refine Tr.goD X hG ?_;have h1:=fun H=>VV (g:=154) (of:=fac ts n) (x:=r.err) ED EE 7 8 H (a:=r.at_) (d:=r.deep) (by omega) (by omega) (by omega) (by simpa using hn)
 simp [ED,EE] at h1;simp [Tryz.f145,St.cells,h1,Ik,ED,EE]
theorem VW {ts:List Wd} (sT:ts.length<1000000) {n:Nat} (h:D6 ts 154 (fac ts n) n):D6 ts 128 (CW ts (fac ts n)) n:=D6.mk' fun r hr hn H id hH=>by
 have X:Cx (Gf ts 144 (Km ts 145 (Ik ts (fac ts n)) n)) zP Ag:=⟨VU sT (kS sT h) (by decide) Tx.go145 (VS ts n) (kN ts n),Dt,Ae⟩
 refine CS.rd DI Tryz.func128 (by kernel_rfl) 0 (by simp [Tryz.f128]) (fun B hB hG => ?_) rfl (by simp) (St.cells_low ts r) (St.cells_low ts _) hH;refine Tr.goD X hG ?_;have h1:=fun H=>VV (g:=145) (of:=Ik ts (fac ts n)) (x:=r.err) Eg BY 5 6 H (a:=r.at_) (d:=r.deep) (by omega) (by omega) (by omega) (by simpa using hn)
 simp [Eg,BY] at h1;simp [Tryz.f128,St.cells,h1,CW,Eg,BY]
theorem kT (ts:List Wd) {O:Orc} (X:Cx O zP Ag) (hF:∀(a d:Int) (x:Option (Nat × Nat)) (p e:Int) (H:AH),0≤a→0≤d→0≤p→0≤e→O 131 [.ptr 0 0,.int .i64 p,.int .i64 e] (some (.box [AD ts,.int .i64 a,.int .i64 d,eAV x])::H) =
  some (.tup [],some (.box [AD ts,.int .i64 a,.int .i64 d,eAV (some (x.getD (p.toNat,e.toNat)))])::H)) {g:FuncId} (hg:AI zP g=true) {of:Rd} {n:Nat} (hA:Ans O ts g of n) (hd:∀r,(of r).2.deep=r.deep)
  (p:Nat) (r:St) (hr:r.deep≤20) (hn:ts.length-r.at_<n) {H:AH} {id:Nat} (hH:H.at id=some (.box (r.cells ts))) :
  CS zP Ag 160 [.ptr id 0,.int .i64 p,.func (.func g) [.ptr id 0] []] H (CX (inF p of r).1) (H.set id (some (.box ((inF p of r).2.cells ts)))):=by
 have:=CS.rdR (rest:=[.int .i64 p,.func (.func g) [.ptr 0 0] []]) DI Tryz.func160 (by kernel_rfl) 0 (by simp [Tryz.f160])
  (fun B hB hG=>show Tr zP B (At Tryz.f160) _ _ (Fin zP Tryz.f160 1 0 (CX (inF p of r).1) [some (.box ((inF p of r).2.cells ts))]) from by
   refine Tr.goD X hG ?_;obtain ⟨a,d,x⟩:=r;simp only at hr hn;have w1:IntKind.i64.wrap ((d:Int)+1)=(d:Int)+1:=AZ (by omega) (by omega);have w2:IntKind.i64.wrap (d:Int)=(d:Int):=AZ (by omega) (by omega);have h0:0≤(d:Int)+1:=by omega
   have sU:IntKind.i64.wrap (4:Int)=4:=by decide
   by_cases zS:d+1>20
   ·have yn:(20:Int)<(d:Int)+1:=by omega
    cases x with
    |none=>simp [Tryz.f160,St.cells,w1,w2,h0,yn,hF,inF,zS,Hj]
    |some x=>simp [Tryz.f160,St.cells,w1,w2,h0,yn,hF,inF,zS,Hj]
   ·have yn:¬(20:Int)<(d:Int)+1:=by omega
    cases x with
    |some x=>simp [Tryz.f160,St.cells,w1,w2,h0,yn,inF,zS]
    |none =>
     have h1:=fun H=>hA a (d+1:Nat) none H (by omega) (by omega) (by omega) (by simpa using hn)
     have xC:=hd ⟨a,d+1,none⟩;simp only at xC;simp [St.cells,xC] at h1
     simp [Tryz.f160,St.cells,w1,w2,h0,yn,inF,zS,hg,h1,xC]) (by simp) (by simp) (St.cells_low ts r) (St.cells_low ts _) hH
 simpa [AN,ren] using this
@[simp high] theorem qs (m:Nat) (l:List Ex):lowL m (CG l)=true:=Ak (Nat.zero_le m) _ (HA l)
theorem VX:B6 zP 41 4=true:=by kernel_rfl
theorem Nh (e:Ex):([.int .i64 e.kd,.int .i64 e.nn,.str e.nm,e.ar]:List AV).all AV.one=true:=by cases e<;>rfl
def Fe (a:List Ex):AV:=if a=[] then .nilSlice else .slice (.tok 3) 4 a.length (CG a)
def ES (ts:List Wd) (s:List UInt8) (a:List Ex) (r:St):AH:=[some (.box (r.cells ts)),some (.box (exC .none)),some (.box [.int .i64 3,.int .i64 0,.str s,Fe a])]++(if a=[] then [] else [some (.tok a.length)])
def kU (ts:List Wd) (sum:Rd) (n:Nat) (s:List UInt8) (res:List Ex × St) (k:Nat) (t:List AV) (H:AH):Prop :=∃(a:List Ex) (r:St),DH ts sum k a r=res∧k+a.length=6∧a.length≤4∧(a.length=4→r.err.isSome=true)∧ts.length-r.at_<n∧r.deep≤20∧t=mkT 58 [(0,.ptr 0 0),(2,.ptr 1 0),(3,.ptr 2 0)]∧H=ES ts s a r
structure VY (O:Orc) (ts:List Wd) (sum:Rd) (n:Nat):Prop where
 fail:∀(a d:Int) (x:Option (Nat × Nat)) (p e:Int) (H:AH),0≤a→0≤d→0≤p→0≤e→O 131 [.ptr 0 0,.int .i64 p,.int .i64 e] (some (.box [AD ts,.int .i64 a,.int .i64 d,eAV x])::H) =
  some (.tup [],some (.box [AD ts,.int .i64 a,.int .i64 d,eAV (some (x.getD (p.toNat,e.toNat)))])::H)
 next:∀(a d:Int) (x:Option (Nat × Nat)) (s:List UInt8) (H:AH),0≤a→0≤d→O 130 [.ptr 0 0,.str s] (some (.box [AD ts,.int .i64 a,.int .i64 d,eAV x])::H) =
  some (.bool (nextB ts ⟨a.toNat,d.toNat,x⟩ s),some (.box [AD ts,.int .i64 a,.int .i64 d,eAV x])::H)
 takesT:∀(a d:Int) (x:Option (Nat × Nat)) (s:List UInt8) (H:AH),0≤a→0≤d→nextB ts ⟨a.toNat,d.toNat,x⟩ s=true →
  O 159 [.ptr 0 0,.str s] (some (.box [AD ts,.int .i64 a,.int .i64 d,eAV x])::H)=some (.bool true,some (.box [AD ts,.int .i64 (a+1),.int .i64 d,eAV x])::H)
 takesF:∀(a d:Int) (x:Option (Nat × Nat)) (s:List UInt8) (H:AH),0≤a→0≤d→nextB ts ⟨a.toNat,d.toNat,x⟩ s=false →
  O 159 [.ptr 0 0,.str s] (some (.box [AD ts,.int .i64 a,.int .i64 d,eAV x])::H)=some (.bool false,some (.box [AD ts,.int .i64 a,.int .i64 d,eAV x])::H)
 must:∀(a d:Int) (x:Option (Nat × Nat)) (s:List UInt8) (H:AH),0≤a→0≤d→O 161 [.ptr 0 0,.str s] (some (.box [AD ts,.int .i64 a,.int .i64 d,eAV x])::H) =
  some (.tup [],some (.box ((CJ ts ⟨a.toNat,d.toNat,x⟩ s).cells ts))::H)
 sum:Ans O ts 128 sum n
theorem kV (ts:List Wd) (sT:ts.length<1000000) {O:Orc} (X:Cx O zP Ag) {sum:Rd} {n:Nat} (hO:VY O ts sum n) (hu:upw sum) (hd:∀r,(sum r).2.deep=r.deep) (hk:NJ sum)
  (w:Wd) (r:St) (he:r.err=none) (hw:ts[r.at_]? = some w) (hr:r.deep≤20) (hn:ts.length-r.at_<n+1) {H:AH} {id:Nat} (hH:H.at id=some (.box (r.cells ts))) :
  CS zP Ag 158 [.ptr id 0] H (CX (D0 ts sum w.text r).1) (H.set id (some (.box ((D0 ts sum w.text r).2.cells ts)))):=by
 refine CS.rd DI Tryz.func158 (by kernel_rfl) 0 (by simp [Tryz.f158]) (fun B hB hG => ?_) rfl (by simp) (St.cells_low ts r) (St.cells_low ts _) hH;obtain ⟨a,d,x⟩:=r;simp only at he hw hr hn;subst he;have hl:a<ts.length:=(List.getElem?_eq_some_iff.1 hw).1;have hl':(a:Int)<ts.length:=by omega
 obtain ⟨c0,c1,c3⟩:=Eh hw;have w1:IntKind.i64.wrap ((a:Int)+1)=(a:Int)+1:=AZ (by omega) (by omega);have h0:0≤(a:Int)+1:=by omega
 refine Tr.goD X hG ?_;simp [Tryz.f158,St.cells];refine LpD.turns X hG [12,13] [(0,12),(1,12),(2,12),(3,12),(4,12),(5,12),(6,12),(7,12),(8,12),(9,12),(10,12),(11,12)] ?_;cases ho:nextB ts ⟨a+1,d,none⟩ Ah with
 |false =>
  have h1:D0 ts sum w.text ⟨a,d,none⟩=(.var w.text,⟨a+1,d,none⟩):=by simp [D0,St.step,ho]
  have h2:=fun H=>hO.takesF ((a:Int)+1) d none Ah H h0 (by omega) (by simpa using ho)
  simp [Ah] at h2;simp [hl,hl',c1,w1,h2,h1]
 |true =>
  have h2:=fun H=>hO.takesT ((a:Int)+1) d none Ah H h0 (by omega) (by simpa using ho)
  simp [Ah] at h2;have se:a+1<ts.length:=FO ho;have h1:D0 ts sum w.text ⟨a,d,none⟩=(.elem w.text (DH ts sum 6 [] ⟨a+1+1,d,none⟩).1,CJ ts (DH ts sum 6 [] ⟨a+1+1,d,none⟩).2 Ao):=by simp [D0,St.step,ho]
  simp [hl,hl',c1,w1,h2,h1];generalize xD:DH ts sum 6 [] ⟨a+1+1,d,none⟩=res
  refine LpD.loopN X hG (kU ts sum n w.text res) 6 (t':=mkT 58 [(0,.ptr 0 0),(2,.ptr 1 0),(3,.ptr 2 0)]) (H':=ES ts w.text [] ⟨a+1+1,d,none⟩)
   (AE.mkK 3 (by simp [hB]) (by simp) (by simp [ES,Fe,St.cells]) (by simp [ES,Fe,St.cells])) ⟨[],⟨a+1+1,d,none⟩,xD,rfl,by simp,by simp,by simp only;omega,hr,rfl,rfl⟩ ?_
  rintro k t H ⟨a',r',sV,x8,sY,h4,hm,uN,rfl,rfl⟩;obtain ⟨b,d',x⟩:=r';simp only at h4 hm uN;have ym:(d':Int)≤20:=by omega
  have hs:=fun H=>hO.sum b d' x H (by omega) (by omega) ym (by simpa using hm)
  have zT:=hu ⟨b,d',x⟩;have ub:=hd ⟨b,d',x⟩;have wb:=hk ⟨b,d',x⟩;simp only at zT ub wb;cases k with
  |zero =>omega
  |succ k =>
  have x6:DH ts sum (k+1) a' ⟨b,d',x⟩=if nextB ts (sum ⟨b,d',x⟩).2 A0 then DH ts sum k (a'++[(sum ⟨b,d',x⟩).1]) (if a'.length+1==4 then (sum ⟨b,d',x⟩).2.fail (sum ⟨b,d',x⟩).2.at_ 4 else (sum ⟨b,d',x⟩).2).step else (a'++[(sum ⟨b,d',x⟩).1],(sum ⟨b,d',x⟩).2):=rfl
  rw [x6] at sV;simp only [Int.toNat_natCast] at hs;generalize sum ⟨b,d',x⟩=p at *;obtain ⟨e,⟨b2,d2,x2⟩⟩:=p;simp only at zT ub wb sV;subst ub;have zBc:=fun H=>GT (P:=zP) (t:=41) (sz:=4) (m:=1) (H:=H) (fid:=3) (ow := .full) VX (by decide) (by decide) (Nh e)
  have zAV:=fun H (h:AH.at H 3=some (.tok a'.length))=>Eu (P:=zP) (t:=41) (sz:=4) (m:=1) (H:=H) (fid:=4) (ow := .full) (xs:=CG a') VX h (by decide) (by omega) (Nh e)
  simp [St.cells] at hs;cases hc:nextB ts ⟨b2,d2,x2⟩ A0 with
  |false =>
   rw [hc] at sV;simp only [Bool.false_eq_true,if_false] at sV;subst sV;have vY:=fun H=>hO.must b2 d2 x2 Ao H (by omega) (by omega)
   have sU:=fun H=>hO.next b2 d2 x2 A0 H (by omega) (by omega)
   simp [Ao,St.cells] at vY;simp [A0] at sU;have hc':=hc;simp [A0] at hc'
   by_cases ha:a'=[]
   ·subst ha
    simp [ES,Fe,St.cells];refine LpD.turns X hG [3,5,7] [(0,3),(1,3)] ?_;simp [hs,zBc,sU,hc',Bj,vY,Ao,CG]
   ·have sc:a'.length≠0:=fun h=>ha (List.eq_nil_of_length_eq_zero h)
    simp [ES,Fe,St.cells,ha];refine LpD.turns X hG [3,5,7] [(0,3),(1,3)] ?_;simp [hs,zAV,sU,hc',Bj,vY,Ao,CG,Hi,HA]
  |true =>
   have sh:b2<ts.length:=FO hc
   obtain rfl:x2=none:=by
    cases x2 with
    |none=>rfl
    |some y=>simp [nextB] at hc
   have h3:a'.length≤3:=by
    rcases Nat.lt_or_ge a'.length 4 with h|h
    ·omega
    ·have:=h4 (by omega)
     cases x with
     |none=>cases this
     |some y=>have:=wb y rfl;cases this
   have w5:IntKind.i64.wrap ((b2:Int)+1)=(b2:Int)+1:=AZ (by omega) (by omega);rw [hc] at sV;simp only [if_true] at sV;have sU:=fun H=>hO.next b2 d2 none A0 H (by omega) (by omega)
   simp [A0] at sU;have hc':=hc;simp [A0] at hc'
   by_cases ha:a'=[]
   ·subst ha
    simp [ES,Fe,St.cells];refine LpD.turns X hG [3,5,7] [(0,3),(1,3)] ?_;simp [hs,zBc,sU,hc',w5,CG]
    refine Nxt.mk k (by omega) (AE.mkK 4 (l':=[(0,.ptr 0 0),(2,.ptr 1 0),(3,.ptr 2 0)]) (H':=ES ts w.text [e] ⟨b2+1,d2,none⟩) (by simp [hB]) (by simp) (by simp [ES,Fe,St.cells,CG]) (by simp [ES,Fe,St.cells,CG]))
     ⟨[e],⟨b2+1,d2,none⟩,?_,?_,by simp,by simp,?_,uN,rfl,rfl⟩
    ·rw [←sV];simp [St.step]
    ·simp only [List.length_cons,List.length_nil] at x8 ⊢;omega
    ·simp only;omega
   ·have sc:a'.length≠0:=fun h=>ha (List.eq_nil_of_length_eq_zero h)
    by_cases hf:a'.length+1=4
    ·have hf':((a'.length:Int)+1=4):=by omega
     have wQ:a'.length=3:=by omega
     have sl:=fun H=>hO.fail b2 d2 none b2 4 H (by omega) (by omega) (by omega) (by omega)
     simp at sl;simp [ES,Fe,St.cells,ha];refine LpD.turns X hG [3,5,7] [(0,3),(1,3)] ?_;simp [hs,zAV,sU,hc',w5,CG,Hi,hf',sl,HA]
     refine Nxt.mk k (by omega) (AE.mkK 4 (l':=[(0,.ptr 0 0),(2,.ptr 1 0),(3,.ptr 2 0)]) (H':=ES ts w.text (a'++[e]) ⟨b2+1,d2,some (b2,4)⟩) (by simp [hB]) (by simp) (by simp [ES,Fe,St.cells,CG,Hi]) (by simp [ES,Fe,St.cells,CG,Hi,HA]))
      ⟨a'++[e],⟨b2+1,d2,some (b2,4)⟩,?_,?_,?_,by simp,?_,uN,rfl,rfl⟩
     ·rw [←sV];simp [St.step,wQ,Hj]
     ·simp only [List.length_append,List.length_cons,List.length_nil] at x8 ⊢;omega
     ·simp only [List.length_append,List.length_cons,List.length_nil];omega
     ·simp only;omega
    ·have hf':¬((a'.length:Int)+1=4):=by omega
     have wQ:¬a'.length=3:=by omega
     simp [ES,Fe,St.cells,ha];refine LpD.turns X hG [3,5,7] [(0,3),(1,3)] ?_;simp [hs,zAV,sU,hc',w5,CG,Hi,hf',HA]
     refine Nxt.mk k (by omega) (AE.mkK 4 (l':=[(0,.ptr 0 0),(2,.ptr 1 0),(3,.ptr 2 0)]) (H':=ES ts w.text (a'++[e]) ⟨b2+1,d2,none⟩) (by simp [hB]) (by simp) (by simp [ES,Fe,St.cells,CG,Hi]) (by simp [ES,Fe,St.cells,CG,Hi,HA]))
      ⟨a'++[e],⟨b2+1,d2,none⟩,?_,?_,?_,?_,?_,uN,rfl,rfl⟩
     ·rw [←sV];simp [St.step,wQ]
     ·simp only [List.length_append,List.length_cons,List.length_nil] at x8 ⊢;omega
     ·simp only [List.length_append,List.length_cons,List.length_nil];omega
     ·simp only [List.length_append,List.length_cons,List.length_nil];omega
     ·simp only;omega
structure VZ (O:Orc) (ts:List Wd) (n:Nat):Prop where
 fail:∀(a d:Int) (x:Option (Nat × Nat)) (p e:Int) (H:AH),0≤a→0≤d→0≤p→0≤e→O 131 [.ptr 0 0,.int .i64 p,.int .i64 e] (some (.box [AD ts,.int .i64 a,.int .i64 d,eAV x])::H) =
  some (.tup [],some (.box [AD ts,.int .i64 a,.int .i64 d,eAV (some (x.getD (p.toNat,e.toNat)))])::H)
 takesT:∀(a d:Int) (x:Option (Nat × Nat)) (s:List UInt8) (H:AH),0≤a→0≤d→nextB ts ⟨a.toNat,d.toNat,x⟩ s=true →
  O 159 [.ptr 0 0,.str s] (some (.box [AD ts,.int .i64 a,.int .i64 d,eAV x])::H)=some (.bool true,some (.box [AD ts,.int .i64 (a+1),.int .i64 d,eAV x])::H)
 takesF:∀(a d:Int) (x:Option (Nat × Nat)) (s:List UInt8) (H:AH),0≤a→0≤d→nextB ts ⟨a.toNat,d.toNat,x⟩ s=false →
  O 159 [.ptr 0 0,.str s] (some (.box [AD ts,.int .i64 a,.int .i64 d,eAV x])::H)=some (.bool false,some (.box [AD ts,.int .i64 a,.int .i64 d,eAV x])::H)
 must:∀(a d:Int) (x:Option (Nat × Nat)) (s:List UInt8) (H:AH),0≤a→0≤d→O 161 [.ptr 0 0,.str s] (some (.box [AD ts,.int .i64 a,.int .i64 d,eAV x])::H) =
  some (.tup [],some (.box ((CJ ts ⟨a.toNat,d.toNat,x⟩ s).cells ts))::H)
 name:∀(a d:Int) (w:Wd) (H:AH),0≤a→0≤d→d≤20→ts[a.toNat]? = some w→ts.length-a.toNat<n+1→O 158 [.ptr 0 0] (some (.box [AD ts,.int .i64 a,.int .i64 d,eAV none])::H) =
  some (CX (D0 ts (CW ts (fac ts n)) w.text ⟨a.toNat,d.toNat,none⟩).1,some (.box ((D0 ts (CW ts (fac ts n)) w.text ⟨a.toNat,d.toNat,none⟩).2.cells ts))::H)
 inFac:∀(a d p:Int) (x:Option (Nat × Nat)) (H:AH),0≤a→0≤d→d≤20→0≤p→ts.length-a.toNat<n→O 160 [.ptr 0 0,.int .i64 p,.func (.func 154) [.ptr 0 0] []] (some (.box [AD ts,.int .i64 a,.int .i64 d,eAV x])::H) =
  some (CX (inF p.toNat (fac ts n) ⟨a.toNat,d.toNat,x⟩).1,some (.box ((inF p.toNat (fac ts n) ⟨a.toNat,d.toNat,x⟩).2.cells ts))::H)
 inSum:∀(a d p:Int) (x:Option (Nat × Nat)) (H:AH),0≤a→0≤d→d≤20→0≤p→ts.length-a.toNat<n→O 160 [.ptr 0 0,.int .i64 p,.func (.func 128) [.ptr 0 0] []] (some (.box [AD ts,.int .i64 a,.int .i64 d,eAV x])::H) =
  some (CX (inF p.toNat (CW ts (fac ts n)) ⟨a.toNat,d.toNat,x⟩).1,some (.box ((inF p.toNat (CW ts (fac ts n)) ⟨a.toNat,d.toNat,x⟩).2.cells ts))::H)
theorem kW (ts:List Wd) (sT:ts.length<1000000) {n:Nat} {O:Orc} (X:Cx O zP Ag) (hO:VZ O ts n) (r:St) (hr:r.deep≤20) (hn:ts.length-r.at_<n+1) {H:AH} {id:Nat} (hH:H.at id=some (.box (r.cells ts))) :
  CS zP Ag 154 [.ptr id 0] H (CX (fac ts (n+1) r).1) (H.set id (some (.box ((fac ts (n+1) r).2.cells ts)))):=by
 refine CS.rd DI Tryz.func154 (by kernel_rfl) 0 (by simp [Tryz.f154]) (fun B hB hG => ?_) rfl (by simp) (St.cells_low ts r) (St.cells_low ts _) hH;obtain ⟨a,d,x⟩:=r;simp only at hr hn;have hr':(d:Int)≤20:=by omega
 have xw:fac ts (n+1) ⟨a,d,x⟩=Cm ts (CW ts (fac ts n)) (fac ts n) ⟨a,d,x⟩:=rfl;rw [xw];have sl:=fun H=>hO.fail a d x a 2 H (by omega) (by omega) (by omega) (by omega)
 simp at sl;refine Tr.goD X hG ?_;simp [Tryz.f154,St.cells];refine LpD.turns X hG [] [] ?_;cases x with
 |some y =>
  have h1:Cm ts (CW ts (fac ts n)) (fac ts n) ⟨a,d,some y⟩=(.none,⟨a,d,some y⟩):=by simp [Cm,St.fail]
  simp [h1,sl]
 |none =>
  by_cases hl:a<ts.length
  ·have hl':(a:Int)<ts.length:=by omega
   have se:¬((ts.length:Int)≤a):=by omega
   obtain ⟨w,hw⟩:∃w,ts[a]? = some w:=⟨_,List.getElem?_eq_getElem hl⟩
   obtain ⟨c0,c1,c3⟩:=Eh hw;obtain ⟨cc1,cc2⟩:=Ki ts a w hw;have w1:IntKind.i64.wrap ((a:Int)+1)=(a:Int)+1:=AZ (by omega) (by omega);simp [hl,hl',se];refine LpD.turns X hG [14,16] [(0,14),(1,14),(2,14),(3,14),(4,14),(5,14),(6,14),(7,14),(8,14),(9,14),(10,14),(11,14),(12,14),(13,14)] ?_;simp [hl,hl',cc1,cc2,BD]
   by_cases uT:w.kind=2
   ·have e2:(w.kind:Int)=2:=by omega
    have h1:Cm ts (CW ts (fac ts n)) (fac ts n) ⟨a,d,none⟩=(.num w.n,⟨a+1,d,none⟩):=by simp only [Cm,hw,uT];rfl
    simp [e2,w1,h1]
   ·have e2:¬(w.kind:Int)=2:=by omega
    have b2:(w.kind==2)=false:=by rw [beq_eq_false_iff_ne];exact uT
    by_cases uF:w.kind=1
    ·have e1:(w.kind:Int)=1:=by omega
     have h1:Cm ts (CW ts (fac ts n)) (fac ts n) ⟨a,d,none⟩=D0 ts (CW ts (fac ts n)) w.text ⟨a,d,none⟩:=by simp only [Cm,hw,uF];rfl
     have xF:=fun H=>hO.name a d w H (by omega) (by omega) hr' (by simpa using hw) (by simpa using hn)
     simp [St.cells] at xF;simp [e1,xF,h1]
    ·have e1:¬(w.kind:Int)=1:=by omega
     have b1:(w.kind==1)=false:=by rw [beq_eq_false_iff_ne];exact uF
     have nx:∀s,nextB ts ⟨a,d,none⟩ s=isS ts a s:=fun s=>by simp [nextB]
     have vQ:ts.length-(a+1)<n:=by omega
     have h0:0≤(a:Int)+1:=by omega
     cases ut:isS ts a BY with
     |true =>
      have h1:Cm ts (CW ts (fac ts n)) (fac ts n) ⟨a,d,none⟩=(.neg (inF a (fac ts n) ⟨a+1,d,none⟩).1,(inF a (fac ts n) ⟨a+1,d,none⟩).2):=by simp only [Cm,hw,b2,b1,ut];rfl
      have ht:=fun H=>hO.takesT a d none BY H (by omega) (by omega) (by simp [nx,ut])
      have hi:=fun H=>hO.inFac ((a:Int)+1) d a none H h0 (by omega) hr' (by omega) (by simpa using vQ)
      simp [BY] at ht;simp [St.cells] at hi;simp [e2,e1,ht,hi,h1]
     |false =>
      have ht:=fun H=>hO.takesF a d none BY H (by omega) (by omega) (by simp [nx,ut])
      simp [BY] at ht;cases tD:isS ts a Ah with
      |true =>
       have h1:Cm ts (CW ts (fac ts n)) (fac ts n) ⟨a,d,none⟩=((inF a (CW ts (fac ts n)) ⟨a+1,d,none⟩).1,CJ ts (inF a (CW ts (fac ts n)) ⟨a+1,d,none⟩).2 Ao):=by simp only [Cm,hw,b2,b1,ut,tD];rfl
       have vt:=fun H=>hO.takesT a d none Ah H (by omega) (by omega) (by simp [nx,tD])
       have hi:=fun H=>hO.inSum ((a:Int)+1) d a none H h0 (by omega) hr' (by omega) (by simpa using vQ)
       simp [Ah] at vt;simp [St.cells] at hi;rw [h1];generalize inF a (CW ts (fac ts n)) ⟨a+1,d,none⟩=p at *;obtain ⟨e,⟨a2,d2,x2⟩⟩:=p;have vY:=fun H=>hO.must a2 d2 x2 Ao H (by omega) (by omega)
       simp [Ao,St.cells] at vY;simp only at hi;simp [e2,e1,ht,vt,hi,vY,Ao]
      |false =>
       have h1:Cm ts (CW ts (fac ts n)) (fac ts n) ⟨a,d,none⟩=(.none,⟨a,d,some (a,2)⟩):=by simp only [Cm,hw,b2,b1,ut,tD];rfl
       have vt:=fun H=>hO.takesF a d none Ah H (by omega) (by omega) (by simp [nx,tD])
       simp [Ah] at vt;simp [e2,e1,ht,vt,sl,h1]
  ·have hw:ts[a]? = none:=List.getElem?_eq_none (by omega)
   have hl':¬(a:Int)<ts.length:=by omega
   have se:((ts.length:Int)≤a):=by omega
   have h1:Cm ts (CW ts (fac ts n)) (fac ts n) ⟨a,d,none⟩=(.none,⟨a,d,some (a,2)⟩):=by simp only [Cm,hw];rfl
   simp [h1,sl,hl',se]
theorem Va {ts:List Wd} {a d:Int} {x:Option (Nat × Nat)} (s:List UInt8) (H:AH) (ha:0≤a) (hd:0≤d) :
  oRd ts 161 (Kl ts) 161 [.ptr 0 0,.str s] (some (.box [AD ts,.int .i64 a,.int .i64 d,eAV x])::H)=some (.tup [],some (.box ((CJ ts ⟨a.toNat,d.toNat,x⟩ s).cells ts))::H):=by
 rw [IF (Hk ha hd)];simp [Kl]
noncomputable def oNm (ts:List Wd) (n:Nat):Orc:=A5 [(131,oRd ts 131 GB),(130,oRd ts 130 (E0 ts)),
 (159,oRd ts 159 (EF ts)),(161,oRd ts 161 (Kl ts)),
 (128,oRd ts 128 (HB ts (CW ts (fac ts n)) n))]
theorem kX {ts:List Wd} (sT:ts.length<1000000) {n:Nat} (h:D6 ts 128 (CW ts (fac ts n)) n):Cx (oNm ts n) zP Ag:=⟨FZ (by
 intro p hp;simp only [List.mem_cons,List.not_mem_nil,or_false] at hp;rcases hp with rfl|rfl|rfl|rfl|rfl
 ·exact Kk ts
 ·exact NZ ts
 ·exact QP ts sT
 ·exact VO ts sT
 ·exact h),Dt,Ae⟩
theorem kY (ts:List Wd) (n:Nat):VY (oNm ts n) ts (CW ts (fac ts n)) n where
 fail:=fun a d x p e H ha hd hp he=>by rw [←Lh p e H ha hd hp he];simp [oNm,A5,List.lookup]
 next:=fun a d x s H ha hd=>by rw [←Na s H ha hd];simp [oNm,A5,List.lookup]
 takesT:=fun a d x s H ha hd hn=>by rw [←QQ s H ha hd hn];simp [oNm,A5,List.lookup]
 takesF:=fun a d x s H ha hd hn=>by rw [←QR s H ha hd hn];simp [oNm,A5,List.lookup]
 must:=fun a d x s H ha hd=>by rw [←Va s H ha hd];simp [oNm,A5,List.lookup]
 sum:=fun a d x H ha hd sk hm=>by rw [←QV (g:=128) (of:=CW ts (fac ts n)) (n:=n) a d x H ha hd sk hm];simp [oNm,A5,List.lookup]
def Li (ts:List Wd) (n:Nat) (rest:List AV) (r:St):Option (AV × St):=match rest,r.err,ts[r.at_]? with
 |[],none,some w=>if r.deep≤20∧ts.length-r.at_<n+1 then some (CX (D0 ts (CW ts (fac ts n)) w.text r).1,(D0 ts (CW ts (fac ts n)) w.text r).2) else none
 |_,_,_=>none
theorem kZ {ts:List Wd} (sT:ts.length<1000000) {n:Nat} (h:D6 ts 128 (CW ts (fac ts n)) n):AS zP Ag (oRd ts 158 (Li ts n)):=Kj fun rest r v r' hs H id hH=>by
 unfold Li at hs
 split at hs
 ·rename_i w he hw
  split at hs
  ·rename_i hc
   injection hs with hs;simp only [Prod.mk.injEq] at hs;obtain ⟨rfl,rfl⟩:=hs;exact kV ts sT (kX sT h) (kY ts n) (kO ts n) (QT ts n) (In (ts:=ts) (Fd ts n)).2.1 w r he hw hc.1 hc.2 hH
  ·cases hs
 ·cases hs
noncomputable def oFG (ts:List Wd) (g:FuncId) (of:Rd) (n:Nat):Orc:=orElse (oRd ts 131 GB) (oRd ts g (HB ts of n))
theorem Vb {ts:List Wd} {g:FuncId} {of:Rd} {n:Nat} (h:D6 ts g of n) (sU:g≠131) (hg:AI zP g=true) (hd:∀r,(of r).2.deep=r.deep) (p:Nat) (r:St) (hr:r.deep≤20) (hn:ts.length-r.at_<n) {H:AH} {id:Nat} (hH:H.at id=some (.box (r.cells ts))) :
  CS zP Ag 160 [.ptr id 0,.int .i64 p,.func (.func g) [.ptr id 0] []] H (CX (inF p of r).1) (H.set id (some (.box ((inF p of r).2.cells ts)))):=by
 have X:Cx (oFG ts g of n) zP Ag:=⟨AS.orElse (Kk ts) h,Dt,Ae⟩
 refine kT ts X (fun a d x p e H ha hd hp he => ?_) hg (n:=n) (fun a d x H ha hd sk hm => ?_) hd p r hr hn hH
 ·simp only [oFG,orElse,Lh p e H ha hd hp he]
 ·have h1:oRd ts 131 GB g [.ptr 0 0] (some (.box [AD ts,.int .i64 a,.int .i64 d,eAV x])::H)=none:=by simp [oRd,sU]
  simp only [oFG,orElse,h1,QV (g:=g) (of:=of) (n:=n) a d x H ha hd sk hm]
def Ji (ts:List Wd) (n:Nat) (id:Nat) (rest:List AV) (r:St):Option (AV × St):=match rest with
 |[.int .i64 p,.func (.func g) [.ptr id' 0] []] =>
  if id'=id∧0≤p∧r.deep≤20∧ts.length-r.at_<n then
   (if g=154 then some (CX (inF p.toNat (fac ts n) r).1,(inF p.toNat (fac ts n) r).2)
   else if g=128 then some (CX (inF p.toNat (CW ts (fac ts n)) r).1,(inF p.toNat (CW ts (fac ts n)) r).2) else none)
  else none
 |_=>none
theorem ka {ts:List Wd} {n:Nat} (hf:D6 ts 154 (fac ts n) n) (hs:D6 ts 128 (CW ts (fac ts n)) n):AS zP Ag (Gf ts 160 (Ji ts n)):=VT fun id rest r v r' hq H hH=>by
 unfold Ji at hq
 split at hq
 ·rename_i p g id'
  split at hq
  ·rename_i hc
   obtain ⟨rfl,h1,h2,h3⟩:=hc
   split at hq
   ·rename_i hg
    subst hg;injection hq with hq;simp only [Prod.mk.injEq] at hq;obtain ⟨rfl,rfl⟩:=hq;have:=Vb hf (by decide) Tx.go154 (VR ts n) p.toNat r h2 h3 hH
    rwa [Int.toNat_of_nonneg h1] at this
   ·split at hq
    ·rename_i hg
     subst hg;injection hq with hq;simp only [Prod.mk.injEq] at hq;obtain ⟨rfl,rfl⟩:=hq;have:=Vb hs (by decide) Tx.go128 (QT ts n) p.toNat r h2 h3 hH
     rwa [Int.toNat_of_nonneg h1] at this
    ·cases hq
  ·cases hq
 ·cases hq
noncomputable def oFc (ts:List Wd) (n:Nat):Orc:=A5 [(131,oRd ts 131 GB),(159,oRd ts 159 (EF ts)),
 (161,oRd ts 161 (Kl ts)),(158,oRd ts 158 (Li ts n)),(160,Gf ts 160 (Ji ts n))]
theorem kb {ts:List Wd} (sT:ts.length<1000000) {n:Nat} (hf:D6 ts 154 (fac ts n) n):Cx (oFc ts n) zP Ag:=⟨FZ (by
 have hs:=VW sT hf;intro p hp;simp only [List.mem_cons,List.not_mem_nil,or_false] at hp;rcases hp with rfl|rfl|rfl|rfl|rfl
 ·exact Kk ts
 ·exact QP ts sT
 ·exact VO ts sT
 ·exact kZ sT hs
 ·exact ka hf hs),Dt,Ae⟩
theorem kc (ts:List Wd) (n:Nat):VZ (oFc ts n) ts n where
 fail:=fun a d x p e H ha hd hp he=>by rw [←Lh p e H ha hd hp he];simp [oFc,A5,List.lookup]
 takesT:=fun a d x s H ha hd hn=>by rw [←QQ s H ha hd hn];simp [oFc,A5,List.lookup]
 takesF:=fun a d x s H ha hd hn=>by rw [←QR s H ha hd hn];simp [oFc,A5,List.lookup]
 must:=fun a d x s H ha hd=>by rw [←Va s H ha hd];simp [oFc,A5,List.lookup]
 name:=fun a d w H ha hd sk hw hm=>by
  have e1:oFc ts n 158 [.ptr 0 0] (some (.box [AD ts,.int .i64 a,.int .i64 d,eAV none])::H)=oRd ts 158 (Li ts n) 158 [.ptr 0 0] (some (.box [AD ts,.int .i64 a,.int .i64 d,eAV none])::H):=by simp [oFc,A5,List.lookup]
  rw [e1,IF (Hk ha hd)];have h1:d.toNat≤20:=by omega
  simp only [Li,hw,if_pos (And.intro h1 hm),Option.map_some,List.set_cons_zero]
 inFac:=fun a d p x H ha hd sk hp hm=>by
  have e1:oFc ts n 160 [.ptr 0 0,.int .i64 p,.func (.func 154) [.ptr 0 0] []] (some (.box [AD ts,.int .i64 a,.int .i64 d,eAV x])::H)=Gf ts 160 (Ji ts n) 160 [.ptr 0 0,.int .i64 p,.func (.func 154) [.ptr 0 0] []] (some (.box [AD ts,.int .i64 a,.int .i64 d,eAV x])::H):=by simp [oFc,A5,List.lookup]
  rw [e1,QU (Hk ha hd)];have h1:d.toNat≤20:=by omega
  simp only [Ji,if_pos (show (True∧0≤p∧d.toNat≤20∧ts.length-a.toNat<n) from ⟨trivial,hp,h1,hm⟩),if_true,Option.map_some,List.set_cons_zero]
 inSum:=fun a d p x H ha hd sk hp hm=>by
  have e1:oFc ts n 160 [.ptr 0 0,.int .i64 p,.func (.func 128) [.ptr 0 0] []] (some (.box [AD ts,.int .i64 a,.int .i64 d,eAV x])::H)=Gf ts 160 (Ji ts n) 160 [.ptr 0 0,.int .i64 p,.func (.func 128) [.ptr 0 0] []] (some (.box [AD ts,.int .i64 a,.int .i64 d,eAV x])::H):=by simp [oFc,A5,List.lookup]
  rw [e1,QU (Hk ha hd)];have h1:d.toNat≤20:=by omega
  have h2:¬(128=154):=by decide
  simp only [Ji,if_pos (show (True∧0≤p∧d.toNat≤20∧ts.length-a.toNat<n) from ⟨trivial,hp,h1,hm⟩),if_neg h2,if_true,Option.map_some,List.set_cons_zero]
theorem Vc {ts:List Wd} (sT:ts.length<1000000):∀n,D6 ts 154 (fac ts n) n
 |0=>D6.mk' fun r _ hn=>absurd hn (Nat.not_lt_zero _)
 |n+1=>D6.mk' fun r hr hn H id hH=>kW ts sT (kb sT (Vc sT n)) (kc ts n) r hr hn hH
theorem Vd {ts:List Wd} (sT:ts.length<1000000):D6 ts 128 (CC ts) (ts.length+1):=VW sT (Vc sT _)
theorem Ve {ts:List Wd} {a d:Int} {x:Option (Nat × Nat)} {e0:Option Ent} (H:AH) (ha:0≤a) (hd:0≤d) (sk:d≤20) :
  oRd ts 128 (HB ts (CC ts) (ts.length+1)) 128 [.ptr 1 0] (e0::some (.box [AD ts,.int .i64 a,.int .i64 d,eAV x])::H) =
   some (CX (CC ts ⟨a.toNat,d.toNat,x⟩).1,e0::some (.box ((CC ts ⟨a.toNat,d.toNat,x⟩).2.cells ts))::H):=by
 have h0:AH.at (e0::some (.box [AD ts,.int .i64 a,.int .i64 d,eAV x])::H) 1=some (.box ((⟨a.toNat,d.toNat,x⟩:St).cells ts)):=by simp [AH.at,St.cells,Int.toNat_of_nonneg ha,Int.toNat_of_nonneg hd]
 rw [IF h0];have h1:d.toNat≤20:=by omega
 have h2:ts.length-a.toNat<ts.length+1:=by omega
 simp only [HB,if_pos (And.intro h1 h2),Option.map_some,List.set_cons_succ,List.set_cons_zero]
@[simp] theorem buRd (ts:List Wd):Ay zP 229 [(0,AD ts)]=some (.agg [AD ts,.int .i64 0,.int .i64 0,.nilIface]):=by
 unfold AD
 split<;>kernel_rfl
theorem Lj:eAV none = .nilIface:=AP rfl
def Lk (x:Ex × Nat × Option (Nat × Nat)):AV := .tup [CX x.1,.int .i64 x.2.1,eAV x.2.2]
theorem ke (ts:List Wd) (sT:ts.length<1000000) (H:AH):CS zP Ag 110 [AD ts] H (Lk (Bb ts)) H:=by
 have X:Cx (oRd ts 128 (HB ts (CC ts) (ts.length+1))) zP Ag:=⟨Vd sT,Dt,Ae⟩
 refine CS.tr0 DI Tryz.func110 (by kernel_rfl) 0 (by simp [Tryz.f110]) (fun B hB hG => ?_) (by simp [Lk]) (by simp) H;refine Tr.goD X hG ?_;have h1:=fun H e0=>Ve (ts:=ts) (a:=0) (d:=0) (x:=none) (e0:=e0) H (by omega) (by omega) (by omega)
 simp only [Bb];simp [St.cells,Lj] at h1;generalize CC ts ⟨0,0,none⟩=p at *;obtain ⟨e,⟨b,d,x⟩⟩:=p;simp only at h1;cases x with
 |none =>simp [Tryz.f110,h1];refine LpD.turns X hG [5] zL0 ?_;simp [Lk,Lj]
 |some y =>simp [Tryz.f110,h1];refine LpD.turns X hG [5] zL0 ?_;simp [Lk]
theorem cxN:Cx Bl zP AM:=⟨Jc,DN,Ae⟩
theorem kf (b:UInt8) (H:AH):CS zP AM 80 [.int .u8 (b.toNat:Int)] H (.bool (CF b)) H:=by
 refine CS.run0 cxN Ew Tryz.func80 (by kernel_rfl) (by kernel_rfl) 0 (by simp [Tryz.f80]) ?_ rfl rfl H
 by_cases h1:(97:Int)≤(b.toNat:Int)
 ·have h3:97≤b.toNat:=by omega
  by_cases h2:(b.toNat:Int)≤122
  ·have h4:b.toNat≤122:=by omega
   simp [Tryz.f80,CF,h1,h2,h3,h4]
  ·have h4:¬b.toNat≤122:=by omega
   simp [Tryz.f80,CF,h1,h2,h3,h4]
 ·have h3:¬97≤b.toNat:=by omega
  simp [Tryz.f80,CF,h1,h3]
theorem kg (b:UInt8) (H:AH):CS zP AM 83 [.int .u8 (b.toNat:Int)] H (.bool (A6 b)) H:=by
 refine CS.run0 cxN Ew Tryz.func83 (by kernel_rfl) (by kernel_rfl) 0 (by simp [Tryz.f83]) ?_ rfl rfl H
 by_cases h1:(48:Int)≤(b.toNat:Int)
 ·have h3:48≤b.toNat:=by omega
  by_cases h2:(b.toNat:Int)≤57
  ·have h4:b.toNat≤57:=by omega
   simp [Tryz.f83,A6,h1,h2,h3,h4]
  ·have h4:¬b.toNat≤57:=by omega
   simp [Tryz.f83,A6,h1,h2,h3,h4]
 ·have h3:¬48≤b.toNat:=by omega
  simp [Tryz.f83,A6,h1,h3]
def oRb:Orc:=A5 [(80,F1 80 CF),(83,F1 83 A6)]
theorem QW:AS zP AM oRb:=FZ fun p hp=>by
 simp only [List.mem_cons,List.not_mem_nil,or_false] at hp;rcases hp with rfl|rfl
 ·exact KG kf
 ·exact KG kg
theorem Ni (b:UInt8) (H:AH):oRb 80 [.int .u8 (b.toNat:Int)] H=some (.bool (CF b),H):=by simp [oRb,A5,KH]
theorem QX (b:UInt8) (H:AH):oRb 83 [.int .u8 (b.toNat:Int)] H=some (.bool (A6 b),H):=by simp [oRb,A5,KH]
theorem kh (b:UInt8) (H:AH):CS zP AM 81 [.int .u8 (b.toNat:Int)] H (.bool (Bk b)) H:=by
 refine CS.run0 ⟨QW,DN,Ae⟩ Ew Tryz.func81 (by kernel_rfl) (by kernel_rfl) 0 (by simp [Tryz.f81]) ?_ rfl rfl H;cases h1:CF b
 ·cases h2:A6 b
  ·simp [Tryz.f81,Bk,h1,h2,Ni,QX]
   rw [Bool.eq_iff_iff];simp only [beq_iff_eq];omega
  ·simp [Tryz.f81,Bk,h1,h2,Ni,QX]
 ·simp [Tryz.f81,Bk,h1,Ni]
theorem ki (w:List UInt8) (p e:Int) (H:AH):CS zP AM 20 [.str w,.int .i64 p,.int .i64 e] H (.agg [.slice .full 2 1 [.str w,.int .i64 p],.int .i64 e]) H:=by
 have b1:Ay zP 87 [(0,.str w),(1,.int .i64 p)]=some (.agg [.str w,.int .i64 p]):=by kernel_rfl
 have b2:Cr zP 31 1 [(0,.agg [.str w,.int .i64 p])]=some (.slice .full 2 1 [.str w,.int .i64 p]):=by kernel_rfl
 have b3:Ay zP 33 [(0,.slice .full 2 1 [.str w,.int .i64 p]),(1,.int .i64 e)]=some (.agg [.slice .full 2 1 [.str w,.int .i64 p],.int .i64 e]):=by kernel_rfl
 refine CS.run0 cxN Ew Tryz.func20 (by kernel_rfl) (by kernel_rfl) 0 (by simp [Tryz.f20]) ?_ rfl rfl H;simp [Tryz.f20,b1,b2,b3]
theorem kj (s:List UInt8) (i:Nat) (hi:i<s.length) (hs:s.length<B7) (H:AH):CS zP AM 85 [.str s,.int .i64 i] H (.int .i64 (Cl (s.drop i))) H:=by
 rw [ER] at hs;refine CS.run0 cxN Ew Tryz.func85 (by kernel_rfl) (by kernel_rfl) 0 (by simp [Tryz.f85]) ?_ rfl rfl H;have hd:s.drop i=s[i]::s.drop (i+1):=List.drop_eq_getElem_cons hi;have w:IntKind.i64.wrap ((i:Int)+1)=(i:Int)+1:=AZ (by omega) (by omega);have ht:((i:Int)+1).toNat=i+1:=by omega
 have yp:(0:Int)≤(i:Int)+1:=by omega
 rw [hd];generalize hc:s[i]=c
 by_cases h:c.toNat=60∨c.toNat=62∨c.toNat=61∨c.toNat=47∨c.toNat=43∨c.toNat=45∨c.toNat=42∨c.toNat=40∨c.toNat=41∨c.toNat=44
 ·by_cases hl:i+1<s.length
  ·have hl':(i:Int)+1<s.length:=by omega
   have sk:s.drop (i+1)=s[i+1]::s.drop (i+1+1):=List.drop_eq_getElem_cons hl;rw [sk];generalize hd:s[i+1]=d
   by_cases he:d.toNat=61
   ·rcases h with h|h|h|h|h|h|h|h|h|h <;>
     simp [Tryz.f85,Cl,h,hc,hd,he,hl,hl',w,ht,yp,hi]
   ·have he':¬(d.toNat:Int)=61:=by omega
    rcases h with h|h|h|h|h|h|h|h|h|h <;>
     simp [Tryz.f85,Cl,h,hc,hd,he,he',hl,hl',w,ht,yp,hi]
  ·have hl':¬(i:Int)+1<s.length:=by omega
   have sk:s.drop (i+1)=[]:=List.drop_of_length_le (by omega);rw [sk]
   rcases h with h|h|h|h|h|h|h|h|h|h <;>
    simp [Tryz.f85,Cl,h,hc,hl,hl',w,ht,yp,hi]
 ·simp only [not_or] at h
  obtain ⟨a0,a1,a2,a3,a4,a5,a6,a7,a8,a9⟩:=h;have b0:¬(c.toNat:Int)=60:=by omega
  have b1:¬(c.toNat:Int)=62:=by omega
  have b2:¬(c.toNat:Int)=61:=by omega
  have b3:¬(c.toNat:Int)=47:=by omega
  have b4:¬(c.toNat:Int)=43:=by omega
  have b5:¬(c.toNat:Int)=45:=by omega
  have b6:¬(c.toNat:Int)=42:=by omega
  have b7:¬(c.toNat:Int)=40:=by omega
  have b8:¬(c.toNat:Int)=41:=by omega
  have b9:¬(c.toNat:Int)=44:=by omega
  by_cases hl:i+1<s.length
  ·have hl':(i:Int)+1<s.length:=by omega
   simp [Tryz.f85,Cl,hc,hl,hl',w,ht,yp,hi,a0,a1,a2,a3,a4,a5,a6,a7,a8,a9,b0,b1,b2,b3,b4,b5,b6,b7,b8,b9]
  ·have hl':¬(i:Int)+1<s.length:=by omega
   simp [Tryz.f85,Cl,hc,hl,hl',w,ht,yp,hi,a0,a1,a2,a3,a4,a5,a6,a7,a8,a9,b0,b1,b2,b3,b4,b5,b6,b7,b8,b9]
noncomputable def cK:Code:=At Tryz.f82
noncomputable def Jj:Code:=Cz 2 cK
noncomputable def Ll:Code:=Bi Jj
noncomputable def Vf:Code:=Aj Jj
noncomputable def Nj:Code:=Aj Ll
noncomputable def QY:Code:=inC (inC Nj)
def Iv:AV := .slice .full 1 8 (GX.map .str)
theorem kk (s:List UInt8) (H:AH):CS zP AM 82 [.str s] H (.bool (DO s)) H:=by
 have bs:Cr zP 25 8 [(0,.str [105,110,116,101,103,101,114]),(1,.str [100,111]),(2,.str [101,110,100]),(3,.str [105,102]),(4,.str [116,104,101,110]),(5,.str [101,108,115,101]),(6,.str [114,101,97,100]),(7,.str [112,114,105,110,116])]=some Iv:=by kernel_rfl
 refine CS.tr0 Ew Tryz.func82 (by kernel_rfl) 0 (by simp [Tryz.f82]) (fun B hB hG => ?_) rfl rfl H;refine Tr.pre cxN hG 2 (R:=Jj) rfl (by kernel_rfl) (by kernel_rfl) ?_;rw [Dy];simp [Tryz.f82,bs];refine Tr.seqD (a:=Ll) (b:=Vf) (by kernel_rfl) ?_;refine Tr.pre cxN hG 1 (R:=Nj) (by kernel_rfl) (by kernel_rfl) (by kernel_rfl) ?_;rw [Dy];simp [Ll,Jj,cK,Tryz.f82];refine Tr.less (t':=mkT 18 [(0,.str s),(3,Iv),(4,.int .i64 ((0:Nat):Int))]) (H':=[]) (AE.mk0 hB ?_) ?_
 ·simp [Iv,GX]
 refine Tr.forD (a:=QY) (id:=0) (by kernel_rfl) (fun k t H=>∃i,i+k=8∧t=mkT 18 [(0,.str s),(3,Iv),(4,.int .i64 ((i:Nat):Int))]∧H=[]∧∀j<i,GX[j]? ≠ some s) 8 ⟨0,rfl,rfl,rfl,by simp⟩ ?_;rintro k t H ⟨i,sa,rfl,rfl,hI⟩;refine Tr.run cxN hG (by kernel_rfl) ?_;rw [Dy];cases k with
 |zero =>
  obtain rfl:i=8:=by omega
  have uM:DO s=false:=by unfold DO;rw [←Bool.not_eq_true,List.contains_iff_mem];intro hm;obtain ⟨j,hj⟩:=List.mem_iff_getElem?.1 hm;have:j<8:=(List.getElem?_eq_some_iff.1 hj).1;exact hI j this hj
  simp [QY,Nj,Ll,Jj,cK,Tryz.f82,Iv,Bj];refine Tr.run cxN hG (by kernel_rfl) ?_;rw [Dy];simp [Vf,Jj,cK,Tryz.f82,uM]
 |succ k =>
  have h8:GX.length=8:=rfl;obtain ⟨x,hx⟩:∃x,GX[i]? = some x:=⟨_,List.getElem?_eq_getElem (by omega)⟩
  have hi:(i:Int)<8:=by omega
  have w:IntKind.i64.wrap ((i:Int)+1)=(i:Int)+1:=AZ (by omega) (by omega);simp [QY,Nj,Ll,Jj,cK,Tryz.f82,Iv,hi,hx];refine KL (fun he => ?_) (fun he => ?_)
  ·subst he
   have zCK:DO x=true:=by unfold DO;rw [List.contains_iff_mem];exact List.mem_of_getElem? hx
   simp [M5,zCK]
  ·simp [w]
   refine ⟨k,by omega,_,_,AE.mk0 (l':=[(0,.str s),(3,Iv),(4,.int .i64 ((i+1:Nat):Int))]) hB ?_,i+1,by omega,rfl,rfl,fun j hj => ?_⟩
   ·simp [Iv,GX]
   ·rcases Nat.lt_or_ge j i with h|h
    ·exact hI j h
    ·obtain rfl:j=i:=by omega
     rw [hx];intro h;injection h with h;exact he h
noncomputable def cN:Code:=At Tryz.f84
noncomputable def Jk:Code:=Cz 2 cN
noncomputable def loopN:Code:=Bi Jk
noncomputable def Vg:Code:=Aj Jk
noncomputable def Nk:Code:=Aj loopN
noncomputable def QZ:Code:=inC (inC Nk)
def IG (s:List UInt8):AV:=if Ba s<9223372036854775808 then .tup [.int .i64 (Ba s),.bool true] else .tup [.int .i64 0,.bool false]
def NumI (s:List UInt8) (k:Nat) (t:List AV) (H:AH):Prop :=∃i n,i+k=s.length∧t=mkT 29 [(0,.str s),(4,.int .u64 ((n:Nat):Int)),(5,.int .i64 ((i:Nat):Int))]∧H=[]∧n=Ba (s.take i)∧n<9223372036854775808
theorem kl (s:List UInt8) (hd:IC s) (hs:s.length<B7) (H:AH):CS zP AM 84 [.str s] H (IG s) H:=by
 rw [ER] at hs;refine CS.tr0 Ew Tryz.func84 (by kernel_rfl) 0 (by simp [Tryz.f84]) (fun B hB hG => ?_) (by unfold IG;split<;>rfl) rfl H;refine Tr.pre cxN hG 2 (R:=Jk) rfl (by kernel_rfl) (by kernel_rfl) ?_;rw [Dy];simp [Tryz.f84];refine Tr.seqD (a:=loopN) (b:=Vg) (by kernel_rfl) ?_;refine Tr.pre cxN hG 1 (R:=Nk) (by kernel_rfl) (by kernel_rfl) (by kernel_rfl) ?_;rw [Dy];simp [loopN,Jk,cN,Tryz.f84];refine Tr.less (t':=mkT 29 [(0,.str s),(4,.int .u64 ((0:Nat):Int)),(5,.int .i64 ((0:Nat):Int))]) (H':=[]) (AE.mk0 hB ?_) ?_
 ·simp
 refine Tr.forD (a:=QZ) (id:=0) (by kernel_rfl) (NumI s) s.length ⟨0,0,by omega,rfl,rfl,rfl,by omega⟩ ?_;rintro k t H ⟨i,n,sa,rfl,rfl,hn,sd⟩;refine Tr.run cxN hG (by kernel_rfl) ?_;rw [Dy];cases k with
 |zero =>
  obtain rfl:i=s.length:=by omega
  rw [List.take_length] at hn;have w:IntKind.i64.wrap (n:Int)=(n:Int):=AZ (by omega) (by omega);have hr:IG s = .tup [.int .i64 n,.bool true]:=by rw [IG,if_pos (by omega),hn]
  simp [QZ,Nk,loopN,Jk,cN,Tryz.f84,Bj];refine Tr.run cxN hG (by kernel_rfl) ?_;rw [Dy];simp [Vg,Jk,cN,Tryz.f84,w,hr]
 |succ k =>
  have hi:i<s.length:=by omega
  have hi':(i:Int)<s.length:=by omega
  have hc:=hd s[i] (List.getElem_mem hi);have sy:s.take (i+1)=s.take i++[s[i]]:=by rw [List.take_add_one,List.getElem?_eq_getElem hi];rfl
  have wX:Ba (s.take (i+1))=10*n+(s[i].toNat-48):=by rw [sy,Pz,←hn]
  have sY:Ba (s.take (i+1))≤Ba s:=by
   have:=Ut (s.take (i+1)) (s.drop (i+1))
   rwa [List.take_append_drop] at this
  obtain ⟨d,xC⟩:∃d:Nat,d=s[i].toNat-48:=⟨_,rfl⟩
  have w1:IntKind.u8.wrap ((s[i].toNat:Int)-48)=(d:Int):=by simp [IntKind.wrap,IntKind.bits,IntKind.signed];omega
  have w2:IntKind.u64.wrap (d:Int)=(d:Int):=by simp [IntKind.wrap,IntKind.bits,IntKind.signed];omega
  have w3:IntKind.u64.wrap (9223372036854775807-(d:Int))=9223372036854775807-(d:Int):=by simp [IntKind.wrap,IntKind.bits,IntKind.signed];omega
  obtain ⟨q,hq⟩:∃q:Nat,q=(9223372036854775807-d) / 10:=⟨_,rfl⟩
  have w4:(9223372036854775807-(d:Int)).tdiv 10=(q:Int):=by rw [Int.tdiv_eq_ediv_of_nonneg (by omega)];omega
  have w5:IntKind.u64.wrap (q:Int)=(q:Int):=by simp [IntKind.wrap,IntKind.bits,IntKind.signed];omega
  have w9:IntKind.i64.wrap ((i:Int)+1)=(i:Int)+1:=AZ (by omega) (by omega);simp [QZ,Nk,loopN,Jk,cN,Tryz.f84,hi,hi',w1,w2,w3,w4,w5];refine KL (fun he => ?_) (fun he => ?_)
  ·have hr:IG s = .tup [.int .i64 0,.bool false]:=by rw [IG,if_neg (by omega)]
   simp [M5,hr]
  ·have w6:IntKind.u64.wrap (10*(n:Int))=10*(n:Int):=by simp [IntKind.wrap,IntKind.bits,IntKind.signed];omega
   have w7:IntKind.u64.wrap (10*(n:Int)+(d:Int))=10*(n:Int)+(d:Int):=by simp [IntKind.wrap,IntKind.bits,IntKind.signed];omega
   simp [w6,w7,w9];refine ⟨k,by omega,_,_,AE.mk0 (l':=[(0,.str s),(4,.int .u64 ((10*n+d:Nat):Int)),(5,.int .i64 ((i+1:Nat):Int))]) hB ?_,i+1,10*n+d,by omega,rfl,rfl,by omega,by omega⟩;simp
noncomputable def c10:Code:=At Tryz.f59
noncomputable def E2:Code:=Cz 3 c10
noncomputable def GC:Code:=Bi E2
noncomputable def Qa:Code:=Aj E2
noncomputable def Ei:Code:=inC (inC GC)
noncomputable def F10:Func:=Tryz.f59
def Ff (w:List UInt8) (p e:Nat):AV := .agg [.slice .full 2 1 [.str w,.int .i64 p],.int .i64 e]
def Lm:AV := .agg [.nilSlice,.int .i64 0]
def DA:Except (Nat × Nat) (List Wd)→AV
 |.ok l => .tup [AD l,Lm]
 |.error (p,e) => .tup [.nilSlice,Ff DU p e]
def Fg (l:List Wd):AV:=if l=[] then .nilSlice else .slice (.tok 1) 4 l.length (A7 l)
def CL:Ent := .box [.nilSlice,.int .i64 0]
def HR (l:List Wd):AH:=if l=[] then [some CL] else [some CL,some (.tok l.length)]
theorem HC (l:List Wd):(l=[]∧HR l=[some CL])∨(l≠[]∧HR l=[some CL,some (.tok l.length)]):=by
 unfold HR
 by_cases h:l=[]
 ·exact .inl ⟨h,if_pos h⟩
 ·exact .inr ⟨h,if_neg h⟩
theorem Kn (l:List Wd) (w:Wd) (fid:Nat) (H:AH) (hl:l.length<137438953470) (h1:l=[]→fid=1) (h2:l≠[]→H.at 1=some (.tok l.length)) :
  Dp zP H fid 162 162 (Fg l) (.slice .full 4 1 [.int .i64 w.kind,.str w.text,.int .i64 w.at_,.int .i64 w.n])=some (Fg (l++[w]),[(1,.tok (l.length+1))]):=by
 by_cases h:l=[]
 ·subst h
  rw [h1 rfl];simp only [Fg,if_true];rw [GT Ty.ec162 (by omega) (by omega) (by simp [AV.one])];simp [A7,BD]
 ·have sU:l++[w]≠[]:=by simp
  simp only [Fg,if_neg h,if_neg sU];rw [Eu Ty.ec162 (h2 h) (by omega) (by omega) (by simp [AV.one])];simp [A7,BD]
theorem bsR (a:Int) (b:List UInt8) (c d:Int):Cr zP 162 1 [(0,.agg [.int .i64 a,.str b,.int .i64 c,.int .i64 d])]=some (.slice .full 4 1 [.int .i64 a,.str b,.int .i64 c,.int .i64 d]):=by kernel_rfl
theorem buR (a:Int) (b:List UInt8) (c d:Int):Ay zP 170 [(0,.int .i64 a),(1,.str b),(2,.int .i64 c),(3,.int .i64 d)]=some (.agg [.int .i64 a,.str b,.int .i64 c,.int .i64 d]):=by kernel_rfl
theorem buW:Ay zP 33 []=some (.agg [.nilSlice,.int .i64 0]):=by kernel_rfl
def tR (s:List UInt8) (l:List Wd) (i:Nat):List AV:=mkT 139 [(0,.str s),(3,.ptr 0 0),(4,Fg l),(5,.int .i64 i)]
theorem Vh (l:List Wd) (m:Nat) (h:l=[]∨1<m):low m (Fg l)=true:=by
 unfold Fg
 split
 ·rfl
 ·rename_i hn
  have:1<m:=by rcases h with h|h;exact absurd h hn;exact h
  simp [this,Ak (Nat.zero_le m) _ (ID l)]
theorem Gg {B:Bs} (hB:B.H=[]) {s:List UInt8} {l:List Wd} {i:Nat} {a:List (Nat × AV)} {H:AH} (h0:(a.lookup 0).getD .undef = .str s) (h3:(a.lookup 3).getD .undef = .ptr 0 0) (h4:(a.lookup 4).getD .undef=Fg l) (h5:(a.lookup 5).getD .undef = .int .i64 i)
  (hH:H.take (HR l).length=HR l):AE B (mkT 139 a) H (tR s l i) (HR l):=by
 refine AE.mkT (HR l).length (by simp [hB]) ?_ hH ?_
 ·intro p hp
  simp only [List.mem_cons,List.not_mem_nil,or_false] at hp;rcases hp with rfl|rfl|rfl|rfl
  ·exact .same h0 rfl
  ·refine .same h3 ?_
   rcases HC l with ⟨_,h⟩|⟨_,h⟩<;>simp [h]
  ·refine .same h4 (Vh l _ ?_)
   rcases HC l with ⟨h,_⟩|⟨_,h⟩
   ·exact .inl h
   ·exact .inr (by rw [h];simp)
  ·exact .same h5 rfl
 ·rcases HC l with ⟨_,h⟩|⟨_,h⟩<;>simp [h,CL]
def Qb:Orc:=B5 82 (fun args=>match args with
  |[.str s]=>some s
  |_=>none) fun s => .bool (DO s)
theorem km:AS zP AM Qb:=EK fun args x H h=>by
 split at h
 ·injection h with h
  subst h;exact kk _ H
 ·cases h
def Qc:Orc:=B5 85 (fun args=>match args with
  |[.str s,.int .i64 n]=>if 0≤n∧n.toNat<s.length∧s.length<B7 then some (s,n.toNat) else none
  |_=>none) fun x => .int .i64 (Cl (x.1.drop x.2))
theorem kn:AS zP AM Qc:=EK fun args x H h=>by
 split at h
 ·split at h
  ·rename_i s n hn
   injection h with h;subst h;have:=kj s n.toNat hn.2.1 hn.2.2 H
   rwa [Int.toNat_of_nonneg hn.1] at this
  ·cases h
 ·cases h
def Qd:Orc:=B5 84 (fun args=>match args with
  |[.str s]=>if s.length<B7∧s.all (fun b=>decide (48≤b.toNat)&&decide (b.toNat≤57))=true then some s else none
  |_=>none) IG
theorem ko:AS zP AM Qd:=EK fun args x H h=>by
 split at h
 ·split at h
  ·rename_i s hn
   injection h with h;subst h;exact kl s (fun b hb=>by simpa using List.all_eq_true.1 hn.2 b hb) hn.1 H
  ·cases h
 ·cases h
def Jl:Orc:=B5 20 (fun args=>match args with
  |[.str w,.int .i64 p,.int .i64 e]=>some (w,p,e)
  |_=>none) fun x => .agg [.slice .full 2 1 [.str x.1,.int .i64 x.2.1],.int .i64 x.2.2]
theorem Nl:AS zP AM Jl:=EK fun args x H h=>by
 split at h
 ·injection h with h
  subst h;exact ki _ _ _ H
 ·cases h
def oR:Orc:=A5 [(80,oRb),(83,oRb),(81,F1 81 Bk),(82,Qb),(85,Qc),(84,Qd),(20,Jl)]
theorem kp:AS zP AM oR:=FZ fun p hp=>by
 simp only [List.mem_cons,List.not_mem_nil,or_false] at hp;rcases hp with rfl|rfl|rfl|rfl|rfl|rfl|rfl
 ·exact QW
 ·exact QW
 ·exact KG kh
 ·exact km
 ·exact kn
 ·exact ko
 ·exact Nl
theorem Iw:Cx oR zP AM:=⟨kp,DN,Ae⟩
theorem ET (b:UInt8) (H:AH):oR 80 [.int .u8 (b.toNat:Int)] H=some (.bool (CF b),H):=by simp [oR,A5,Ni]
theorem D7 (b:UInt8) (H:AH):oR 83 [.int .u8 (b.toNat:Int)] H=some (.bool (A6 b),H):=by simp [oR,A5,QX]
theorem Dd (b:UInt8) (H:AH):oR 81 [.int .u8 (b.toNat:Int)] H=some (.bool (Bk b),H):=by simp [oR,A5,KH]
theorem Ix (s:List UInt8) (H:AH):oR 82 [.str s] H=some (.bool (DO s),H):=by simp [oR,A5,Qb,B5]
theorem De (w:List UInt8) (p e:Int) (H:AH):oR 20 [.str w,.int .i64 p,.int .i64 e] H=some (.agg [.slice .full 2 1 [.str w,.int .i64 p],.int .i64 e],H):=by simp [oR,A5,Jl,B5]
theorem oR_s (s:List UInt8) (n:Nat) (H:AH) (h:n<s.length) (hs:s.length<B7):oR 85 [.str s,.int .i64 n] H=some (.int .i64 (Cl (s.drop n)),H):=by simp [oR,A5,Qc,B5,h,hs]
theorem oR_n (s:List UInt8) (H:AH) (h:IC s) (hs:s.length<B7):oR 84 [.str s] H=some (IG s,H):=by
 have:s.all (fun b=>decide (48≤b.toNat)&&decide (b.toNat≤57))=true:=List.all_eq_true.2 fun b hb=>by simpa using h b hb
 simp only [oR,A5,List.lookup];simp [Qd,B5,hs];exact h
def Nm (s:List UInt8) (l:List Wd) (i F:Nat) (H:AH) (k:Nat) (t:List AV) (H':AH):Prop :=∃m,m+k=F∧t=mkT 139 [(0,.str s),(3,.ptr 0 0),(4,Fg l),(5,.int .i64 ((i+m:Nat):Int)),(6,.int .i64 ((i:Nat):Int))]∧H'=H
theorem Iy {B:Bs} (hB:B.H=[]) {s:List UInt8} {l:List Wd} {i j:Nat} {a:List (Nat × AV)} {H:AH} (hH:H=HR l) (h0:(a.lookup 0).getD .undef = .str s) (h3:(a.lookup 3).getD .undef = .ptr 0 0) (h4:(a.lookup 4).getD .undef=Fg l)
  (h5:(a.lookup 5).getD .undef = .int .i64 ((j:Nat):Int)) (h6:(a.lookup 6).getD .undef = .int .i64 ((i:Nat):Int)) :
  AE B (mkT 139 a) H (mkT 139 [(0,.str s),(3,.ptr 0 0),(4,Fg l),(5,.int .i64 ((j:Nat):Int)),(6,.int .i64 ((i:Nat):Int))]) H:=by
 subst hH;refine AE.mkT (HR l).length (by simp [hB]) ?_ (by simp) ?_
 ·intro p hp
  simp only [List.mem_cons,List.not_mem_nil,or_false] at hp;rcases hp with rfl|rfl|rfl|rfl|rfl
  ·exact .same h0 rfl
  ·refine .same h3 ?_
   rcases HC l with ⟨_,h⟩|⟨_,h⟩<;>simp [h]
  ·refine .same h4 (Vh l _ ?_)
   rcases HC l with ⟨h,_⟩|⟨_,h⟩
   ·exact .inl h
   ·exact .inr (by rw [h];simp)
  ·exact .same h5 rfl
  ·exact .same h6 rfl
 ·rcases HC l with ⟨_,h⟩|⟨_,h⟩<;>simp [h,CL]
theorem Nn (p:UInt8→Bool) (s:List UInt8) (i m:Nat) (h:m<Aq p (s.drop i)):∃h:i+m<s.length,p s[i+m]=true:=by obtain ⟨h1,h2⟩:=M2 p (s.drop i) m h;rw [List.length_drop] at h1;exact ⟨by omega,by simpa [List.getElem_drop] using h2⟩
theorem No (p:UInt8→Bool) (s:List UInt8) (i:Nat) (h:i+Aq p (s.drop i)<s.length):p s[i+Aq p (s.drop i)]=false:=by have:=M3 p (s.drop i) (by rw [List.length_drop];omega);simpa [List.getElem_drop] using this
theorem Vi (p:UInt8→Bool) (s:List UInt8) (i:Nat) (hi:i≤s.length):i+Aq p (s.drop i)≤s.length:=by have:=F2 p (s.drop i);rw [List.length_drop] at this;omega
theorem Fh (s:List UInt8) (i F:Nat):(s.take (i+F)).drop i=(s.drop i).take F:=by
 rw [List.drop_take]
 congr 1
 omega
theorem kq (B:Bs) (hB:B.H=[]) (hG:An AM B.g) (s:List UInt8) (l:List Wd) (i m:Nat) (hi:i<s.length) (hs:s.length<137438953470) (tG:l.length≤i)
  (so:¬(s[i].toNat:Int)=32) (sh:¬(s[i].toNat:Int)=9) (tV:CF s[i]=true) (hF:m=Aq Bk (s.drop i)) (Q:AEx→List AV→AH→Prop) (K:Nat) (hK:K=if DO ((s.drop i).take m) then 4 else 1)
  (hN:m≤31→∀t H,AE B t H (tR s (l++[⟨K,(s.drop i).take m,i,0⟩]) (i+m)) (HR (l++[⟨K,(s.drop i).take m,i,0⟩]))→Q .normal t H)
  (hE:31<m→∀t H,Fin zP F10 0 1 (DA (.error (i,4))) [] .ret t H→Q .ret t H) :
  Go oR zP AM (LpT zP B) Ei [] (tR s l i) (HR l) Q:=by
 have sY:i+m≤s.length:=by rw [hF];exact Vi Bk s i (by omega)
 have hi':(i:Int)<s.length:=by omega
 have e1:((i:Int)+(m:Int)).toNat=i+m:=by omega
 have e2:(i:Int)+(m:Int)≤s.length:=by omega
 have e3:(0:Int)≤(i:Int)+(m:Int):=by omega
 have e4:(i:Int)≤(i:Int)+(m:Int):=by omega
 have e5:IntKind.i64.wrap (m:Int)=(m:Int):=AZ (by omega) (by omega);have e7:(i:Int)+(m:Int)-(i:Int)=(m:Int):=by omega
 have e8:IntKind.i64.wrap ((i:Int)+(m:Int))=(i:Int)+(m:Int):=AZ (by omega) (by omega);rcases HC l with ⟨hl,hH⟩|⟨hl,hH⟩
 ·rw [hH]
  have sb:=fun H=>Kn l ⟨K,(s.drop i).take m,i,0⟩ 1 H (by omega) (fun _=>rfl) (fun h=>absurd hl h)
  simp [Ei,GC,E2,c10,Tryz.f59,tR,hi,hi',so,sh,ET,tV];refine LpT.loop Iw hG (by kernel_rfl) (Nm s l i m _) m (Iy (j:=i+0) hB hH.symm (by simp) (by simp) (by simp) (by simp) (by simp)) ⟨0,by omega,rfl,rfl⟩ ?_;rintro k t H ⟨d,hd,rfl,rfl⟩;cases k with
  |succ k =>
   obtain ⟨h1,h2⟩:=Nn Bk s i d (by omega);have f1:(i:Int)+(d:Int)<s.length:=by omega
   have f2:((i:Int)+(d:Int)).toNat=i+d:=by omega
   have f3:(0:Int)≤(i:Int)+(d:Int):=by omega
   have f4:IntKind.i64.wrap ((i:Int)+(d:Int)+1)=(i:Int)+(d:Int)+1:=AZ (by omega) (by omega);simp [f1,f2,f3,f4,h1,Dd,D7,h2];refine ⟨k,by omega,_,_,Iy (j:=i+(d+1)) hB hH.symm (by simp) (by simp) (by simp) (by simp;omega) (by simp),d+1,by omega,rfl,rfl⟩
  |zero =>
   obtain rfl:d=m:=by omega
   by_cases h1:i+d<s.length
   ·have h2:Bk s[i+d]=false:=by
     have:=No Bk s i (by rw [←hF];exact h1);simpa only [←hF] using this
    have f1:(i:Int)+(d:Int)<s.length:=by omega
    by_cases h31:31<d
    ·have f5:(31:Int)<(d:Int):=by omega
     by_cases hk:DO ((s.drop i).take d)=true
     all_goals
      simp only [hk,if_true,if_false,Bool.false_eq_true] at hK;subst hK;simp at sb;simp [f1,f5,hk,e1,e2,e3,e4,e5,e7,e8,Dd,Fh,Ix,De,h1,h2,CL];refine hE (by omega) _ _ ?_;rw [EM];simp [F10,Tryz.f59,DA,Ff,DU,CL]
    ·have f5:¬(31:Int)<(d:Int):=by omega
     by_cases hk:DO ((s.drop i).take d)=true
     all_goals
      simp only [hk,if_true,if_false,Bool.false_eq_true] at hK;subst hK;simp at sb;simp [f1,f5,hk,e1,e2,e3,e4,e5,e7,e8,Dd,Fh,Ix,De,h1,h2,buR,bsR,sb];refine hN (by omega) _ _ (Gg hB ?_ ?_ ?_ ?_ ?_)
      ·simp
      ·simp
      ·simp
      ·simp
      ·simp [HR,hl]
   ·have f1:¬(i:Int)+(d:Int)<s.length:=by omega
    by_cases h31:31<d
    ·have f5:(31:Int)<(d:Int):=by omega
     by_cases hk:DO ((s.drop i).take d)=true
     all_goals
      simp only [hk,if_true,if_false,Bool.false_eq_true] at hK;subst hK;simp at sb;simp [f1,f5,hk,e1,e2,e3,e4,e5,e7,e8,Dd,Fh,Ix,De,CL];refine hE (by omega) _ _ ?_;rw [EM];simp [F10,Tryz.f59,DA,Ff,DU,CL]
    ·have f5:¬(31:Int)<(d:Int):=by omega
     by_cases hk:DO ((s.drop i).take d)=true
     all_goals
      simp only [hk,if_true,if_false,Bool.false_eq_true] at hK;subst hK;simp at sb;simp [f1,f5,hk,e1,e2,e3,e4,e5,e7,e8,Dd,Fh,Ix,De,buR,bsR,sb];refine hN (by omega) _ _ (Gg hB ?_ ?_ ?_ ?_ ?_)
      ·simp
      ·simp
      ·simp
      ·simp
      ·simp [HR,hl]
 ·rw [hH]
  have sb:=fun fid=>Kn l ⟨K,(s.drop i).take m,i,0⟩ fid [some CL,some (.tok l.length),none] (by omega) (fun h=>absurd h hl) (fun _=>by simp)
  simp [Ei,GC,E2,c10,Tryz.f59,tR,hi,hi',so,sh,ET,tV];refine LpT.loop Iw hG (by kernel_rfl) (Nm s l i m _) m (Iy (j:=i+0) hB hH.symm (by simp) (by simp) (by simp) (by simp) (by simp)) ⟨0,by omega,rfl,rfl⟩ ?_;rintro k t H ⟨d,hd,rfl,rfl⟩;cases k with
  |succ k =>
   obtain ⟨h1,h2⟩:=Nn Bk s i d (by omega);have f1:(i:Int)+(d:Int)<s.length:=by omega
   have f2:((i:Int)+(d:Int)).toNat=i+d:=by omega
   have f3:(0:Int)≤(i:Int)+(d:Int):=by omega
   have f4:IntKind.i64.wrap ((i:Int)+(d:Int)+1)=(i:Int)+(d:Int)+1:=AZ (by omega) (by omega);simp [f1,f2,f3,f4,h1,Dd,D7,h2];refine ⟨k,by omega,_,_,Iy (j:=i+(d+1)) hB hH.symm (by simp) (by simp) (by simp) (by simp;omega) (by simp),d+1,by omega,rfl,rfl⟩
  |zero =>
   obtain rfl:d=m:=by omega
   by_cases h1:i+d<s.length
   ·have h2:Bk s[i+d]=false:=by
     have:=No Bk s i (by rw [←hF];exact h1);simpa only [←hF] using this
    have f1:(i:Int)+(d:Int)<s.length:=by omega
    by_cases h31:31<d
    ·have f5:(31:Int)<(d:Int):=by omega
     by_cases hk:DO ((s.drop i).take d)=true
     all_goals
      simp only [hk,if_true,if_false,Bool.false_eq_true] at hK;subst hK;simp at sb;simp [f1,f5,hk,e1,e2,e3,e4,e5,e7,e8,Dd,Fh,Ix,De,h1,h2,CL];refine hE (by omega) _ _ ?_;rw [EM];simp [F10,Tryz.f59,DA,Ff,DU,CL]
    ·have f5:¬(31:Int)<(d:Int):=by omega
     by_cases hk:DO ((s.drop i).take d)=true
     all_goals
      simp only [hk,if_true,if_false,Bool.false_eq_true] at hK;subst hK;simp at sb;simp [f1,f5,hk,e1,e2,e3,e4,e5,e7,e8,Dd,Fh,Ix,De,h1,h2,buR,bsR,sb];refine hN (by omega) _ _ (Gg hB ?_ ?_ ?_ ?_ ?_)
      ·simp
      ·simp
      ·simp
      ·simp
      ·simp [HR,hl]
   ·have f1:¬(i:Int)+(d:Int)<s.length:=by omega
    by_cases h31:31<d
    ·have f5:(31:Int)<(d:Int):=by omega
     by_cases hk:DO ((s.drop i).take d)=true
     all_goals
      simp only [hk,if_true,if_false,Bool.false_eq_true] at hK;subst hK;simp at sb;simp [f1,f5,hk,e1,e2,e3,e4,e5,e7,e8,Dd,Fh,Ix,De,CL];refine hE (by omega) _ _ ?_;rw [EM];simp [F10,Tryz.f59,DA,Ff,DU,CL]
    ·have f5:¬(31:Int)<(d:Int):=by omega
     by_cases hk:DO ((s.drop i).take d)=true
     all_goals
      simp only [hk,if_true,if_false,Bool.false_eq_true] at hK;subst hK;simp at sb;simp [f1,f5,hk,e1,e2,e3,e4,e5,e7,e8,Dd,Fh,Ix,De,buR,bsR,sb];refine hN (by omega) _ _ (Gg hB ?_ ?_ ?_ ?_ ?_)
      ·simp
      ·simp
      ·simp
      ·simp
      ·simp [HR,hl]
theorem kr (B:Bs) (hB:B.H=[]) (hG:An AM B.g) (s:List UInt8) (l:List Wd) (i m:Nat) (hi:i<s.length) (hs:s.length<137438953470) (tG:l.length≤i)
  (so:¬(s[i].toNat:Int)=32) (sh:¬(s[i].toNat:Int)=9) (tV:CF s[i]=false) (uu:A6 s[i]=true) (hF:m=Aq A6 (s.drop i)) (Q:AEx→List AV→AH→Prop)
  (hN:Ba ((s.drop i).take m)<9223372036854775808→(∀h:i+m<s.length,CF s[i+m]=false)→∀t H,AE B t H (tR s (l++[⟨2,(s.drop i).take m,i,Ba ((s.drop i).take m)⟩]) (i+m)) (HR (l++[⟨2,(s.drop i).take m,i,Ba ((s.drop i).take m)⟩]))→Q .normal t H)
  (hE:¬Ba ((s.drop i).take m)<9223372036854775808→∀t H,Fin zP F10 0 1 (DA (.error (i,5))) [] .ret t H→Q .ret t H)
  (x9:Ba ((s.drop i).take m)<9223372036854775808→(∃h:i+m<s.length,CF s[i+m]=true)→∀t H,Fin zP F10 0 1 (DA (.error (i+m,3))) [] .ret t H→Q .ret t H) :
  Go oR zP AM (LpT zP B) Ei [] (tR s l i) (HR l) Q:=by
 have sY:i+m≤s.length:=by rw [hF];exact Vi A6 s i (by omega)
 have hi':(i:Int)<s.length:=by omega
 have e1:((i:Int)+(m:Int)).toNat=i+m:=by omega
 have e2:(i:Int)+(m:Int)≤s.length:=by omega
 have e3:(0:Int)≤(i:Int)+(m:Int):=by omega
 have e4:(i:Int)≤(i:Int)+(m:Int):=by omega
 have e5:IntKind.i64.wrap (m:Int)=(m:Int):=AZ (by omega) (by omega);have e7:(i:Int)+(m:Int)-(i:Int)=(m:Int):=by omega
 have e8:IntKind.i64.wrap ((i:Int)+(m:Int))=(i:Int)+(m:Int):=AZ (by omega) (by omega)
 have xy:IC ((s.drop i).take m):=fun b hb=>by have:=QI A6 (s.drop i) b (by rw [←hF];exact hb);simpa [A6] using this
 have sd:((s.drop i).take m).length<B7:=by rw [ER,List.length_take,List.length_drop];omega
 have hn:=fun H=>oR_n ((s.drop i).take m) H xy sd
 unfold IG at hn;rcases HC l with ⟨hl,hH⟩|⟨hl,hH⟩
 ·rw [hH]
  have sb:=fun H=>Kn l ⟨2,(s.drop i).take m,i,Ba ((s.drop i).take m)⟩ 1 H (by omega) (fun _=>rfl) (fun h=>absurd hl h)
  simp at sb;simp [Ei,GC,E2,c10,Tryz.f59,tR,hi,hi',so,sh,ET,D7,tV,uu];refine LpT.loop Iw hG (by kernel_rfl) (Nm s l i m _) m (Iy (j:=i+0) hB hH.symm (by simp) (by simp) (by simp) (by simp) (by simp)) ⟨0,by omega,rfl,rfl⟩ ?_;rintro k t H ⟨d,hd,rfl,rfl⟩;cases k with
  |succ k =>
   obtain ⟨h1,h2⟩:=Nn A6 s i d (by omega);have f1:(i:Int)+(d:Int)<s.length:=by omega
   have f2:((i:Int)+(d:Int)).toNat=i+d:=by omega
   have f3:(0:Int)≤(i:Int)+(d:Int):=by omega
   have f4:IntKind.i64.wrap ((i:Int)+(d:Int)+1)=(i:Int)+(d:Int)+1:=AZ (by omega) (by omega);simp [f1,f2,f3,f4,h1,Dd,D7,h2];refine ⟨k,by omega,_,_,Iy (j:=i+(d+1)) hB hH.symm (by simp) (by simp) (by simp) (by simp;omega) (by simp),d+1,by omega,rfl,rfl⟩
  |zero =>
   obtain rfl:d=m:=by omega
   generalize hT:(s.drop i).take d=T at hn sb hN hE x9;have tN:(s.take (i+d)).drop i=T:=by rw [Fh];exact hT
   generalize Ba T=N at hn sb hN hE x9
   by_cases h1:i+d<s.length
   ·have h2:A6 s[i+d]=false:=by
     have:=No A6 s i (by rw [←hF];exact h1);simpa only [←hF] using this
    have f1:(i:Int)+(d:Int)<s.length:=by omega
    by_cases uO:N<9223372036854775808
    ·rw [if_pos uO] at hn
     cases h3:CF s[i+d]
     ·simp [f1,e1,e2,e3,e4,e5,e7,e8,Dd,D7,ET,tN,De,hn,h1,h2,h3,buR,bsR,sb]
      refine hN uO (fun _=>h3) _ _ (Gg hB ?_ ?_ ?_ ?_ ?_)
      ·simp
      ·simp
      ·simp
      ·simp
      ·simp [HR,hl]
     ·simp [f1,e1,e2,e3,e4,e5,e7,e8,Dd,D7,ET,tN,De,hn,h1,h2,h3,CL]
      refine x9 uO ⟨h1,h3⟩ _ _ ?_;rw [EM];simp [F10,Tryz.f59,DA,Ff,DU,CL]
    ·rw [if_neg uO] at hn
     simp [f1,e1,e2,e3,e4,e5,e7,e8,Dd,D7,ET,tN,De,hn,h1,h2,CL];refine hE uO _ _ ?_;rw [EM];simp [F10,Tryz.f59,DA,Ff,DU,CL]
   ·have f1:¬(i:Int)+(d:Int)<s.length:=by omega
    by_cases uO:N<9223372036854775808
    ·rw [if_pos uO] at hn
     simp [f1,e1,e2,e3,e4,e5,e7,e8,Dd,D7,ET,tN,De,hn,buR,bsR,sb];refine hN uO (fun h=>absurd h h1) _ _ (Gg hB ?_ ?_ ?_ ?_ ?_)
     ·simp
     ·simp
     ·simp
     ·simp
     ·simp [HR,hl]
    ·rw [if_neg uO] at hn
     simp [f1,e1,e2,e3,e4,e5,e7,e8,Dd,D7,ET,tN,De,hn,CL];refine hE uO _ _ ?_;rw [EM];simp [F10,Tryz.f59,DA,Ff,DU,CL]
 ·rw [hH]
  have sb:=fun fid=>Kn l ⟨2,(s.drop i).take m,i,Ba ((s.drop i).take m)⟩ fid [some CL,some (.tok l.length),none] (by omega) (fun h=>absurd h hl) (fun _=>by simp)
  simp at sb;simp [Ei,GC,E2,c10,Tryz.f59,tR,hi,hi',so,sh,ET,D7,tV,uu];refine LpT.loop Iw hG (by kernel_rfl) (Nm s l i m _) m (Iy (j:=i+0) hB hH.symm (by simp) (by simp) (by simp) (by simp) (by simp)) ⟨0,by omega,rfl,rfl⟩ ?_;rintro k t H ⟨d,hd,rfl,rfl⟩;cases k with
  |succ k =>
   obtain ⟨h1,h2⟩:=Nn A6 s i d (by omega);have f1:(i:Int)+(d:Int)<s.length:=by omega
   have f2:((i:Int)+(d:Int)).toNat=i+d:=by omega
   have f3:(0:Int)≤(i:Int)+(d:Int):=by omega
   have f4:IntKind.i64.wrap ((i:Int)+(d:Int)+1)=(i:Int)+(d:Int)+1:=AZ (by omega) (by omega);simp [f1,f2,f3,f4,h1,Dd,D7,h2];refine ⟨k,by omega,_,_,Iy (j:=i+(d+1)) hB hH.symm (by simp) (by simp) (by simp) (by simp;omega) (by simp),d+1,by omega,rfl,rfl⟩
  |zero =>
   obtain rfl:d=m:=by omega
   generalize hT:(s.drop i).take d=T at hn sb hN hE x9;have tN:(s.take (i+d)).drop i=T:=by rw [Fh];exact hT
   generalize Ba T=N at hn sb hN hE x9
   by_cases h1:i+d<s.length
   ·have h2:A6 s[i+d]=false:=by
     have:=No A6 s i (by rw [←hF];exact h1);simpa only [←hF] using this
    have f1:(i:Int)+(d:Int)<s.length:=by omega
    by_cases uO:N<9223372036854775808
    ·rw [if_pos uO] at hn
     cases h3:CF s[i+d]
     ·simp [f1,e1,e2,e3,e4,e5,e7,e8,Dd,D7,ET,tN,De,hn,h1,h2,h3,buR,bsR,sb]
      refine hN uO (fun _=>h3) _ _ (Gg hB ?_ ?_ ?_ ?_ ?_)
      ·simp
      ·simp
      ·simp
      ·simp
      ·simp [HR,hl]
     ·simp [f1,e1,e2,e3,e4,e5,e7,e8,Dd,D7,ET,tN,De,hn,h1,h2,h3,CL]
      refine x9 uO ⟨h1,h3⟩ _ _ ?_;rw [EM];simp [F10,Tryz.f59,DA,Ff,DU,CL]
    ·rw [if_neg uO] at hn
     simp [f1,e1,e2,e3,e4,e5,e7,e8,Dd,D7,ET,tN,De,hn,h1,h2,CL];refine hE uO _ _ ?_;rw [EM];simp [F10,Tryz.f59,DA,Ff,DU,CL]
   ·have f1:¬(i:Int)+(d:Int)<s.length:=by omega
    by_cases uO:N<9223372036854775808
    ·rw [if_pos uO] at hn
     simp [f1,e1,e2,e3,e4,e5,e7,e8,Dd,D7,ET,tN,De,hn,buR,bsR,sb];refine hN uO (fun h=>absurd h h1) _ _ (Gg hB ?_ ?_ ?_ ?_ ?_)
     ·simp
     ·simp
     ·simp
     ·simp
     ·simp [HR,hl]
    ·rw [if_neg uO] at hn
     simp [f1,e1,e2,e3,e4,e5,e7,e8,Dd,D7,ET,tN,De,hn,CL];refine hE uO _ _ ?_;rw [EM];simp [F10,Tryz.f59,DA,Ff,DU,CL]
theorem kt (B:Bs) (hB:B.H=[]) (hG:An AM B.g) (s:List UInt8) (l:List Wd) (i m:Nat) (hi:i<s.length) (hs:s.length<137438953470) (tG:l.length≤i)
  (so:¬(s[i].toNat:Int)=32) (sh:¬(s[i].toNat:Int)=9) (tV:CF s[i]=false) (uu:A6 s[i]=false) (hF:m=Cl (s.drop i)) (Q:AEx→List AV→AH→Prop)
  (hN:m≠0→∀t H,AE B t H (tR s (l++[⟨3,(s.drop i).take m,i,0⟩]) (i+m)) (HR (l++[⟨3,(s.drop i).take m,i,0⟩]))→Q .normal t H)
  (hE:m=0→∀t H,Fin zP F10 0 1 (DA (.error (i,3))) [] .ret t H→Q .ret t H) :
  Go oR zP AM (LpT zP B) Ei [] (tR s l i) (HR l) Q:=by
 have sY:i+m≤s.length:=by have:=NS (s.drop i);rw [List.length_drop] at this;omega
 have hi':(i:Int)<s.length:=by omega
 have e1:((i:Int)+(m:Int)).toNat=i+m:=by omega
 have e2:(i:Int)+(m:Int)≤s.length:=by omega
 have e3:(0:Int)≤(i:Int)+(m:Int):=by omega
 have e4:(i:Int)≤(i:Int)+(m:Int):=by omega
 have e5:IntKind.i64.wrap (m:Int)=(m:Int):=AZ (by omega) (by omega);have e7:(i:Int)+(m:Int)-(i:Int)=(m:Int):=by omega
 have e8:IntKind.i64.wrap ((i:Int)+(m:Int))=(i:Int)+(m:Int):=AZ (by omega) (by omega);have tW:=fun H=>oR_s s i H hi (by rw [ER];omega)
 rw [←hF] at tW;rcases HC l with ⟨hl,hH⟩|⟨hl,hH⟩
 ·rw [hH]
  have sb:=fun H=>Kn l ⟨3,(s.drop i).take m,i,0⟩ 1 H (by omega) (fun _=>rfl) (fun h=>absurd hl h)
  simp at sb
  by_cases h0:m=0
  ·have g0:(m:Int)=0:=by omega
   simp [Ei,GC,E2,c10,Tryz.f59,tR,hi,hi',so,sh,ET,D7,tV,uu,e1,e2,e3,e4,e5,e7,e8,Fh,De,tW,g0,h0,CL];refine hE h0 _ _ ?_;rw [EM];simp [F10,Tryz.f59,DA,Ff,DU,CL]
  ·have g0:¬(m:Int)=0:=by omega
   simp [Ei,GC,E2,c10,Tryz.f59,tR,hi,hi',so,sh,ET,D7,tV,uu,e1,e2,e3,e4,e5,e7,e8,Fh,De,tW,g0,h0,buR,bsR,sb];refine hN h0 _ _ (Gg hB ?_ ?_ ?_ ?_ ?_)
   ·simp
   ·simp
   ·simp
   ·simp
   ·simp [HR,hl]
 ·rw [hH]
  have sb:=fun fid=>Kn l ⟨3,(s.drop i).take m,i,0⟩ fid [some CL,some (.tok l.length),none] (by omega) (fun h=>absurd h hl) (fun _=>by simp)
  simp at sb
  by_cases h0:m=0
  ·have g0:(m:Int)=0:=by omega
   simp [Ei,GC,E2,c10,Tryz.f59,tR,hi,hi',so,sh,ET,D7,tV,uu,e1,e2,e3,e4,e5,e7,e8,Fh,De,tW,g0,h0,CL];refine hE h0 _ _ ?_;rw [EM];simp [F10,Tryz.f59,DA,Ff,DU,CL]
  ·have g0:¬(m:Int)=0:=by omega
   simp [Ei,GC,E2,c10,Tryz.f59,tR,hi,hi',so,sh,ET,D7,tV,uu,e1,e2,e3,e4,e5,e7,e8,Fh,De,tW,g0,h0,buR,bsR,sb];refine hN h0 _ _ (Gg hB ?_ ?_ ?_ ?_ ?_)
   ·simp
   ·simp
   ·simp
   ·simp
   ·simp [HR,hl]
theorem ku (B:Bs) (hB:B.H=[]) (hG:An AM B.g) (s:List UInt8) (l:List Wd) (i:Nat) (hi:i<s.length) (hs:s.length<137438953470)
  (hb:s[i].toNat=32∨s[i].toNat=9) (Q:AEx→List AV→AH→Prop) (hN:∀t H,AE B t H (tR s l (i+1)) (HR l)→Q .normal t H) :
  Go oR zP AM (LpT zP B) Ei [] (tR s l i) (HR l) Q:=by
 have hi':(i:Int)<s.length:=by omega
 have w:IntKind.i64.wrap ((i:Int)+1)=(i:Int)+1:=AZ (by omega) (by omega);rcases HC l with ⟨hl,hH⟩|⟨hl,hH⟩
 all_goals
  rw [hH];rcases hb with hb|hb
  all_goals
   simp [Ei,GC,E2,c10,Tryz.f59,tR,hi,hi',hb,w];refine hN _ _ (Gg hB ?_ ?_ ?_ ?_ ?_)
   ·simp
   ·simp
   ·simp
   ·simp
   ·simp [HR,hl]
@[simp] theorem qt:Ag.imm 204=false:=by decide
@[simp] theorem qu:Ag.imm 55=true:=by decide
@[simp high] theorem qv (l:List Wd):alen zP 162 (AD l)=some (.int .i64 l.length):=by
 unfold AD
 split
 ·rename_i h;subst h;simp [alen]
 ·simp [alen]
@[simp high] theorem Vj {l:List Wd} {i:Nat} (h:i<l.length):Au zP 162 (AD l) (.int .i64 (i:Int))=some (.vptr (A7 l) (i*4)):=by
 have sU:l≠[]:=by rintro rfl;simp at h
 have:(i:Int)<l.length:=by omega
 simp [AD,sU,Au,h]
def BN (x:Option (Nat × Nat)):Prop:=∀p,x≠some (p,0)
theorem C1:BN none:=fun _ h=>by cases h
def pAV:Option (Nat × Nat)→AV
 |none => .nilSlice
 |some (p,_) => .slice .full 2 1 [.str D5,.int .i64 (p:Int)]
def cI:Option (Nat × Nat)→Int
 |none=>0
 |some (_,c)=>(c:Int)
theorem Hl {x:Option (Nat × Nat)} (h:BN x):(cI x=0)↔x=none:=by
 cases x with
 |none=>simp [cI]
 |some y =>
  obtain ⟨p,c⟩:=y;have:c≠0:=fun hc=>h p (by rw [hc])
  simp [cI];omega
@[simp ↓ high] theorem qw (m:Nat) (x:Option (Nat × Nat)):low m (pAV x)=true:=by
 cases x with
 |none=>rfl
 |some x=>rfl
@[simp ↓ high] theorem qx (x:Option (Nat × Nat)):Bh (pAV x)=[]:=by cases x<;>rfl
@[simp ↓ high] theorem qy (x:Option (Nat × Nat)):(pAV x).known=true:=by cases x<;>rfl
@[simp ↓ high] theorem qz (x:Option (Nat × Nat)):(pAV x).one=true:=by cases x<;>rfl
@[simp ↓ high] theorem q8 (x:Option (Nat × Nat)):Aw (pAV x)=[pAV x]:=by cases x<;>rfl
theorem Vk {x y:Option (Nat × Nat)} (h1:pAV x=pAV y) (h2:cI x=cI y):x=y:=by
 cases x with
 |none=>cases y with
  |none=>rfl
  |some y=>simp [pAV] at h1
 |some x=>cases y with
  |none=>simp [pAV] at h1
  |some y =>
   obtain ⟨p,c⟩:=x;obtain ⟨q,d⟩:=y;simp [pAV] at h1;simp [cI] at h2;have e1:p=q:=by omega
   have e2:c=d:=by omega
   rw [e1,e2]
def rrC (ts:List Wd) (a:Int) (x:Option (Nat × Nat)):List AV:=[AD ts,.int .i64 a,pAV x,.int .i64 (cI x)]
@[simp] theorem kv (ts:List Wd) (a:Int) (x:Option (Nat × Nat)):rrC ts a x=[AD ts,.int .i64 a,pAV x,.int .i64 (cI x)]:=AP rfl
theorem Fi (ts:List Wd) (a:Int) (x:Option (Nat × Nat)):lowL 0 (rrC ts a x)=true:=by simp
theorem Vl {ts:List Wd} {a b:Nat} {x y:Option (Nat × Nat)} (h:rrC ts (a:Int) x=rrC ts (b:Int) y):a=b∧x=y:=by simp only [kv,List.cons.injEq,AV.int.injEq,true_and,and_true] at h;exact ⟨by omega,Vk h.2.1 h.2.2⟩
theorem kw:Cx Jl zP Ag:=⟨AS.toX (AS.toN Nl),Dt,Ae⟩
theorem Ln (w:List UInt8) (p e:Int) (H:AH):Jl 20 [.str w,.int .i64 p,.int .i64 e] H=some (.agg [.slice .full 2 1 [.str w,.int .i64 p],.int .i64 e],H):=by simp [Jl,B5]
theorem kx (ts:List Wd) (a:Nat) (x:Option (Nat × Nat)) (hx:BN x) (p e:Nat) {H:AH} {id:Nat} (hH:H.at id=some (.box (rrC ts a x))) :
  CS zP Ag 118 [.ptr id 0,.int .i64 (p:Int),.int .i64 (e:Int)] H (.tup []) (H.set id (some (.box (rrC ts a (some (x.getD (p,e))))))):=by
 refine CS.rd DI Tryz.func118 (by kernel_rfl) 0 (by simp [Tryz.f118]) (fun B hB hG => ?_) (by simp) rfl (Fi _ _ _) (Fi _ _ _) hH;refine Tr.goD kw hG ?_;cases x with
 |none=>simp [Tryz.f118,cI,pAV,Ln,D5]
 |some y =>
  have h0:¬cI (some y)=0:=fun h=>by have:=(Hl hx).1 h;cases this
  simp [Tryz.f118,h0]
theorem ky (ts:List Wd) (a:Nat) (x:Option (Nat × Nat)) (hx:BN x) (s:List UInt8) {H:AH} {id:Nat} (hH:H.at id=some (.box (rrC ts a x))) :
  CS zP Ag 119 [.ptr id 0,.str s] H (.bool (nextB ts ⟨a,0,x⟩ s)) (H.set id (some (.box (rrC ts a x)))):=by
 refine CS.rd DI Tryz.func119 (by kernel_rfl) 0 (by simp [Tryz.f119]) (fun B hB hG => ?_) (by simp) rfl (Fi _ _ _) (Fi _ _ _) hH;refine Tr.goD Kh hG ?_;simp [Tryz.f119];refine LpD.turns Kh hG [] [] ?_;cases x with
 |some y =>
  have h0:(cI (some y)==0)=false:=by rw [beq_eq_false_iff_ne];intro h;have:=(Hl hx).1 h;cases this
  simp [nextB,h0]
 |none =>
  by_cases hl:a<ts.length
  ·have hl':(a:Int)<ts.length:=by omega
   obtain ⟨w,hw⟩:∃w,ts[a]? = some w:=⟨_,List.getElem?_eq_getElem hl⟩
   obtain ⟨c0,c1,c3⟩:=Eh hw;have hn:isS ts a s=(w.kind==3&&w.text==s):=by simp only [isS,hw]
   by_cases hk:w.kind=3
   ·simp [nextB,hn,cI,hl,hl',hk,c0,c1]
   ·have hk':((w.kind:Int)==3)=false:=by rw [beq_eq_false_iff_ne];omega
    simp [nextB,hn,cI,hl,hl',hk,hk',c0,c1]
  ·have hl':¬((a:Int)<ts.length):=by omega
   have hw:ts[a]? = none:=List.getElem?_eq_none (by omega);have hn:isS ts a s=false:=by simp only [isS,hw]
   simp [nextB,hn,cI,hl',hw]
open Classical in
noncomputable def oRr (ts:List Wd) (f0:FuncId) (spec:List AV→St→Option (AV × St)):Orc:=fun f args H =>
 if f=f0 then (match args with
  |.ptr id 0::rest=>if h:∃r:St,r.deep=0∧BN r.err∧H.at id=some (.box (rrC ts r.at_ r.err)) then (spec rest h.choose).map fun x=>(x.1,H.set id (some (.box (rrC ts x.2.at_ x.2.err)))) else none
  |_=>none) else none
theorem IH {ts:List Wd} {f0:FuncId} {spec:List AV→St→Option (AV × St)} {id:Nat} {rest:List AV} {H:AH} {a:Nat} {x:Option (Nat × Nat)} (hx:BN x) (h:H.at id=some (.box (rrC ts a x))) :
  oRr ts f0 spec f0 (.ptr id 0::rest) H=(spec rest ⟨a,0,x⟩).map fun x=>(x.1,H.set id (some (.box (rrC ts x.2.at_ x.2.err)))):=by
 have hq:∃r:St,r.deep=0∧BN r.err∧H.at id=some (.box (rrC ts r.at_ r.err)):=⟨⟨a,0,x⟩,rfl,hx,h⟩
 obtain ⟨h1,h2,h3⟩:=hq.choose_spec;have hc:=h.symm.trans h3;simp only [Option.some.injEq,Ent.box.injEq] at hc;obtain ⟨e1,e2⟩:=Vl hc
 have:hq.choose=⟨a,0,x⟩:=by
  cases hs:hq.choose with
  |mk a' d' x' =>rw [hs] at e1 e2 h1;simp only at e1 e2 h1;rw [e1,e2,h1]
 simp only [oRr,if_true,dif_pos hq,this]
theorem Lo {ts:List Wd} {f0:FuncId} {spec:List AV→St→Option (AV × St)}
  (h:∀rest r v r',spec rest r=some (v,r')→r.deep=0→BN r.err→∀H id,H.at id=some (.box (rrC ts r.at_ r.err))→CS zP Ag f0 (.ptr id 0::rest) H v (H.set id (some (.box (rrC ts r'.at_ r'.err))))):AS zP Ag (oRr ts f0 spec):=by
 intro f args H v H' ho;unfold oRr at ho
 split at ho
 ·rename_i hf
  subst hf
  split at ho
  ·rename_i id rest
   split at ho
   ·rename_i hx
    obtain ⟨x,hs,vV⟩:=Option.map_eq_some_iff.1 ho;simp only [Prod.mk.injEq] at vV;obtain ⟨rfl,rfl⟩:=vV;obtain ⟨q1,q2,q3⟩:=hx.choose_spec;refine ⟨h _ _ _ _ hs q1 q2 _ _ q3,by simp,fun j _ hj=>NY q3 hj⟩
   ·cases ho
  ·cases ho
 ·cases ho
theorem Ko {ts:List Wd} {a:Int} {x:Option (Nat × Nat)} {H:AH} (ha:0≤a):AH.at (some (.box [AD ts,.int .i64 a,pAV x,.int .i64 (cI x)])::H) 0=some (.box (rrC ts (a.toNat:Nat) x)):=by simp [AH.at,Int.toNat_of_nonneg ha]
theorem Qe (ts:List Wd):AS zP Ag (oRr ts 119 (E0 ts)):=Lo fun rest r v r' h h0 hx H id hH=>by
 unfold E0 at h
 split at h
 ·injection h with h
  simp only [Prod.mk.injEq] at h;obtain ⟨rfl,rfl⟩:=h;exact ky ts r.at_ r.err hx _ hH
 ·cases h
def II (rest:List AV) (r:St):Option (AV × St):=match rest with
 |[.int .i64 p,.int .i64 e]=>if 0≤p∧0≤e then some (.tup [],⟨r.at_,0,some (r.err.getD (p.toNat,e.toNat))⟩) else none
 |_=>none
theorem Qf (ts:List Wd):AS zP Ag (oRr ts 118 II):=Lo fun rest r v r' h h0 hx H id hH=>by
 unfold II at h
 split at h
 ·rename_i p e
  split at h
  ·rename_i yl
   injection h with h;simp only [Prod.mk.injEq] at h;obtain ⟨rfl,rfl⟩:=h;have:=kx ts r.at_ r.err hx p.toNat e.toNat hH
   rwa [Int.toNat_of_nonneg yl.1,Int.toNat_of_nonneg yl.2] at this
  ·cases h
 ·cases h
theorem Qg {ts:List Wd} {a:Int} {x:Option (Nat × Nat)} (s:List UInt8) (H:AH) (ha:0≤a) (hx:BN x):oRr ts 119 (E0 ts) 119 [.ptr 0 0,.str s] (some (.box [AD ts,.int .i64 a,pAV x,.int .i64 (cI x)])::H) =
  some (.bool (nextB ts ⟨a.toNat,0,x⟩ s),some (.box [AD ts,.int .i64 a,pAV x,.int .i64 (cI x)])::H):=by
 rw [IH hx (Ko ha)];simp [E0,Int.toNat_of_nonneg ha]
theorem Vm {ts:List Wd} {a:Int} {x:Option (Nat × Nat)} (p e:Int) (H:AH) (ha:0≤a) (hx:BN x) (hp:0≤p) (he:0≤e):oRr ts 118 II 118 [.ptr 0 0,.int .i64 p,.int .i64 e] (some (.box [AD ts,.int .i64 a,pAV x,.int .i64 (cI x)])::H) =
  some (.tup [],some (.box [AD ts,.int .i64 a,pAV (some (x.getD (p.toNat,e.toNat))),.int .i64 (cI (some (x.getD (p.toNat,e.toNat))))])::H):=by
 rw [IH hx (Ko ha)];simp [II,hp,he,Int.toNat_of_nonneg ha]
theorem kz (ts:List Wd):Cx (oRr ts 119 (E0 ts)) zP Ag:=⟨Qe ts,Dt,Ae⟩
theorem k8 (ts:List Wd) (sT:ts.length<1000000) (a:Nat) (x:Option (Nat × Nat)) (hx:BN x) (s:List UInt8) {H:AH} {id:Nat} (hH:H.at id=some (.box (rrC ts a x))) :
  CS zP Ag 120 [.ptr id 0,.str s] H (.bool (nextB ts ⟨a,0,x⟩ s)) (H.set id (some (.box (rrC ts (Ge ts ⟨a,0,x⟩ s).at_ (Ge ts ⟨a,0,x⟩ s).err)))):=by
 refine CS.rd DI Tryz.func120 (by kernel_rfl) 0 (by simp [Tryz.f120]) (fun B hB hG => ?_) (by simp) rfl (Fi _ _ _) (Fi _ _ _) hH;refine Tr.goD (kz ts) hG ?_;have tW:=fun H=>Qg (ts:=ts) (a:=a) (x:=x) s H (by omega) hx
 simp at tW;cases hn:nextB ts ⟨a,0,x⟩ s with
 |true =>have hl:a<ts.length:=FO hn;have w1:IntKind.i64.wrap ((a:Int)+1)=(a:Int)+1:=AZ (by omega) (by omega);simp [Tryz.f120,Ge,hn,tW,w1,St.step]
 |false=>simp [Tryz.f120,Ge,hn,tW]
theorem Qh (ts:List Wd) (sT:ts.length<1000000):AS zP Ag (oRr ts 120 (EF ts)):=Lo fun rest r v r' h h0 hx H id hH=>by
 unfold EF at h
 split at h
 ·injection h with h
  simp only [Prod.mk.injEq] at h;obtain ⟨rfl,rfl⟩:=h;obtain ⟨a,d,x⟩:=r;simp only at h0;subst h0;exact k8 ts sT a x hx _ hH
 ·cases h
theorem Qi {ts:List Wd} {a:Int} {x:Option (Nat × Nat)} (s:List UInt8) (H:AH) (ha:0≤a) (hx:BN x) (hn:nextB ts ⟨a.toNat,0,x⟩ s=true) :
  oRr ts 120 (EF ts) 120 [.ptr 0 0,.str s] (some (.box [AD ts,.int .i64 a,pAV x,.int .i64 (cI x)])::H)=some (.bool true,some (.box [AD ts,.int .i64 (a+1),pAV x,.int .i64 (cI x)])::H):=by
 rw [IH hx (Ko ha)];simp [EF,Ge,hn,St.step,Int.toNat_of_nonneg ha]
theorem Qj {ts:List Wd} {a:Int} {x:Option (Nat × Nat)} (s:List UInt8) (H:AH) (ha:0≤a) (hx:BN x) (hn:nextB ts ⟨a.toNat,0,x⟩ s=false) :
  oRr ts 120 (EF ts) 120 [.ptr 0 0,.str s] (some (.box [AD ts,.int .i64 a,pAV x,.int .i64 (cI x)])::H)=some (.bool false,some (.box [AD ts,.int .i64 a,pAV x,.int .i64 (cI x)])::H):=by
 rw [IH hx (Ko ha)];simp [EF,Ge,hn,Int.toNat_of_nonneg ha]
theorem Qk {ts:List Wd} {of:Rd} (h:upw of) {f s:List UInt8} {one two:Nat}:∀(n:Nat) (e:Ex),upw (Br ts of f one s two n e)
 |0,e,r=>Nat.le_refl _
 |n+1,e,r=>by
  have h1:=h r.step;simp only [Br]
  split
  ·have:=Qk h (ts:=ts) (f:=f) (s:=s) (one:=one) (two:=two) n (.bin one e (of r.step).1) (of r.step).2
   simp only [St.step] at h1 this ⊢;omega
  ·split
   ·have:=Qk h (ts:=ts) (f:=f) (s:=s) (one:=one) (two:=two) n (.bin two e (of r.step).1) (of r.step).2
    simp only [St.step] at h1 this ⊢;omega
   ·exact Nat.le_refl _
theorem Lq {ts:List Wd} {of:Rd} (h:upw of) {f s:List UInt8} {one two:Nat}:upw (D1 ts of f one s two):=fun r=>Nat.le_trans (h r) (Qk h _ _ _)
def okE (of:Rd):Prop:=∀r,BN r.err→BN (of r).2.err
theorem Ql {ts:List Wd} {of:Rd} (h:okE of) {f s:List UInt8} {one two:Nat}:∀(n:Nat) (e:Ex),okE (Br ts of f one s two n e)
 |0,e,r,hr=>hr
 |n+1,e,r,hr=>by
  have h1:=h r.step hr;simp only [Br]
  split
  ·exact Ql h n _ _ h1
  ·split
   ·exact Ql h n _ _ h1
   ·exact hr
theorem HD {ts:List Wd} {of:Rd} (h:okE of) {f s:List UInt8} {one two:Nat}:okE (D1 ts of f one s two):=fun r hr=>Ql h _ _ _ (h r hr)
def Jm (O:Orc) (ts:List Wd) (g:FuncId) (of:Rd) (n:Nat):Prop:=∀(a d:Int) (x:Option (Nat × Nat)) (H:AH),0≤a→0≤d→d≤20→BN x→ts.length-a.toNat<n →
 O g [.ptr 0 0,.int .i64 d] (some (.box [AD ts,.int .i64 a,pAV x,.int .i64 (cI x)])::H)=some (CX (of ⟨a.toNat,d.toNat,x⟩).1,some (.box (rrC ts (of ⟨a.toNat,d.toNat,x⟩).2.at_ (of ⟨a.toNat,d.toNat,x⟩).2.err))::H)
structure Lr (O:Orc) (ts:List Wd):Prop where
 tookT:∀(a:Int) (x:Option (Nat × Nat)) (s:List UInt8) (H:AH),0≤a→BN x→nextB ts ⟨a.toNat,0,x⟩ s=true →
  O 120 [.ptr 0 0,.str s] (some (.box [AD ts,.int .i64 a,pAV x,.int .i64 (cI x)])::H)=some (.bool true,some (.box [AD ts,.int .i64 (a+1),pAV x,.int .i64 (cI x)])::H)
 tookF:∀(a:Int) (x:Option (Nat × Nat)) (s:List UInt8) (H:AH),0≤a→BN x→nextB ts ⟨a.toNat,0,x⟩ s=false →
  O 120 [.ptr 0 0,.str s] (some (.box [AD ts,.int .i64 a,pAV x,.int .i64 (cI x)])::H)=some (.bool false,some (.box [AD ts,.int .i64 a,pAV x,.int .i64 (cI x)])::H)
@[simp] theorem buY0:Ay zP 55 []=some (.agg [.int .i64 0,.int .i64 0,.str [],.nilSlice]):=by kernel_rfl
@[simp] theorem buY1 (k n:Int):Ay zP 55 [(0,.int .i64 k),(1,.int .i64 n)]=some (.agg [.int .i64 k,.int .i64 n,.str [],.nilSlice]):=by kernel_rfl
@[simp] theorem buY2 (k:Int) (s:List UInt8):Ay zP 55 [(0,.int .i64 k),(2,.str s)]=some (.agg [.int .i64 k,.int .i64 0,.str s,.nilSlice]):=by kernel_rfl
@[simp] theorem buY3 (k:Int) (ow:Own) (sz n:Nat) (cs:List AV):Ay zP 55 [(0,.int .i64 k),(3,.slice ow sz n cs)]=some (.agg [.int .i64 k,.int .i64 0,.str [],.slice ow sz n cs]):=by kernel_rfl
@[simp] theorem buY4 (k:Int) (s:List UInt8) (ow:Own) (sz n:Nat) (cs:List AV):Ay zP 55 [(0,.int .i64 k),(2,.str s),(3,.slice ow sz n cs)]=some (.agg [.int .i64 k,.int .i64 0,.str s,.slice ow sz n cs]):=by kernel_rfl
@[simp] theorem bsY1 (a b c d:AV):Cr zP 53 1 [(0,.agg [a,b,c,d])]=some (.slice .full 4 1 [a,b,c,d]):=by kernel_rfl
@[simp] theorem bsY2 (a b c d e f g h:AV):Cr zP 53 2 [(0,.agg [a,b,c,d]),(1,.agg [e,f,g,h])]=some (.slice .full 4 2 [a,b,c,d,e,f,g,h]):=by kernel_rfl
def k9 (ts:List Wd) (of:Rd) (dd n:Nat) (res:Ex × St) (k:Nat) (t:List AV) (H:AH):Prop :=
 ∃(e:Ex) (r:St),Br ts of ED 7 EE 8 k e r=res∧ts.length-r.at_<k∧ts.length-r.at_<n∧r.deep=dd∧BN r.err ∧
  t=mkT 24 [(0,.ptr 0 0),(1,.int .i64 (dd:Int)),(4,.ptr 1 0),(5,.ptr 2 0)]∧H=[some (.box (rrC ts r.at_ r.err)),some (.box (exC .none)),some (.box (exC e))]
theorem lA (ts:List Wd) (sT:ts.length<1000000) {O:Orc} (X:Cx O zP Ag) (hT:Lr O ts) {of:Rd} {n:Nat} (hA:Jm O ts 147 of n) (hu:upw of) (hd:∀r,(of r).2.deep=r.deep) (sw:okE of)
  (a dd:Nat) (x:Option (Nat × Nat)) (hx:BN x) (hr:dd≤20) (hn:ts.length-a<n) {H:AH} {id:Nat} (hH:H.at id=some (.box (rrC ts a x))) :
  CS zP Ag 135 [.ptr id 0,.int .i64 (dd:Int)] H (CX (D1 ts of ED 7 EE 8 ⟨a,dd,x⟩).1) (H.set id (some (.box (rrC ts (D1 ts of ED 7 EE 8 ⟨a,dd,x⟩).2.at_ (D1 ts of ED 7 EE 8 ⟨a,dd,x⟩).2.err)))):=by
 refine CS.rd DI Tryz.func135 (by kernel_rfl) 0 (by simp [Tryz.f135]) (fun B hB hG => ?_) (by simp) (by simp) (Fi _ _ _) (Fi _ _ _) hH;have uK:(dd:Int)≤20:=by omega
 have h1:=fun H=>hA a dd x H (by omega) (by omega) uK hx (by simpa using hn)
 simp only [Int.toNat_natCast] at h1;have xX:=hu ⟨a,dd,x⟩;have sr:=hd ⟨a,dd,x⟩;have uF:=sw ⟨a,dd,x⟩ hx;simp only [D1];generalize wL:of ⟨a,dd,x⟩=p at *;obtain ⟨e,q⟩:=p;simp only at h1 xX sr uF;refine Tr.goD X hG ?_;simp at h1;simp [Tryz.f135,h1]
 refine LpD.loopN X hG (k9 ts of dd n (Br ts of ED 7 EE 8 (ts.length+1) e q)) (ts.length+1)
  (t':=mkT 24 [(0,.ptr 0 0),(1,.int .i64 (dd:Int)),(4,.ptr 1 0),(5,.ptr 2 0)])
  (H':=[some (.box (rrC ts q.at_ q.err)),some (.box (exC .none)),some (.box (exC e))]) (AE.mkK 3 (by simp [hB]) (by simp) (by simp) (by simp)) ⟨e,q,rfl,by omega,by omega,sr,uF,rfl,rfl⟩ ?_
 rintro k t H ⟨e',r',sV,hk,xB,uN,tP,rfl,rfl⟩;cases k with
 |zero=>omega
 |succ k =>
  obtain ⟨b,d,y⟩:=r';simp only at hk xB uN tP;subst uN;have s5:∀s,nextB ts ⟨b,d,y⟩ s=nextB ts ⟨b,0,y⟩ s:=fun s=>rfl
  cases hf:nextB ts ⟨b,0,y⟩ ED with
  |true =>
   have hl:b<ts.length:=FO hf;have w1:IntKind.i64.wrap ((b:Int)+1)=(b:Int)+1:=AZ (by omega) (by omega);have h2:=fun H=>hA (b+1:Nat) d y H (by omega) (by omega) uK tP (by simp only [Int.toNat_natCast];omega)
   have t1:=fun H=>hT.tookT b y ED H (by omega) tP (by simpa using hf)
   simp [ED] at t1;simp at h2;simp [t1];refine LpD.turns X hG [4,7] [(0,4),(1,4)] ?_;simp [h2]
   refine Nxt.mk k (by omega) (AE.mkK 3 (l':=[(0,.ptr 0 0),(1,.int .i64 (d:Int)),(4,.ptr 1 0),(5,.ptr 2 0)])
    (H':=[some (.box (rrC ts (of ⟨b+1,d,y⟩).2.at_ (of ⟨b+1,d,y⟩).2.err)),some (.box (exC .none)),some (.box (exC (.bin 7 e' (of ⟨b+1,d,y⟩).1)))]) (by simp [hB]) (by simp) (by simp) (by simp))
    ⟨.bin 7 e' (of ⟨b+1,d,y⟩).1,(of ⟨b+1,d,y⟩).2,?_,?_,?_,?_,sw ⟨b+1,d,y⟩ tP,rfl,rfl⟩
   ·rw [←sV];simp [Br,s5,hf,St.step]
   ·have:=hu ⟨b+1,d,y⟩;simp only at this;omega
   ·have:=hu ⟨b+1,d,y⟩;simp only at this;omega
   ·exact hd ⟨b+1,d,y⟩
  |false =>
   have t1:=fun H=>hT.tookF b y ED H (by omega) tP (by simpa using hf)
   simp [ED] at t1;cases hs:nextB ts ⟨b,0,y⟩ EE with
   |true =>
    have hl:b<ts.length:=FO hs;have w1:IntKind.i64.wrap ((b:Int)+1)=(b:Int)+1:=AZ (by omega) (by omega);have h2:=fun H=>hA (b+1:Nat) d y H (by omega) (by omega) uK tP (by simp only [Int.toNat_natCast];omega)
    have t2:=fun H=>hT.tookT b y EE H (by omega) tP (by simpa using hs)
    simp [EE] at t2;simp at h2;simp [t1,t2];refine LpD.turns X hG [4,7] [(0,4),(1,4)] ?_;simp [h2]
    refine Nxt.mk k (by omega) (AE.mkK 3 (l':=[(0,.ptr 0 0),(1,.int .i64 (d:Int)),(4,.ptr 1 0),(5,.ptr 2 0)])
     (H':=[some (.box (rrC ts (of ⟨b+1,d,y⟩).2.at_ (of ⟨b+1,d,y⟩).2.err)),some (.box (exC .none)),some (.box (exC (.bin 8 e' (of ⟨b+1,d,y⟩).1)))]) (by simp [hB]) (by simp) (by simp) (by simp))
     ⟨.bin 8 e' (of ⟨b+1,d,y⟩).1,(of ⟨b+1,d,y⟩).2,?_,?_,?_,?_,sw ⟨b+1,d,y⟩ tP,rfl,rfl⟩
    ·rw [←sV];simp [Br,s5,hf,hs,St.step]
    ·have:=hu ⟨b+1,d,y⟩;simp only at this;omega
    ·have:=hu ⟨b+1,d,y⟩;simp only at this;omega
    ·exact hd ⟨b+1,d,y⟩
   |false =>
    have t2:=fun H=>hT.tookF b y EE H (by omega) tP (by simpa using hs)
    simp [EE] at t2;have sx:Br ts of ED 7 EE 8 (k+1) e' ⟨b,d,y⟩=(e',⟨b,d,y⟩):=by simp [Br,s5,hs,hf]
    rw [←sV,sx];simp [t1,t2]
def lB (ts:List Wd) (of:Rd) (dd n:Nat) (res:Ex × St) (k:Nat) (t:List AV) (H:AH):Prop :=
 ∃(e:Ex) (r:St),Br ts of Eg 5 BY 6 k e r=res∧ts.length-r.at_<k∧ts.length-r.at_<n∧r.deep=dd∧BN r.err ∧
  t=mkT 24 [(0,.ptr 0 0),(1,.int .i64 (dd:Int)),(4,.ptr 1 0),(5,.ptr 2 0)]∧H=[some (.box (rrC ts r.at_ r.err)),some (.box (exC .none)),some (.box (exC e))]
theorem lC (ts:List Wd) (sT:ts.length<1000000) {O:Orc} (X:Cx O zP Ag) (hT:Lr O ts) {of:Rd} {n:Nat} (hA:Jm O ts 135 of n) (hu:upw of) (hd:∀r,(of r).2.deep=r.deep) (sw:okE of)
  (a dd:Nat) (x:Option (Nat × Nat)) (hx:BN x) (hr:dd≤20) (hn:ts.length-a<n) {H:AH} {id:Nat} (hH:H.at id=some (.box (rrC ts a x))) :
  CS zP Ag 116 [.ptr id 0,.int .i64 (dd:Int)] H (CX (D1 ts of Eg 5 BY 6 ⟨a,dd,x⟩).1) (H.set id (some (.box (rrC ts (D1 ts of Eg 5 BY 6 ⟨a,dd,x⟩).2.at_ (D1 ts of Eg 5 BY 6 ⟨a,dd,x⟩).2.err)))):=by
 refine CS.rd DI Tryz.func116 (by kernel_rfl) 0 (by simp [Tryz.f116]) (fun B hB hG => ?_) (by simp) (by simp) (Fi _ _ _) (Fi _ _ _) hH;have uK:(dd:Int)≤20:=by omega
 have h1:=fun H=>hA a dd x H (by omega) (by omega) uK hx (by simpa using hn)
 simp only [Int.toNat_natCast] at h1;have xX:=hu ⟨a,dd,x⟩;have sr:=hd ⟨a,dd,x⟩;have uF:=sw ⟨a,dd,x⟩ hx;simp only [D1];generalize wL:of ⟨a,dd,x⟩=p at *;obtain ⟨e,q⟩:=p;simp only at h1 xX sr uF;refine Tr.goD X hG ?_;simp at h1;simp [Tryz.f116,h1]
 refine LpD.loopN X hG (lB ts of dd n (Br ts of Eg 5 BY 6 (ts.length+1) e q)) (ts.length+1)
  (t':=mkT 24 [(0,.ptr 0 0),(1,.int .i64 (dd:Int)),(4,.ptr 1 0),(5,.ptr 2 0)])
  (H':=[some (.box (rrC ts q.at_ q.err)),some (.box (exC .none)),some (.box (exC e))]) (AE.mkK 3 (by simp [hB]) (by simp) (by simp) (by simp)) ⟨e,q,rfl,by omega,by omega,sr,uF,rfl,rfl⟩ ?_
 rintro k t H ⟨e',r',sV,hk,xB,uN,tP,rfl,rfl⟩;cases k with
 |zero=>omega
 |succ k =>
  obtain ⟨b,d,y⟩:=r';simp only at hk xB uN tP;subst uN;have s5:∀s,nextB ts ⟨b,d,y⟩ s=nextB ts ⟨b,0,y⟩ s:=fun s=>rfl
  cases hf:nextB ts ⟨b,0,y⟩ Eg with
  |true =>
   have hl:b<ts.length:=FO hf;have w1:IntKind.i64.wrap ((b:Int)+1)=(b:Int)+1:=AZ (by omega) (by omega);have h2:=fun H=>hA (b+1:Nat) d y H (by omega) (by omega) uK tP (by simp only [Int.toNat_natCast];omega)
   have t1:=fun H=>hT.tookT b y Eg H (by omega) tP (by simpa using hf)
   simp [Eg] at t1;simp at h2;simp [t1];refine LpD.turns X hG [4,7] [(0,4),(1,4)] ?_;simp [h2]
   refine Nxt.mk k (by omega) (AE.mkK 3 (l':=[(0,.ptr 0 0),(1,.int .i64 (d:Int)),(4,.ptr 1 0),(5,.ptr 2 0)])
    (H':=[some (.box (rrC ts (of ⟨b+1,d,y⟩).2.at_ (of ⟨b+1,d,y⟩).2.err)),some (.box (exC .none)),some (.box (exC (.bin 5 e' (of ⟨b+1,d,y⟩).1)))]) (by simp [hB]) (by simp) (by simp) (by simp))
    ⟨.bin 5 e' (of ⟨b+1,d,y⟩).1,(of ⟨b+1,d,y⟩).2,?_,?_,?_,?_,sw ⟨b+1,d,y⟩ tP,rfl,rfl⟩
   ·rw [←sV];simp [Br,s5,hf,St.step]
   ·have:=hu ⟨b+1,d,y⟩;simp only at this;omega
   ·have:=hu ⟨b+1,d,y⟩;simp only at this;omega
   ·exact hd ⟨b+1,d,y⟩
  |false =>
   have t1:=fun H=>hT.tookF b y Eg H (by omega) tP (by simpa using hf)
   simp [Eg] at t1;cases hs:nextB ts ⟨b,0,y⟩ BY with
   |true =>
    have hl:b<ts.length:=FO hs;have w1:IntKind.i64.wrap ((b:Int)+1)=(b:Int)+1:=AZ (by omega) (by omega);have h2:=fun H=>hA (b+1:Nat) d y H (by omega) (by omega) uK tP (by simp only [Int.toNat_natCast];omega)
    have t2:=fun H=>hT.tookT b y BY H (by omega) tP (by simpa using hs)
    simp [BY] at t2;simp at h2;simp [t1,t2];refine LpD.turns X hG [4,7] [(0,4),(1,4)] ?_;simp [h2]
    refine Nxt.mk k (by omega) (AE.mkK 3 (l':=[(0,.ptr 0 0),(1,.int .i64 (d:Int)),(4,.ptr 1 0),(5,.ptr 2 0)])
     (H':=[some (.box (rrC ts (of ⟨b+1,d,y⟩).2.at_ (of ⟨b+1,d,y⟩).2.err)),some (.box (exC .none)),some (.box (exC (.bin 6 e' (of ⟨b+1,d,y⟩).1)))]) (by simp [hB]) (by simp) (by simp) (by simp))
     ⟨.bin 6 e' (of ⟨b+1,d,y⟩).1,(of ⟨b+1,d,y⟩).2,?_,?_,?_,?_,sw ⟨b+1,d,y⟩ tP,rfl,rfl⟩
    ·rw [←sV];simp [Br,s5,hf,hs,St.step]
    ·have:=hu ⟨b+1,d,y⟩;simp only at this;omega
    ·have:=hu ⟨b+1,d,y⟩;simp only at this;omega
    ·exact hd ⟨b+1,d,y⟩
   |false =>
    have t2:=fun H=>hT.tookF b y BY H (by omega) tP (by simpa using hs)
    simp [BY] at t2;have sx:Br ts of Eg 5 BY 6 (k+1) e' ⟨b,d,y⟩=(e',⟨b,d,y⟩):=by simp [Br,s5,hs,hf]
    rw [←sV,sx];simp [t1,t2]
end Go.Proofs.YtffcldkblcmmiaaGreatDoor
