/- Facts on the types of this program, and which functions are  .. errors.Is and errors.As at faults and error numbers, aS cont -/
import Derived.Test.YtmjfldclpijghaaGreatDoorZt4
import Derived.Test.YtmjfldclpijghaaGreatDoorChecked
import Derived.KernelRfl
import Derived.Test.YtmjfldclpijghaaGreatDoorRows
import Derived.Lib.Bytealg
import Derived.Lib.Strings
import Derived.Lib.Walk
import Derived.LaidEql
import Derived.Stop.Asserts
import Derived.RowKitTokens
set_option linter.unusedSimpArgs false
set_option linter.unusedVariables false
namespace Go.Proofs.YtmjfldclpijghaaGreatDoor
noncomputable abbrev zP:Program:=Tryz.prog
end Go.Proofs.YtmjfldclpijghaaGreatDoor
namespace Go.Proofs.YtmjfldclpijghaaGreatDoor.Ty
open Go.RowKit Go.Proofs.Fw
set_option maxRecDepth 100000
theorem sz2:AZ zP 2=some 1:=by kernel_rfl
theorem ag2:Aj zP 2=some false:=by kernel_rfl
theorem zv2:Ae zP 2=some (.int .i64 0):=by kernel_rfl
theorem sz3:AZ zP 3=some 1:=by kernel_rfl
theorem ag3:Aj zP 3=some false:=by kernel_rfl
theorem zz3:Ae zP 3=some (.int .i64 0)∧AZ zP 4=some 1∧Aj zP 4=some false∧Ae zP 4=some (.bool false):=by and_intros<;>kernel_rfl
theorem sz5:AZ zP 5=some 1:=by kernel_rfl
theorem ag5:Aj zP 5=some false:=by kernel_rfl
theorem zv5:Ae zP 5=some (.int .u8 0):=by kernel_rfl
theorem sz9:AZ zP 9=some 1:=by kernel_rfl
theorem ag9:Aj zP 9=some false:=by kernel_rfl
theorem zz4:Ae zP 9=some (.str [])∧AZ zP 25=some 1∧Aj zP 25=some false∧Ae zP 25=some (.nilSlice)∧Bg zP 25 1=true∧AZ zP 26=some 1∧Aj zP 26=some false∧Ae zP 26=some (.nilSlice)∧Bg zP 26 2=true∧AZ zP 28=some 2∧Aj zP 28=some true∧Ae zP 28=some (.agg [.nilSlice,.int .i64 0])∧fI zP 28 0=(0,26,true)∧fI zP 28 1=(1,3,true)∧AZ zP 35=some 1∧Aj zP 35=some false∧Ae zP 35=some (.nilIface)∧AZ zP 57=some 1∧Aj zP 57=some false∧Ae zP 57=some (.nilSlice)∧Bg zP 57 1=true∧AZ zP 58=some 1∧Aj zP 58=some false∧Ae zP 58=some (.int .u16 0):=by and_intros<;>kernel_rfl
theorem zz5:AZ zP 82=some 29∧Aj zP 82=some true∧Ae zP 82=some (.agg [.int .i64 0,.nilSlice,.int .i64 0,.int .i64 0,.str [],.nilSlice,.int .i64 0,.int .i64 0,.str [],.nilSlice,.str [],.int .i64 0,.int .i64 0,.str [],.nilSlice,.int .i64 0,.int .i64 0,.str [],.nilSlice,.str [],.int .i64 0,.int .i64 0,.str [],.nilSlice,.int .i64 0,.int .i64 0,.str [],.nilSlice,.int .i64 0])∧fI zP 82 0=(0,3,true)∧fI zP 82 1=(1,75,true)∧fI zP 82 2=(2,78,true)∧fI zP 82 3=(6,78,true)∧fI zP 82 4=(10,80,true)∧fI zP 82 5=(19,9,true)∧fI zP 82 6=(20,78,true)∧fI zP 82 7=(24,78,true)∧fI zP 82 8=(28,2,true)∧AZ zP 92=some 29∧Aj zP 92=some true∧Ae zP 92=some (.agg [.int .i64 0,.nilSlice,.int .i64 0,.int .i64 0,.str [],.nilSlice,.int .i64 0,.int .i64 0,.str [],.nilSlice,.str [],.int .i64 0,.int .i64 0,.str [],.nilSlice,.int .i64 0,.int .i64 0,.str [],.nilSlice,.str [],.int .i64 0,.int .i64 0,.str [],.nilSlice,.int .i64 0,.int .i64 0,.str [],.nilSlice,.int .i64 0])∧fI zP 92 0=(0,3,true)∧fI zP 92 1=(1,85,true)∧fI zP 92 2=(2,88,true)∧fI zP 92 3=(6,88,true)∧fI zP 92 4=(10,90,true)∧fI zP 92 5=(19,9,true)∧fI zP 92 6=(20,88,true)∧fI zP 92 7=(24,88,true)∧fI zP 92 8=(28,2,true):=by and_intros<;>kernel_rfl
theorem zz6:AZ zP 101=some 1∧Aj zP 101=some false∧Ae zP 101=some (.int .i64 0)∧AZ zP 102=some 1∧Aj zP 102=some false∧Ae zP 102=some (.nilPtr)∧AZ zP 106=some 3∧Aj zP 106=some true∧Ae zP 106=some (.agg [.str [],.int .i64 0,.nilIface])∧fI zP 106 0=(0,9,true)∧fI zP 106 1=(1,3,true)∧fI zP 106 2=(2,35,true)∧AZ zP 108=some 2∧Aj zP 108=some true∧Ae zP 108=some (.agg [.str [],.int .i64 0])∧fI zP 108 0=(0,9,true)∧fI zP 108 1=(1,3,true)∧AZ zP 133=some 2∧Aj zP 133=some true∧Ae zP 133=some (.agg [.str [],.nilSlice])∧fI zP 133 0=(0,9,true)∧fI zP 133 1=(1,48,true)∧AZ zP 157=some 1∧Aj zP 157=some false:=by and_intros<;>kernel_rfl
theorem bV:Ae zP 157=some (.nilSlice):=by kernel_rfl
theorem ec157:Bg zP 157 4=true:=by kernel_rfl
theorem zz7:AZ zP 165=some 4∧Aj zP 165=some true∧Ae zP 165=some (.agg [.int .i64 0,.str [],.int .i64 0,.int .i64 0])∧fI zP 165 0=(0,3,true)∧fI zP 165 1=(1,9,true)∧fI zP 165 2=(2,3,true)∧fI zP 165 3=(3,2,true)∧AZ zP 171=some 1∧Aj zP 171=some false∧Ae zP 171=some (.nilSlice):=by and_intros<;>kernel_rfl
theorem ec171:Bg zP 171 4=true:=by kernel_rfl
theorem zz8:AZ zP 221=some 4∧Aj zP 221=some true∧Ae zP 221=some (.agg [.int .i64 0,.str [],.int .i64 0,.int .i64 0])∧fI zP 221 0=(0,3,true)∧fI zP 221 1=(1,9,true)∧fI zP 221 2=(2,3,true)∧fI zP 221 3=(3,2,true)∧AZ zP 230=some 1∧Aj zP 230=some false∧Ae zP 230=some (.int .u64 0)∧AZ zP 258=some 1∧Aj zP 258=some false∧Ae zP 258=some (.nilPtr)∧AZ zP 271=some 3∧Aj zP 271=some true∧Ae zP 271=some (.agg [.str [],.str [],.nilIface])∧fI zP 271 0=(0,9,true)∧fI zP 271 1=(1,9,true)∧fI zP 271 2=(2,35,true)∧AG zP 20=true∧AG zP 49=true∧AG zP 60=true∧AG zP 75=true∧AG zP 76=true:=by and_intros<;>kernel_rfl
theorem zz9:AG zP 77=true∧AG zP 78=true∧AG zP 79=true∧AG zP 80=true∧AG zP 91=true∧AG zP 92=true∧AG zP 113=true∧AG zP 129=true∧AG zP 130=true∧AG zP 141=true∧AG zP 149=true:=by and_intros<;>kernel_rfl
attribute [simp] sz2 ag2 zv2 Tryz.underlying2 sz3 ag3 zz3 Tryz.underlying3 Tryz.underlying4 sz5 ag5 zv5 Tryz.underlying5 sz9 ag9 zz4 Tryz.underlying9
attribute [simp] Tryz.underlying25 Tryz.underlying26 Tryz.underlying28 Tryz.underlying35
attribute [simp] Tryz.underlying57 Tryz.underlying58 zz5
attribute [simp] Tryz.underlying82 Tryz.underlying92 zz6 Tryz.underlying101
attribute [simp] Tryz.underlying102 Tryz.underlying106 Tryz.underlying108
attribute [simp] Tryz.underlying133 bV ec157 Tryz.underlying157 zz7 Tryz.underlying165 ec171 Tryz.underlying171
attribute [simp] zz8 Tryz.underlying221 Tryz.underlying230 Tryz.underlying258
attribute [simp] Tryz.underlying271 zz9
end Go.Proofs.YtmjfldclpijghaaGreatDoor.Ty
namespace Go.Proofs.YtmjfldclpijghaaGreatDoor.Tw
open Go.RowKit Go.Proofs.Fw
set_option maxRecDepth 100000
theorem zz10:AZ zP 104=some 1∧Aj zP 104=some false∧Ae zP 104=some (.nilPtr)∧AZ zP 109=some 1∧Aj zP 109=some false∧Ae zP 109=some (.nilPtr)∧AG zP 26=true∧AG zP 27=true∧AG zP 43=true∧AG zP 191=true:=by and_intros<;>kernel_rfl
attribute [simp] zz10 Tryz.underlying104 Tryz.underlying109
end Go.Proofs.YtmjfldclpijghaaGreatDoor.Tw
namespace Go.Proofs.YtmjfldclpijghaaGreatDoor.Tx
open Go.RowKit Go.Proofs.Fw
set_option maxRecDepth 100000
theorem zz11:AZ zP 76=some 1∧Aj zP 76=some false∧Ae zP 76=some (.nilSlice)∧Bg zP 76 4=true∧AZ zP 78=some 4∧Aj zP 78=some true∧Ae zP 78=some (.agg [.int .i64 0,.int .i64 0,.str [],.nilSlice])∧fI zP 78 0=(0,3,true)∧fI zP 78 1=(1,2,true)∧fI zP 78 2=(2,9,true)∧fI zP 78 3=(3,76,true)∧AZ zP 80=some 9∧Aj zP 80=some true∧Ae zP 80=some (.agg [.str [],.int .i64 0,.int .i64 0,.str [],.nilSlice,.int .i64 0,.int .i64 0,.str [],.nilSlice])∧fI zP 80 0=(0,9,true)∧fI zP 80 1=(1,78,true)∧fI zP 80 2=(5,78,true)∧AZ zP 86=some 1∧Aj zP 86=some false∧Ae zP 86=some (.nilSlice)∧Bg zP 86 4=true∧AZ zP 88=some 4∧Aj zP 88=some true∧Ae zP 88=some (.agg [.int .i64 0,.int .i64 0,.str [],.nilSlice]):=by and_intros<;>kernel_rfl
theorem zz12:fI zP 88 0=(0,3,true)∧fI zP 88 1=(1,2,true)∧fI zP 88 2=(2,9,true)∧fI zP 88 3=(3,86,true)∧AZ zP 90=some 9∧Aj zP 90=some true∧Ae zP 90=some (.agg [.str [],.int .i64 0,.int .i64 0,.str [],.nilSlice,.int .i64 0,.int .i64 0,.str [],.nilSlice])∧fI zP 90 0=(0,9,true)∧fI zP 90 1=(1,88,true)∧fI zP 90 2=(5,88,true)∧AZ zP 213=some 1∧Aj zP 213=some false∧Ae zP 213=some (.nilPtr)∧AZ zP 214=some 4∧Aj zP 214=some true∧Ae zP 214=some (.agg [.nilSlice,.int .i64 0,.nilSlice,.int .i64 0])∧fI zP 214 0=(0,157,true)∧fI zP 214 1=(1,3,true)∧fI zP 214 2=(2,28,true)∧AZ zP 248=some 1∧Aj zP 248=some false∧Ae zP 248=some (.nilPtr)∧AZ zP 250=some 4∧Aj zP 250=some true:=by and_intros<;>kernel_rfl
theorem zz13:Ae zP 250=some (.agg [.nilSlice,.int .i64 0,.int .i64 0,.nilIface])∧fI zP 250 0=(0,171,true)∧fI zP 250 1=(1,3,true)∧fI zP 250 2=(2,3,true)∧fI zP 250 3=(3,35,true)∧AG zP 84=true∧AG zP 87=true∧AG zP 88=true∧AG zP 102=true∧AG zP 103=true∧AG zP 104=true∧AG zP 105=true∧AG zP 106=true∧AG zP 119=true∧AG zP 123=true∧AG zP 125=true:=by and_intros<;>kernel_rfl
theorem go132:AG zP 132=true:=by kernel_rfl
theorem zz14:AG zP 133=true∧AG zP 134=true∧AG zP 135=true∧AG zP 136=true∧AG zP 144=true:=by and_intros<;>kernel_rfl
theorem go145:AG zP 145=true:=by kernel_rfl
theorem go152:AG zP 152=true:=by kernel_rfl
theorem zz15:AG zP 156=true∧AG zP 157=true∧AG zP 158=true∧AG zP 159=true:=by and_intros<;>kernel_rfl
attribute [simp] zz11 Tryz.underlying76 Tryz.underlying78 Tryz.underlying80
attribute [simp] Tryz.underlying86 zz12 Tryz.underlying88 Tryz.underlying90
attribute [simp] Tryz.underlying213 Tryz.underlying214 Tryz.underlying248 zz13
attribute [simp] Tryz.underlying250 go132 zz14
attribute [simp] go145 go152 zz15
end Go.Proofs.YtmjfldclpijghaaGreatDoor.Tx
namespace Go.Proofs.YtmjfldclpijghaaGreatDoor.Tu
open Go.RowKit Go.Proofs.Fw
set_option maxRecDepth 100000
theorem zz16:AZ zP 42=some 2∧Aj zP 42=some true∧Ae zP 42=some (.agg [.nilSlice,.int .i64 0])∧fI zP 42 0=(0,40,true)∧fI zP 42 1=(1,2,true)∧AZ zP 48=some 1∧Aj zP 48=some false∧Ae zP 48=some (.nilSlice)∧Bg zP 48 1=true∧AZ zP 53=some 4∧Aj zP 53=some true∧Ae zP 53=some (.agg [.str [],.nilSlice,.int .i64 0,.int .i64 0])∧fI zP 53 0=(0,9,true)∧fI zP 53 1=(1,48,true)∧fI zP 53 2=(2,3,true)∧fI zP 53 3=(3,2,true)∧AZ zP 64=some 1∧Aj zP 64=some false∧Ae zP 64=some (.int .u64 0)∧AZ zP 110=some 1∧Aj zP 110=some false∧Ae zP 110=some (.nilSlice)∧Bg zP 110 1=true∧AG zP 13=true:=by and_intros<;>kernel_rfl
theorem go18:AG zP 18=true:=by kernel_rfl
attribute [simp] zz16 Tryz.underlying42 Tryz.underlying48 Tryz.underlying53
attribute [simp] Tryz.underlying64 Tryz.underlying110 go18
end Go.Proofs.YtmjfldclpijghaaGreatDoor.Tu
namespace Go.Proofs.YtmjfldclpijghaaGreatDoor
open Go.RowKit Go.Proofs.Fw
theorem Ad:zP.follows .mixedOrders=true:=by kernel_rfl
def K5:List AV:=(List.range 256).map fun i => .int .u8 (if i=32∨(9≤i∧i≤13) then 1 else 0)
def Sp:List UInt8:=[118,97,108,117,101,32,111,117,116,32,111,102,32,114,97,110,103,101]
def Om:AV := .vptr [.iface 285 (.vptr [.str Sp] 0)] 0
def JI:List (Nat × AV):=[(2,.vptr K5 0),(5,Om)]
def AM:Env:=⟨HD JI,fun _ _=>none,fun t=>t==106 || t==271,fun _=>false,fun _=>false⟩
@[simp] theorem zAC (t:TypeId):AM.soft t=false:=by rfl
theorem C4:Ch zP AM:=fun _ _ _ h=>by cases h
theorem Eb:∀i,low 0 (AM.glob i)=true:=OW (by
 intro x hx;simp only [JI,List.mem_cons,List.not_mem_nil,or_false] at hx;rcases hx with rfl|rfl
 ·show lowL 0 K5=true
  kernel_rfl
 ·rfl)
set_option maxHeartbeats 1000000 in
set_option maxRecDepth 100000 in
theorem bX (s:ByteArray) (c:Int) (w:World):Calls Tryz.prog 108 #[.string s,.int .u8 c] w fun e w'=>e = .returned (.int .i64 (Lib.indexByte s.data.toList c.toNat.toUInt8))∧w'=w:=by
 go_enter Tryz.func108,Tryz.ntmps108
 go_wp2
 rw [run_callFunc_extern Tryz.func127 (by kernel_rfl) (by kernel_rfl) (by kernel_rfl) (e:=Extern.BytealgIndexByte.indexByte) (by kernel_rfl),Lib.run_indexByteString];simp only [Result.andThen];rw [Oper.upon_value]
 go_wp2
 go_ret
 exact ⟨rfl,rfl⟩
def Gj:Orc:=fun f args H=>if f=108 then (match args with
 |[.str s,.int .u8 c]=>some (.int .i64 (Lib.indexByte s c.toNat.toUInt8),H)
 |_=>none) else none
theorem IQ:AT zP AM Gj:=AT.pure fun f args H v H' h=>by
 unfold Gj at h
 split at h
 ·rename_i hf
  split at h
  ·rename_i s c
   injection h with h;simp only [Prod.mk.injEq] at h;obtain ⟨rfl,rfl⟩:=h;subst hf;refine ⟨rfl,CS.of_calls fun g w cargs hA => ?_⟩;simp only [AB,AA] at hA;obtain ⟨_,_,rfl,rfl,_,_,rfl,rfl,rfl⟩:=hA;refine (bX _ c w).mono fun e w' => ?_
   rintro ⟨rfl,rfl⟩;exact ⟨_,rfl,fun g=>by simp only [AA],rfl⟩
  ·cases h
 ·cases h
def K6:List UInt8:=[105,110,116,101,103,101,114,32,100,111,32,101,110,100,32,105,102,32,116,104,101,110,32,101,108,115,101,32,114,101,97,100,32,112,114,105,110,116]
def GB:List (List UInt8):=[[105,110,116,101,103,101,114],[100,111],[101,110,100],[105,102],[116,104,101,110],[101,108,115,101],[114,101,97,100],[112,114,105,110,116]]
def Gk:AV := .slice .unk 1 8 (GB.map .str)
def fzT:FuncId→Nat:=fun f=>if f=128 then 3 else 0
set_option maxRecDepth 100000 in
theorem bY:run fzT Gj zP AM 100 6 128 [.str K6] []=some (Gk,[]):=by kernel_rfl
def bZ:Orc:=callS 128 fun s=>if s=K6 then some Gk else none
def DT:Orc:=orElse bZ Gj
theorem ba:AT zP AM DT:=AT.orElse (AT.callS Eb fun s v h=>by
 split at h
 ·rename_i hs
  injection h with h;subst hs;subst h;exact (Kw IQ C4 Ad 100 6 _ _ _ _ _ bY).1
 ·cases h) IQ
set_option maxRecDepth 100000
def Bz (b:UInt8):Bool:=decide (97≤b.toNat)&&decide (b.toNat≤122)
def A2 (b:UInt8):Bool:=decide (48≤b.toNat)&&decide (b.toNat≤57)
def Bi (b:UInt8):Bool:=Bz b || A2 b || b.toNat==95
theorem bb (O:Orc) (b:UInt8) (H:AH):Ar O zP AM 1 92 [.int .u8 (b.toNat:Int)] H=some (.bool (Bz b),H):=by
 by_cases h1:(97:Int)≤(b.toNat:Int)
 ·by_cases h2:(b.toNat:Int)≤122
  all_goals
   simp [Tryz.func92,Tryz.f92,Ar,AK,Bf,AY,Ai,Ag,grow,A5,Ap,AW,callee,aop,AX,AC,BP,BW,BU,AR,BC,BH,alen,BF,Bc,Be,aun,BQ,BD,BY,BR,BS,BV,Ao,BE,BM,A8,BI,A6,aeq,Bz,h1,h2];omega
 ·simp [Tryz.func92,Tryz.f92,Ar,AK,Bf,AY,Ai,Ag,grow,A5,Ap,AW,callee,aop,AX,AC,BP,BW,BU,AR,BC,BH,alen,BF,Bc,Be,aun,BQ,BD,BY,BR,BS,BV,Ao,BE,BM,A8,BI,A6,aeq,Bz,h1]
  omega
theorem bc (O:Orc) (b:UInt8) (H:AH):Ar O zP AM 1 112 [.int .u8 (b.toNat:Int)] H=some (.bool (A2 b),H):=by
 by_cases h1:(48:Int)≤(b.toNat:Int)
 ·by_cases h2:(b.toNat:Int)≤57
  all_goals
   simp [Tryz.func112,Tryz.f112,Ar,AK,Bf,AY,Ai,Ag,grow,A5,Ap,AW,callee,aop,AX,AC,BP,BW,BU,AR,BC,BH,alen,BF,Bc,Be,aun,BQ,BD,BY,BR,BS,BV,Ao,BE,BM,A8,BI,A6,aeq,A2,h1,h2];omega
 ·simp [Tryz.func112,Tryz.f112,Ar,AK,Bf,AY,Ai,Ag,grow,A5,Ap,AW,callee,aop,AX,AC,BP,BW,BU,AR,BC,BH,alen,BF,Bc,Be,aun,BQ,BD,BY,BR,BS,BV,Ao,BE,BM,A8,BI,A6,aeq,A2,h1]
  omega
def JJ:Orc:=orElse (Fb 92 Bz) (Fb 112 A2)
theorem Sq:AT zP AM JJ :=AT.orElse (Ju fun b H=>EX IQ C4 Ad (bb Gj b H)) (Ju fun b H=>EX IQ C4 Ad (bc Gj b H))
theorem MO (b:UInt8) (H:AH):JJ 92 [.int .u8 (b.toNat:Int)] H=some (.bool (Bz b),H):=by simp only [JJ,orElse,Jv]
theorem MP (b:UInt8) (H:AH):JJ 112 [.int .u8 (b.toNat:Int)] H=some (.bool (A2 b),H):=by have:Fb 92 Bz 112 [.int .u8 (b.toNat:Int)] H=none:=rfl;simp only [JJ,orElse,this,Jv]
theorem Ds:∀f,f∈[92,112,110,109,114,111,98,124,128,91,60,59,113,89,90,107,108,126]→AG zP f=true:=by intro f hf;simp only [List.mem_cons,List.not_mem_nil,or_false] at hf;rcases hf with rfl|rfl|rfl|rfl|rfl|rfl|rfl|rfl|rfl|rfl|rfl|rfl|rfl|rfl|rfl|rfl|rfl|rfl|rfl<;>kernel_rfl
theorem go25:AG zP 92=true:=Ds _ (by simp)
theorem go34:AG zP 112=true:=Ds _ (by simp)
theorem go31:AG zP 110=true:=Ds _ (by simp)
theorem be (b:UInt8) (H:AH):Ar JJ zP AM 1 110 [.int .u8 (b.toNat:Int)] H=some (.bool (Bi b),H):=by
 cases h1:Bz b
 ·cases h2:A2 b
  ·simp [Tryz.func110,Tryz.f110,Ar,AK,Bf,AY,Ai,Ag,grow,A5,Ap,AW,callee,aop,AX,AC,BP,BW,BU,AR,BC,BH,alen,BF,Bc,Be,aun,BQ,BD,BY,BR,BS,BV,Ao,BE,BM,A8,BI,A6,aeq,Bi,h1,h2,go25,go34,MO,MP]
   rw [Bool.eq_iff_iff];simp only [beq_iff_eq];omega
  ·simp [Tryz.func110,Tryz.f110,Ar,AK,Bf,AY,Ai,Ag,grow,A5,Ap,AW,callee,aop,AX,AC,BP,BW,BU,AR,BC,BH,alen,BF,Bc,Be,aun,BQ,BD,BY,BR,BS,BV,Ao,BE,BM,A8,BI,A6,aeq,Bi,h1,h2,go25,go34,MO,MP]
 ·simp [Tryz.func110,Tryz.f110,Ar,AK,Bf,AY,Ai,Ag,grow,A5,Ap,AW,callee,aop,AX,AC,BP,BW,BU,AR,BC,BH,alen,BF,Bc,Be,aun,BQ,BD,BY,BR,BS,BV,Ao,BE,BM,A8,BI,A6,aeq,Bi,h1,go25,go34,MO,MP]
def GC:Orc:=orElse (Fb 110 Bi) JJ
theorem K7:AT zP AM GC :=AT.orElse (Ju fun b H=>EX Sq C4 Ad (be b H)) Sq
theorem bf (b:UInt8) (H:AH):GC 110 [.int .u8 (b.toNat:Int)] H=some (.bool (Bi b),H):=by simp only [GC,orElse,Jv]
theorem Ss (b:UInt8) (H:AH):GC 92 [.int .u8 (b.toNat:Int)] H=some (.bool (Bz b),H):=by have:Fb 110 Bi 92 [.int .u8 (b.toNat:Int)] H=none:=rfl;simp only [GC,orElse,this];exact MO b H
theorem Su (b:UInt8) (H:AH):GC 112 [.int .u8 (b.toNat:Int)] H=some (.bool (A2 b),H):=by have:Fb 110 Bi 112 [.int .u8 (b.toNat:Int)] H=none:=rfl;simp only [GC,orElse,this];exact MP b H
noncomputable def b30:Code:=(Tryz.f109.body).getD .skip
noncomputable def JK:Code:=inC (inC (CY (A1 (A1 b30))))
theorem bg (O:Orc) (s:List UInt8) (f:FuncId) (p:UInt8→Bool) (hg:AG zP f=true) (ho:∀(b:UInt8) H,O f [.int .u8 (b.toNat:Int)] H=some (.bool (p b),H))
  (i:Nat) (hi:i<s.length) (hp:p s[i]=true) (hs:s.length<9223372036854775807) (n:Nat) (v2 v3 v6 v7 v8 v9 v10 v11 v12 v13 v14 v15 v16 v17 v18 v19:AV) (H:AH) :
  AK O zP AM n JK [.str s,.func (.func f) [] [],v2,v3,.int .i64 0,.int .i64 i,v6,v7,v8,v9,v10,v11,v12,v13,v14,v15,v16,v17,v18,v19] H =
   some (.normal,[.str s,.func (.func f) [] [],v2,v3,.int .i64 0,.int .i64 ((i+1:Nat):Int),.int .i64 i,.str s,.int .i64 s.length,.bool true,.bool true,.func (.func f) [] [],.str s,.int .i64 i,.int .u8 (s[i].toNat:Int),.bool true,.bool true,.int .i64 i,.int .i64 ((i+1:Nat):Int),v19],H):=by
 have h1:(i:Int)<s.length:=by omega
 have hw:IntKind.i64.wrap ((i:Int)+1)=(i:Int)+1:=Ab (by omega) (by omega);simp [JK,b30,Tryz.f109,inC,CY,A1,Ar,AK,Bf,AY,Ai,Ag,grow,A5,Ap,AW,callee,aop,AX,AC,BP,BW,BU,AR,BC,BH,alen,BF,Bc,Be,aun,BQ,BD,BY,BR,BS,BV,Ao,BE,BM,A8,BI,A6,aeq,h1,hi,hp,hg,ho,hw]
theorem bh (O:Orc) (s:List UInt8) (f:FuncId) (p:UInt8→Bool) (hg:AG zP f=true) (ho:∀(b:UInt8) H,O f [.int .u8 (b.toNat:Int)] H=some (.bool (p b),H))
  (i:Nat) (hi:∀h:i<s.length,p s[i]=false) (n:Nat) (v2 v3 v6 v7 v8 v9 v10 v11 v12 v13 v14 v15 v16 v17 v18 v19:AV) (H:AH) :
  ∃w6 w7 w8 w9 w10 w11 w12 w13 w14 w15 w16 w17 w18 w19,AK O zP AM n JK [.str s,.func (.func f) [] [],v2,v3,.int .i64 0,.int .i64 i,v6,v7,v8,v9,v10,v11,v12,v13,v14,v15,v16,v17,v18,v19] H =
   some (.exit 0,[.str s,.func (.func f) [] [],v2,v3,.int .i64 0,.int .i64 i,w6,w7,w8,w9,w10,w11,w12,w13,w14,w15,w16,w17,w18,w19],H):=by
 by_cases hl:i<s.length
 ·have h1:(i:Int)<s.length:=by omega
  have hp:=hi hl;simp [JK,b30,Tryz.f109,inC,CY,A1,Ar,AK,Bf,AY,Ai,Ag,grow,A5,Ap,AW,callee,aop,AX,AC,BP,BW,BU,AR,BC,BH,alen,BF,Bc,Be,aun,BQ,BD,BY,BR,BS,BV,Ao,BE,BM,A8,BI,A6,aeq,h1,hl,hp,hg,ho]
 ·have h1:¬(i:Int)<s.length:=by omega
  simp [JK,b30,Tryz.f109,inC,CY,A1,Ar,AK,Bf,AY,Ai,Ag,grow,A5,Ap,AW,callee,aop,AX,AC,BP,BW,BU,AR,BC,BH,alen,BF,Bc,Be,aun,BQ,BD,BY,BR,BS,BV,Ao,BE,BM,A8,BI,A6,aeq,h1]
theorem bi (O:Orc) (s:List UInt8) (f:FuncId) (p:UInt8→Bool) (hg:AG zP f=true) (ho:∀(b:UInt8) H,O f [.int .u8 (b.toNat:Int)] H=some (.bool (p b),H)) (hs:s.length<9223372036854775807) (n:Nat) (v2 v3:AV) (H:AH) :
  ∀(m i:Nat),i≤Ak p s→Ak p s-i<m→∀v6 v7 v8 v9 v10 v11 v12 v13 v14 v15 v16 v17 v18 v19:AV,
  ∃w6 w7 w8 w9 w10 w11 w12 w13 w14 w15 w16 w17 w18 w19,iter (AK O zP AM n JK) m [.str s,.func (.func f) [] [],v2,v3,.int .i64 0,.int .i64 i,v6,v7,v8,v9,v10,v11,v12,v13,v14,v15,v16,v17,v18,v19] H =
   some (.exit 0,[.str s,.func (.func f) [] [],v2,v3,.int .i64 0,.int .i64 (Ak p s),w6,w7,w8,w9,w10,w11,w12,w13,w14,w15,w16,w17,w18,w19],H):=by
 intro m
 induction m with
 |zero=>intro i _ h;omega
 |succ m ih =>
  intro i hi hm v6 v7 v8 v9 v10 v11 v12 v13 v14 v15 v16 v17 v18 v19
  by_cases he:i<Ak p s
  ·obtain ⟨h1,h2⟩:=MA p s i he
   rw [Xo (bg O s f p hg ho i h1 h2 hs n v2 v3 v6 v7 v8 v9 v10 v11 v12 v13 v14 v15 v16 v17 v18 v19 H)];exact ih (i+1) he (by omega) _ _ _ _ _ _ _ _ _ _ _ _ _ _
  ·have hie:i=Ak p s:=by omega
   subst hie;obtain ⟨w6,w7,w8,w9,w10,w11,w12,w13,w14,w15,w16,w17,w18,w19,h⟩:=bh O s f p hg ho (Ak p s) (MB p s) n v2 v3 v6 v7 v8 v9 v10 v11 v12 v13 v14 v15 v16 v17 v18 v19 H;exact ⟨w6,w7,w8,w9,w10,w11,w12,w13,w14,w15,w16,w17,w18,w19,Xp h⟩
theorem Sv (O:Orc) (s:List UInt8) (f:FuncId) (p:UInt8→Bool) (hg:AG zP f=true) (ho:∀(b:UInt8) H,O f [.int .u8 (b.toNat:Int)] H=some (.bool (p b),H)) (hs:s.length<9223372036854775807) (H:AH) :
  Ar O zP AM (s.length+1) 109 [.str s,.func (.func f) [] []] H=some (.int .i64 (Ak p s),H):=by
 obtain ⟨w6,w7,w8,w9,w10,w11,w12,w13,w14,w15,w16,w17,w18,w19,h⟩:=bi O s f p hg ho hs (s.length+1) .nothing .nothing H (s.length+1) 0 (Nat.zero_le _) (by have:=Fc p s;omega) .nothing .nothing .nothing .nothing .nothing .nothing .nothing .nothing .nothing .nothing .nothing .nothing .nothing .nothing;rw [SG (c:=b30) Tryz.func109 (by kernel_rfl)]
 have e1:AK O zP AM (s.length+1) (CY b30) ([.str s,.func (.func f) [] []]++List.replicate (Tryz.f109.ntmps-[AV.str s,.func (.func f) [] []].length) .nothing) H=some (.normal,[.str s,.func (.func f) [] [],.nothing,.nothing,.int .i64 0,.nothing,.nothing,.nothing,.nothing,.nothing,.nothing,.nothing,.nothing,.nothing,.nothing,.nothing,.nothing,.nothing,.nothing,.nothing],H):=by kernel_rfl
 have e2:AK O zP AM (s.length+1) (CY (A1 b30)) [.str s,.func (.func f) [] [],.nothing,.nothing,.int .i64 0,.nothing,.nothing,.nothing,.nothing,.nothing,.nothing,.nothing,.nothing,.nothing,.nothing,.nothing,.nothing,.nothing,.nothing,.nothing] H=some (.normal,[.str s,.func (.func f) [] [],.nothing,.nothing,.int .i64 0,.int .i64 (0:Nat),.nothing,.nothing,.nothing,.nothing,.nothing,.nothing,.nothing,.nothing,.nothing,.nothing,.nothing,.nothing,.nothing,.nothing],H):=by kernel_rfl
 rw [OX (B:=A1 b30) (by kernel_rfl) e1,OX (B:=A1 (A1 b30)) (by kernel_rfl) e2];rw [OX (A:=CY (A1 (A1 b30))) (B:=A1 (A1 (A1 b30))) (by kernel_rfl) (Xn (L:=JK) (by kernel_rfl) h)]
 show (_:Option (AV × AH))=_
 kernel_rfl
set_option maxHeartbeats 4000000
def CZ:List UInt8→Nat
 |[]=>0
 |c::r=>if c.toNat=60∨c.toNat=62∨c.toNat=61∨c.toNat=47 then (match r with
   |d::_=>if d.toNat=61 then 2 else 1
   |[]=>1)
  else if c.toNat=43∨c.toNat=45∨c.toNat=42∨c.toNat=40∨c.toNat=41∨c.toNat=44 then 1 else 0
theorem sz9:AZ zP 9=some 1:=by kernel_rfl
theorem ag9:Aj zP 9=some false:=by kernel_rfl
theorem bj (O:Orc) (s:List UInt8) (H:AH) (h0:(s==[105,110,116,101,103,101,114])=false) (h1:(s==[100,111])=false) (h2:(s==[101,110,100])=false) (h3:(s==[105,102])=false)
  (h4:(s==[116,104,101,110])=false) (h5:(s==[101,108,115,101])=false) (h6:(s==[114,101,97,100])=false) (h7:(s==[112,114,105,110,116])=false) :
  Ar O zP AM 9 124 [Gk,.str s] H=some (.int .i64 (-1),H):=by
 simp [Tryz.func124,Tryz.f124,Ar,AK,Bf,AY,Ai,Ag,grow,A5,Ap,AW,callee,aop,AX,AC,BP,BW,BU,AR,BC,BH,alen,BF,Bc,Be,aun,BQ,BD,BY,BR,BS,BV,Ao,BE,BM,A8,BI,A6,aeq,iter,Gk,GB,sz9,ag9,h0,h1,h2,h3,h4,h5,h6,h7,IntKind.wrap,IntKind.bits,IntKind.signed]
theorem bl (s:List UInt8) (h:GB.contains s=false):run fzT DT zP AM 9 3 111 [.str s] []=some (.bool false,[]):=by
 simp only [GB,List.contains_cons,List.contains_nil,Bool.or_false,Bool.or_eq_false_iff] at h;obtain ⟨h0,h1,h2,h3,h4,h5,h6,h7⟩:=h;have b43:DT 124 [Gk,.str s] []=none:=rfl;have b28:DT 98 [Gk,.str s] []=none:=rfl;have b14:DT 111 [.str s] []=none:=rfl;have b29:DT 128 [.str K6] []=some (Gk,[]):=by kernel_rfl
 have g43:AG zP 124=true:=Ds _ (by simp);have g28:AG zP 98=true:=Ds _ (by simp);have g29:AG zP 128=true:=Ds _ (by simp)
 have e43:run fzT DT zP AM 9 1 124 [Gk,.str s] []=some (.int .i64 (-1),[]):=by have:=bj DT s [] h0 h1 h2 h3 h4 h5 h6 h7;simp [run,b43,this,Kv,fzT,frz,strip,low,AU]
 have e28:run fzT DT zP AM 9 2 98 [Gk,.str s] []=some (.bool false,[]):=by
  have:Ar (run fzT DT zP AM 9 1) zP AM 9 98 [Gk,.str s] []=some (.bool false,[]):=by simp [Tryz.func98,Tryz.f98,Ar,AK,Bf,AY,Ai,Ag,grow,A5,Ap,AW,callee,aop,AX,AC,BP,BW,BU,AR,BC,BH,alen,BF,Bc,Be,aun,BQ,BD,BY,BR,BS,BV,Ao,BE,BM,A8,BI,A6,aeq,e43,g43]
  rw [run];simp [b28,this,Kv,fzT,frz,strip,low,AU]
 have e29:run fzT DT zP AM 9 2 128 [.str K6] []=some (Gk,[]):=by rw [run];simp [b29]
 have:Ar (run fzT DT zP AM 9 2) zP AM 9 111 [.str s] []=some (.bool false,[]):=by unfold K6 at e29;simp [Tryz.func111,Tryz.f111,Ar,AK,Bf,AY,Ai,Ag,grow,A5,Ap,AW,callee,aop,AX,AC,BP,BW,BU,AR,BC,BH,alen,BF,Bc,Be,aun,BQ,BD,BY,BR,BS,BV,Ao,BE,BM,A8,BI,A6,aeq,e28,e29,g28,g29]
 rw [run];simp [b14,this,Kv,fzT,frz,strip,low,AU]
theorem bm:run fzT DT zP AM 9 3 111 [.str [105,110,116,101,103,101,114]] []=some (.bool true,[]):=by kernel_rfl
theorem bn:run fzT DT zP AM 9 3 111 [.str [100,111]] []=some (.bool true,[]):=by kernel_rfl
theorem bo:run fzT DT zP AM 9 3 111 [.str [101,110,100]] []=some (.bool true,[]):=by kernel_rfl
theorem bp:run fzT DT zP AM 9 3 111 [.str [105,102]] []=some (.bool true,[]):=by kernel_rfl
theorem bq:run fzT DT zP AM 9 3 111 [.str [116,104,101,110]] []=some (.bool true,[]):=by kernel_rfl
theorem br:run fzT DT zP AM 9 3 111 [.str [101,108,115,101]] []=some (.bool true,[]):=by kernel_rfl
theorem bt:run fzT DT zP AM 9 3 111 [.str [114,101,97,100]] []=some (.bool true,[]):=by kernel_rfl
theorem bu:run fzT DT zP AM 9 3 111 [.str [112,114,105,110,116]] []=some (.bool true,[]):=by kernel_rfl
def C5 (s:List UInt8):Bool:=GB.contains s
theorem bv (s:List UInt8):run fzT DT zP AM 9 3 111 [.str s] []=some (.bool (C5 s),[]):=by
 cases h:C5 s with
 |false=>exact bl s h
 |true =>
  unfold C5 at h;simp only [GB,List.contains_cons,List.contains_nil,Bool.or_false,Bool.or_eq_true,beq_iff_eq] at h;rcases h with rfl|rfl|rfl|rfl|rfl|rfl|rfl|rfl
  ·exact bm
  ·exact bn
  ·exact bo
  ·exact bp
  ·exact bq
  ·exact br
  ·exact bt
  ·exact bu
def On:Orc:=callS 111 fun s=>some (.bool (C5 s))
theorem bw:AT zP AM On:=AT.callS Eb fun s v h=>by injection h with h;subst h;exact (Kw ba C4 Ad 9 3 _ _ _ _ _ (bv s)).1
theorem bx (O:Orc) (c:UInt8) (r:List UInt8) (H:AH):Ar O zP AM 1 114 [.str (c::r)] H=some (.int .i64 (CZ (c::r)),H):=by
 by_cases h:c.toNat=60∨c.toNat=62∨c.toNat=61∨c.toNat=47∨c.toNat=43∨c.toNat=45∨c.toNat=42∨c.toNat=40∨c.toNat=41∨c.toNat=44
 ·cases r with
  |nil =>
   rcases h with h|h|h|h|h|h|h|h|h|h <;>
    simp [Tryz.func114,Tryz.f114,Ar,AK,Bf,AY,Ai,Ag,grow,A5,Ap,AW,callee,aop,AX,AC,BP,BW,BU,AR,BC,BH,alen,BF,Bc,Be,aun,BQ,BD,BY,BR,BS,BV,Ao,BE,BM,A8,BI,A6,aeq,CZ,h]
  |cons d r =>
   have hl:(1:Int)<(r.length:Int)+1+1:=by omega
   by_cases hd:d.toNat=61
   ·rcases h with h|h|h|h|h|h|h|h|h|h <;>
     simp [Tryz.func114,Tryz.f114,Ar,AK,Bf,AY,Ai,Ag,grow,A5,Ap,AW,callee,aop,AX,AC,BP,BW,BU,AR,BC,BH,alen,BF,Bc,Be,aun,BQ,BD,BY,BR,BS,BV,Ao,BE,BM,A8,BI,A6,aeq,CZ,h,hd,hl]
   ·have hd':((d.toNat:Int)==61)=false:=by simp only [beq_eq_false_iff_ne];omega
    rcases h with h|h|h|h|h|h|h|h|h|h <;>
     simp [Tryz.func114,Tryz.f114,Ar,AK,Bf,AY,Ai,Ag,grow,A5,Ap,AW,callee,aop,AX,AC,BP,BW,BU,AR,BC,BH,alen,BF,Bc,Be,aun,BQ,BD,BY,BR,BS,BV,Ao,BE,BM,A8,BI,A6,aeq,CZ,h,hd,hd',hl]
 ·simp only [not_or] at h
  obtain ⟨a0,a1,a2,a3,a4,a5,a6,a7,a8,a9⟩:=h;have b0:((c.toNat:Int)==60)=false:=by simp only [beq_eq_false_iff_ne];omega
  have b1:((c.toNat:Int)==62)=false:=by simp only [beq_eq_false_iff_ne];omega
  have b2:((c.toNat:Int)==61)=false:=by simp only [beq_eq_false_iff_ne];omega
  have b3:((c.toNat:Int)==47)=false:=by simp only [beq_eq_false_iff_ne];omega
  have b4:((c.toNat:Int)==43)=false:=by simp only [beq_eq_false_iff_ne];omega
  have b5:((c.toNat:Int)==45)=false:=by simp only [beq_eq_false_iff_ne];omega
  have b6:((c.toNat:Int)==42)=false:=by simp only [beq_eq_false_iff_ne];omega
  have b7:((c.toNat:Int)==40)=false:=by simp only [beq_eq_false_iff_ne];omega
  have b8:((c.toNat:Int)==41)=false:=by simp only [beq_eq_false_iff_ne];omega
  have b9:((c.toNat:Int)==44)=false:=by simp only [beq_eq_false_iff_ne];omega
  cases r with
  |nil=>simp [Tryz.func114,Tryz.f114,Ar,AK,Bf,AY,Ai,Ag,grow,A5,Ap,AW,callee,aop,AX,AC,BP,BW,BU,AR,BC,BH,alen,BF,Bc,Be,aun,BQ,BD,BY,BR,BS,BV,Ao,BE,BM,A8,BI,A6,aeq,CZ,a0,a1,a2,a3,a4,a5,a6,a7,a8,a9,b0,b1,b2,b3,b4,b5,b6,b7,b8,b9]
  |cons d r =>
   have hl:(1:Int)<(r.length:Int)+1+1:=by omega
   simp [Tryz.func114,Tryz.f114,Ar,AK,Bf,AY,Ai,Ag,grow,A5,Ap,AW,callee,aop,AX,AC,BP,BW,BU,AR,BC,BH,alen,BF,Bc,Be,aun,BQ,BD,BY,BR,BS,BV,Ao,BE,BM,A8,BI,A6,aeq,CZ,a0,a1,a2,a3,a4,a5,a6,a7,a8,a9,b0,b1,b2,b3,b4,b5,b6,b7,b8,b9,hl]
noncomputable def t55:Code:=A1 (A1 (A1 (A1 (A1 (A1 (A1 (A1 (A1 (A1 (A1 (Au Tryz.f139)))))))))))
noncomputable def L55:Code:=inC (inC (A1 (CY t55)))
theorem sz5:AZ zP 5=some 1:=by kernel_rfl
theorem ag5:Aj zP 5=some false:=by kernel_rfl
def Ba (s:List UInt8):Nat:=s.foldl (fun n b=>10*n+(b.toNat-48)) 0
theorem bz (O:Orc) (s:List UInt8) (i n:Nat) (b:UInt8) (t:List AV) (H:AH) (N:Nat) (hl:t.length=172) (h1:t[1]? = some (.int .i64 10)) (h8:t[8]? = some (.bool false)) (qs:t[10]? = some (.int .u64 1844674407370955162))
  (qt:t[11]? = some (.int .u64 18446744073709551615)) (qB:t[13]? = some (.int .u64 n)) (qM:t[101]? = some (.int .i64 i)) (qu:t[99]? = some (.slice .unk 1 s.length (EV s))) (qN:t[100]? = some (.int .i64 s.length))
  (hi:i<s.length) (hs:s.length<9223372036854775807) (hb:(EV s)[i]? = some (.int .u8 (b.toNat:Int))) (oi:(48:Int)≤(b.toNat:Int)) (ob:(b.toNat:Int)≤57) (hn:(n:Int)<1844674407370955162) (hm:10*n+(b.toNat-48)<18446744073709551616)
  (Q:AEx→List AV→AH→Prop) (hQ:∀t':List AV,t'.length=172→t'[1]? = some (.int .i64 10)→t'[8]? = some (.bool false)→t'[10]? = some (.int .u64 1844674407370955162)→t'[11]? = some (.int .u64 18446744073709551615) →
   t'[12]? = t[12]? → t'[13]? = some (.int .u64 ((10*n+(b.toNat-48):Nat):Int))→t'[101]? = some (.int .i64 ((i+1:Nat):Int))→t'[99]? = some (.slice .unk 1 s.length (EV s))→t'[100]? = some (.int .i64 s.length)→Q .normal t' H) :
  Ah (AK O zP AM N L55 t H) Q:=by
 have hi':(i:Int)<s.length:=by omega
 have e95:((b.toNat:Int)==95)=false:=by simp only [beq_eq_false_iff_ne];omega
 have w1:IntKind.u8.wrap ((b.toNat:Int)-48)=((b.toNat-48:Nat):Int):=by simp [IntKind.wrap,IntKind.bits,IntKind.signed];omega
 have w2:IntKind.u8.wrap 10=10:=by decide
 have d9:¬((10:Int)≤((b.toNat-48:Nat):Int)):=by omega
 have nc:¬((1844674407370955162:Int)≤(n:Int)):=by omega
 have w3:IntKind.u64.wrap 10=10:=by decide
 have w4:IntKind.u64.wrap ((n:Int)*10)=10*(n:Int):=by simp [IntKind.wrap,IntKind.bits,IntKind.signed];omega
 have w5:IntKind.u64.wrap ((b.toNat-48:Nat):Int)=((b.toNat-48:Nat):Int):=by simp [IntKind.wrap,IntKind.bits,IntKind.signed];omega
 have w6:IntKind.u64.wrap (10*(n:Int)+((b.toNat-48:Nat):Int))=10*(n:Int)+((b.toNat-48:Nat):Int):=by simp [IntKind.wrap,IntKind.bits,IntKind.signed];omega
 have l1:¬(10*(n:Int)+((b.toNat-48:Nat):Int)<10*(n:Int)):=by omega
 have l2:¬((18446744073709551615:Int)<10*(n:Int)+((b.toNat-48:Nat):Int)):=by omega
 have w7:IntKind.i64.wrap ((i:Int)+1)=(i:Int)+1:=Ab (by omega) (by omega);obtain ⟨_,g1⟩:=List.getElem?_eq_some_iff.1 h1;obtain ⟨_,g8⟩:=List.getElem?_eq_some_iff.1 h8;obtain ⟨_,g10⟩:=List.getElem?_eq_some_iff.1 qs;obtain ⟨_,g11⟩:=List.getElem?_eq_some_iff.1 qt;obtain ⟨_,g13⟩:=List.getElem?_eq_some_iff.1 qB;obtain ⟨_,g101⟩:=List.getElem?_eq_some_iff.1 qM;obtain ⟨_,g99⟩:=List.getElem?_eq_some_iff.1 qu;obtain ⟨_,g100⟩:=List.getElem?_eq_some_iff.1 qN;simp [L55,t55,Au,Tryz.f139,inC,CY,A1,Ar,AK,Bf,AY,Ai,Ag,grow,A5,Ap,AW,callee,aop,AX,AC,BP,BW,BU,AR,BC,BH,alen,BF,Bc,Be,aun,BQ,BD,BY,BR,BS,BV,Ao,BE,BM,A8,BI,A6,aeq,Ah,hl,g1,g8,g10,g11,g13,g101,g99,g100,hi,hi',sz5,ag5,Tryz.underlying110,hb,e95,oi,ob,w1,w2,d9,nc,w3,w4,w5,w6,l1,l2,w7];refine hQ _ ?_ ?_ ?_ ?_ ?_ ?_ ?_ ?_ ?_ ?_<;>simp [hl,g1,g8,g10,g11,g99,g100]
theorem cA (O:Orc) (s:List UInt8) (i n:Nat) (b:UInt8) (t:List AV) (H:AH) (N:Nat) (hl:t.length=172) (h1:t[1]? = some (.int .i64 10)) (h8:t[8]? = some (.bool false)) (qs:t[10]? = some (.int .u64 1844674407370955162))
  (qt:t[11]? = some (.int .u64 18446744073709551615)) (qB:t[13]? = some (.int .u64 n)) (qM:t[101]? = some (.int .i64 i)) (qu:t[99]? = some (.slice .unk 1 s.length (EV s))) (qN:t[100]? = some (.int .i64 s.length))
  (hi:i<s.length) (hb:(EV s)[i]? = some (.int .u8 (b.toNat:Int))) (oi:(48:Int)≤(b.toNat:Int)) (ob:(b.toNat:Int)≤57) (hn:¬(n:Int)<1844674407370955162)
  (Q:AEx→List AV→AH→Prop) (hQ:∀t':List AV,t'.length=172→t'[6]? = some (.int .u64 18446744073709551615)→t'[7]? = some (.iface 255 (.int .i64 1))→Q .ret t' H) :
  Ah (AK O zP AM N L55 t H) Q:=by
 have hi':(i:Int)<s.length:=by omega
 have e95:((b.toNat:Int)==95)=false:=by simp only [beq_eq_false_iff_ne];omega
 have w1:IntKind.u8.wrap ((b.toNat:Int)-48)=((b.toNat-48:Nat):Int):=by simp [IntKind.wrap,IntKind.bits,IntKind.signed];omega
 have w2:IntKind.u8.wrap 10=10:=by decide
 have d9:¬((10:Int)≤((b.toNat-48:Nat):Int)):=by omega
 have nc:(1844674407370955162:Int)≤(n:Int):=by omega
 obtain ⟨_,g1⟩:=List.getElem?_eq_some_iff.1 h1;obtain ⟨_,g8⟩:=List.getElem?_eq_some_iff.1 h8;obtain ⟨_,g10⟩:=List.getElem?_eq_some_iff.1 qs;obtain ⟨_,g11⟩:=List.getElem?_eq_some_iff.1 qt;obtain ⟨_,g13⟩:=List.getElem?_eq_some_iff.1 qB;obtain ⟨_,g101⟩:=List.getElem?_eq_some_iff.1 qM;obtain ⟨_,g99⟩:=List.getElem?_eq_some_iff.1 qu;obtain ⟨_,g100⟩:=List.getElem?_eq_some_iff.1 qN;simp [L55,t55,Au,Tryz.f139,inC,CY,A1,Ar,AK,Bf,AY,Ai,Ag,grow,A5,Ap,AW,callee,aop,AX,AC,BP,BW,BU,AR,BC,BH,alen,BF,Bc,Be,aun,BQ,BD,BY,BR,BS,BV,Ao,BE,BM,A8,BI,A6,aeq,Ah,hl,g1,g8,g10,g11,g13,g101,g99,g100,hi,hi',sz5,ag5,Tryz.underlying110,Tryz.underlying255,hb,e95,oi,ob,w1,w2,d9,nc];refine hQ _ ?_ ?_ ?_<;>simp [hl]
theorem cB (O:Orc) (s:List UInt8) (i n:Nat) (b:UInt8) (t:List AV) (H:AH) (N:Nat) (hl:t.length=172) (h1:t[1]? = some (.int .i64 10)) (h8:t[8]? = some (.bool false)) (qs:t[10]? = some (.int .u64 1844674407370955162))
  (qt:t[11]? = some (.int .u64 18446744073709551615)) (qB:t[13]? = some (.int .u64 n)) (qM:t[101]? = some (.int .i64 i)) (qu:t[99]? = some (.slice .unk 1 s.length (EV s))) (qN:t[100]? = some (.int .i64 s.length))
  (hi:i<s.length) (hb:(EV s)[i]? = some (.int .u8 (b.toNat:Int))) (oi:(48:Int)≤(b.toNat:Int)) (ob:(b.toNat:Int)≤57) (hn:(n:Int)<1844674407370955162) (hm:¬10*n+(b.toNat-48)<18446744073709551616)
  (Q:AEx→List AV→AH→Prop) (hQ:∀t':List AV,t'.length=172→t'[6]? = some (.int .u64 18446744073709551615)→t'[7]? = some (.iface 255 (.int .i64 1))→Q .ret t' H) :
  Ah (AK O zP AM N L55 t H) Q:=by
 have hi':(i:Int)<s.length:=by omega
 have e95:((b.toNat:Int)==95)=false:=by simp only [beq_eq_false_iff_ne];omega
 have w1:IntKind.u8.wrap ((b.toNat:Int)-48)=((b.toNat-48:Nat):Int):=by simp [IntKind.wrap,IntKind.bits,IntKind.signed];omega
 have w2:IntKind.u8.wrap 10=10:=by decide
 have d9:¬((10:Int)≤((b.toNat-48:Nat):Int)):=by omega
 have nc:¬((1844674407370955162:Int)≤(n:Int)):=by omega
 have w3:IntKind.u64.wrap 10=10:=by decide
 have w4:IntKind.u64.wrap ((n:Int)*10)=10*(n:Int):=by simp [IntKind.wrap,IntKind.bits,IntKind.signed];omega
 have w5:IntKind.u64.wrap ((b.toNat-48:Nat):Int)=((b.toNat-48:Nat):Int):=by simp [IntKind.wrap,IntKind.bits,IntKind.signed];omega
 have w6:IntKind.u64.wrap (10*(n:Int)+((b.toNat-48:Nat):Int))=10*(n:Int)+((b.toNat-48:Nat):Int)-18446744073709551616:=by simp [IntKind.wrap,IntKind.bits,IntKind.signed];omega
 have l1:10*(n:Int)+((b.toNat-48:Nat):Int)-18446744073709551616<10*(n:Int):=by omega
 obtain ⟨_,g1⟩:=List.getElem?_eq_some_iff.1 h1;obtain ⟨_,g8⟩:=List.getElem?_eq_some_iff.1 h8;obtain ⟨_,g10⟩:=List.getElem?_eq_some_iff.1 qs;obtain ⟨_,g11⟩:=List.getElem?_eq_some_iff.1 qt;obtain ⟨_,g13⟩:=List.getElem?_eq_some_iff.1 qB;obtain ⟨_,g101⟩:=List.getElem?_eq_some_iff.1 qM;obtain ⟨_,g99⟩:=List.getElem?_eq_some_iff.1 qu;obtain ⟨_,g100⟩:=List.getElem?_eq_some_iff.1 qN;simp [L55,t55,Au,Tryz.f139,inC,CY,A1,Ar,AK,Bf,AY,Ai,Ag,grow,A5,Ap,AW,callee,aop,AX,AC,BP,BW,BU,AR,BC,BH,alen,BF,Bc,Be,aun,BQ,BD,BY,BR,BS,BV,Ao,BE,BM,A8,BI,A6,aeq,Ah,hl,g1,g8,g10,g11,g13,g101,g99,g100,hi,hi',sz5,ag5,Tryz.underlying110,Tryz.underlying255,hb,e95,oi,ob,w1,w2,d9,nc,w3,w4,w5,w6,l1];refine hQ _ ?_ ?_ ?_<;>simp [hl]
theorem cC (O:Orc) (s:List UInt8) (t:List AV) (H:AH) (N:Nat) (hl:t.length=172) (qM:t[101]? = some (.int .i64 s.length)) (qN:t[100]? = some (.int .i64 s.length))
  (Q:AEx→List AV→AH→Prop) (hQ:Q (.exit 3) (t.set 102 (.bool false)) H):Ah (AK O zP AM N L55 t H) Q:=by
 obtain ⟨_,g101⟩:=List.getElem?_eq_some_iff.1 qM;obtain ⟨_,g100⟩:=List.getElem?_eq_some_iff.1 qN;simp [L55,t55,Au,Tryz.f139,inC,CY,A1,Ar,AK,Bf,AY,Ai,Ag,grow,A5,Ap,AW,callee,aop,AX,AC,BP,BW,BU,AR,BC,BH,alen,BF,Bc,Be,aun,BQ,BD,BY,BR,BS,BV,Ao,BE,BM,A8,BI,A6,aeq,Ah,hl,g101,g100];exact hQ
theorem cD (O:Orc) (s:List UInt8) (t:List AV) (H:AH) (N:Nat) (hl:t.length=172) (h0:t[0]? = some (.str s)) (h1:t[1]? = some (.int .i64 10)) (h2:t[2]? = some (.int .i64 64)) (oL:s≠[])
  (Q:AEx→List AV→AH→Prop) (hQ:∀t':List AV,t'.length=172→t'[0]? = some (.str s)→t'[1]? = some (.int .i64 10)→t'[8]? = some (.bool false)→t'[10]? = some (.int .u64 1844674407370955162)→t'[11]? = some (.int .u64 18446744073709551615) →
   t'[12]? = some (.bool false)→t'[13]? = some (.int .u64 0)→Q .normal t' H) :
  Ah (AK O zP AM N (C1 11 (Au Tryz.f139)) t H) Q:=by
 obtain ⟨_,g0⟩:=List.getElem?_eq_some_iff.1 h0;obtain ⟨_,g1⟩:=List.getElem?_eq_some_iff.1 h1;obtain ⟨_,g2⟩:=List.getElem?_eq_some_iff.1 h2;have hn:(s==[])=false:=by cases s<;>simp_all
 have w1:IntKind.u64.wrap (18446744073709551616)=0:=by decide
 have w2:IntKind.u64.wrap (-1)=18446744073709551615:=by decide
 have w3:IntKind.u64.wrap 64=64:=by decide
 have w4:IntKind.u64.bits=64:=rfl;simp [Au,Tryz.f139,C1,Ar,AK,Bf,AY,Ai,Ag,grow,A5,Ap,AW,callee,aop,AX,AC,BP,BW,BU,AR,BC,BH,alen,BF,Bc,Be,aun,BQ,BD,BY,BR,BS,BV,Ao,BE,BM,A8,BI,A6,aeq,Ah,hl,g0,g1,g2,hn,oL,Tryz.underlying3,Tryz.underlying64,w1,w2,w3,w4];refine hQ _ ?_ ?_ ?_ ?_ ?_ ?_ ?_ ?_<;>simp [hl,g0,g1]
def Hp (s:List UInt8):Prop:=∀b∈s,48≤b.toNat∧b.toNat≤57
theorem Oo (s:List UInt8) (b:UInt8):Ba (s++[b])=10*Ba s+(b.toNat-48):=by simp [Ba]
theorem Sw (s r:List UInt8):Ba s≤Ba (s++r):=by
 induction r generalizing s with
 |nil=>simp
 |cons b r ih =>have h1:=ih (s++[b]);rw [List.append_assoc] at h1;have h2:=Oo s b;simp only [List.singleton_append] at h1;omega
def PuI (s:List UInt8) (H:AH) (k:Nat) (t:List AV) (H':AH):Prop :=
 H'=H∧t.length=172∧t[1]? = some (.int .i64 10)∧t[8]? = some (.bool false)∧t[10]? = some (.int .u64 1844674407370955162)∧t[11]? = some (.int .u64 18446744073709551615)∧t[12]? = some (.bool false) ∧
  t[99]? = some (.slice .unk 1 s.length (EV s))∧t[100]? = some (.int .i64 s.length) ∧
  ∃i,i+k=s.length∧t[101]? = some (.int .i64 i)∧t[13]? = some (.int .u64 (Ba (s.take i)))∧Ba (s.take i)<18446744073709551616
theorem cG (O:Orc) (s:List UInt8) (hd:Hp s) (hs:s.length<9223372036854775807) (N:Nat) (H:AH) (Q:AEx→List AV→AH→Prop)
  (hQ1:∀t',t'.length=172→t'[12]? = some (.bool false)→t'[13]? = some (.int .u64 (Ba s))→Ba s<18446744073709551616→Q (.exit 3) t' H)
  (xI:∀t',t'.length=172→t'[6]? = some (.int .u64 18446744073709551615)→t'[7]? = some (.iface 255 (.int .i64 1))→¬Ba s<18446744073709551616→Q .ret t' H) (k:Nat) (t:List AV) (hk:k<N) (hI:PuI s H k t H) :
  Ah (iter (AK O zP AM N L55) N t H) Q:=by
 refine Ah.iter (PuI s H) (fun k t H' hI => ?_) N k hk hI;obtain ⟨rfl,hl,h1,h8,qs,qt,tD,qu,qN,i,oQ,qM,qB,hn⟩:=hI;cases k with
 |zero =>
  obtain rfl:i=s.length:=by omega
  rw [List.take_length] at qB hn;refine cC O s t H' N hl qM qN _ ?_;refine hQ1 _ (by simp [hl]) ?_ ?_ hn
  ·rw [List.getElem?_set_ne (by omega)];exact tD
  ·rw [List.getElem?_set_ne (by omega)];exact qB
 |succ k =>
  have hi:i<s.length:=by omega
  have hb:(EV s)[i]? = some (.int .u8 (s[i].toNat:Int)):=by simp [EV,hi]
  obtain ⟨d1,d2⟩:=hd s[i] (List.getElem_mem hi);have oe:s.take (i+1)=s.take i++[s[i]]:=by rw [List.take_add_one,List.getElem?_eq_getElem hi];rfl
  have rJ:Ba (s.take (i+1))=10*Ba (s.take i)+(s[i].toNat-48):=by rw [oe,Oo]
  have oO:Ba (s.take (i+1))≤Ba s:=by
   have:=Sw (s.take (i+1)) (s.drop (i+1))
   rwa [List.take_append_drop] at this
  by_cases hc:(Ba (s.take i):Int)<1844674407370955162
  ·by_cases hm:10*Ba (s.take i)+(s[i].toNat-48)<18446744073709551616
   ·refine bz O s i _ s[i] t H' N hl h1 h8 qs qt qB qM qu qN hi hs hb (by omega) (by omega) hc hm _ ?_
    intro t' a b c d e f g h j l;refine ⟨k,by omega,rfl,a,b,c,d,e,f.trans tD,j,l,i+1,by omega,h,?_,?_⟩
    ·rw [rJ];exact g
    ·rw [rJ];exact hm
   ·refine cB O s i _ s[i] t H' N hl h1 h8 qs qt qB qM qu qN hi hb (by omega) (by omega) hc hm _ ?_
    intro t' a b c;exact xI t' a b c (by omega)
  ·refine cA O s i _ s[i] t H' N hl h1 h8 qs qt qB qM qu qN hi hb (by omega) (by omega) hc _ ?_
   intro t' a b c;exact xI t' a b c (by omega)
theorem cH (O:Orc) (s:List UInt8) (t:List AV) (H:AH) (N:Nat) (hl:t.length=172) (h0:t[0]? = some (.str s)) (hs:s.length<9223372036854775807)
  (Q:AEx→List AV→AH→Prop) (hQ:∀t':List AV,t'.length=172→(∀k,k<98→t'[k]? = t[k]?)→t'[99]? = some (.slice .unk 1 s.length (EV s))→t'[100]? = some (.int .i64 s.length)→t'[101]? = some (.int .i64 0)→Q .normal t' H) :
  Ah (AK O zP AM N (CY (CY t55)) t H) Q:=by
 obtain ⟨_,g0⟩:=List.getElem?_eq_some_iff.1 h0;have hs':s.length≤9223372036854775807:=by omega
 simp [t55,Au,Tryz.f139,CY,A1,Ar,AK,Bf,AY,Ai,Ag,grow,A5,Ap,AW,callee,aop,AX,AC,BP,BW,BU,AR,BC,BH,alen,BF,Bc,Be,aun,BQ,BD,BY,BR,BS,BV,Ao,BE,BM,A8,BI,A6,aeq,Ah,hl,g0,hs',Tryz.underlying9,Tryz.underlying110,Tryz.underlying5];refine hQ _ ?_ ?_ ?_ ?_ ?_
 ·simp [hl]
 ·intro k hk
  simp only [List.getElem?_set]
  repeat rw [if_neg (by omega)]
 ·simp [hl]
 ·simp [hl]
 ·simp [hl]
theorem cJ (O:Orc) (t:List AV) (H:AH) (N:Nat) (m:Int) (hl:t.length=172) (tD:t[12]? = some (.bool false)) (qB:t[13]? = some (.int .u64 m))
  (Q:AEx→List AV→AH→Prop) (hQ:∀t':List AV,t'.length=172→t'[6]? = some (.int .u64 m)→t'[7]? = some .nilIface→Q .ret t' H) :
  Ah (AK O zP AM N (A1 t55) t H) Q:=by
 obtain ⟨_,g12⟩:=List.getElem?_eq_some_iff.1 tD;obtain ⟨_,g13⟩:=List.getElem?_eq_some_iff.1 qB;simp [t55,Au,Tryz.f139,CY,A1,Ar,AK,Bf,AY,Ai,Ag,grow,A5,Ap,AW,callee,aop,AX,AC,BP,BW,BU,AR,BC,BH,alen,BF,Bc,Be,aun,BQ,BD,BY,BR,BS,BV,Ao,BE,BM,A8,BI,A6,aeq,Ah,hl,g12,g13];refine hQ _ ?_ ?_ ?_<;>simp [hl]
theorem cL:Cj 11 (Au Tryz.f139)=t55:=by kernel_rfl
theorem Sz (t:List AV) (H:AH) (x y:AV) (h6:t[6]? = some x) (h7:t[7]? = some y):fin zP Tryz.f139 (some (.ret,t,H))=some (.tup [x,y],H):=by simp [fin,Tryz.f139,BC,h6,h7,BH]
def IR (s:List UInt8):AV:=if Ba s<18446744073709551616 then .tup [.int .u64 (Ba s),.nilIface] else .tup [.int .u64 18446744073709551615,.iface 255 (.int .i64 1)]
theorem cM (O:Orc) (s:List UInt8) (oL:s≠[]) (hd:Hp s) (hs:s.length<9223372036854775807) (H:AH) :
  Ar O zP AM (s.length+1) 139 [.str s,.int .i64 10,.int .i64 64] H=some (IR s,H):=by
 refine OY (c:=Au Tryz.f139) Tryz.func139 (by kernel_rfl) ?_;refine Ah.split 11 _ ?_;refine cD O s _ H _ (by simp [Tryz.f139]) (by rfl) (by rfl) (by rfl) oL _ ?_;intro t hl h0 h1 h8 qs qt tD qB
 show Ah (AK O zP AM (s.length+1) (Cj 11 (Au Tryz.f139)) t H) _
 rw [cL];refine Ah.seq (A:=CY t55) (B:=A1 t55) (by kernel_rfl) ?_;refine Ah.seq (A:=CY (CY t55)) (B:=A1 (CY t55)) (by kernel_rfl) ?_;refine cH O s t H _ hl h0 hs _ ?_;intro t2 oh hk qu qN qM
 show Ah (AK O zP AM (s.length+1) (A1 (CY t55)) t2 H) _
 refine Ah.block (A := .loop L55) (id:=3) (by kernel_rfl) ?_;simp only [AK];refine cG O s hd hs _ H _ ?_ ?_ s.length t2 (by omega) ⟨rfl,oh,(hk 1 (by omega)).trans h1,(hk 8 (by omega)).trans h8,(hk 10 (by omega)).trans qs,(hk 11 (by omega)).trans qt,(hk 12 (by omega)).trans tD,qu,qN,0,by omega,qM,(hk 13 (by omega)).trans qB,by simp [Ba]⟩
 ·intro t3 qa k12 k13 hn
  show Ah (AK O zP AM (s.length+1) (A1 t55) t3 H) _
  refine cJ O t3 H _ _ qa k12 k13 _ ?_;intro t4 hl4 k6 k7
  show fin zP Tryz.f139 (some (.ret,t4,H))=some (IR s,H)
  rw [Sz t4 H _ _ k6 k7,IR,if_pos hn]
 ·intro t3 qa k6 k7 hn
  show fin zP Tryz.f139 (some (.ret,t3,H))=some (IR s,H)
  rw [Sz t3 H _ _ k6 k7,IR,if_neg hn]
def IS (s:List UInt8):AV:=if Ba s<9223372036854775808 then .tup [.int .i64 (Ba s),.nilIface] else .tup [.int .i64 9223372036854775807,.iface 255 (.int .i64 1)]
theorem go55:AG zP 139=true:=by kernel_rfl
theorem cO:(zP.info? 255).map (·.comparable)=some true:=by kernel_rfl
theorem cP (O:Orc) (c:UInt8) (r:List UInt8) (t:List AV) (H:AH) (N:Nat) (hl:t.length=73) (h0:t[0]? = some (.str (c::r))) (h1:t[1]? = some (.int .i64 10)) (h2:t[2]? = some (.int .i64 64)) (hd:48≤c.toNat)
  (hn:Ba (c::r)<9223372036854775808) (ho:O 139 [.str (c::r),.int .i64 10,.int .i64 64] H=some (.tup [.int .u64 (Ba (c::r)),.nilIface],H))
  (Q:AEx→List AV→AH→Prop) (hQ:∀t':List AV,t'.length=73→t'[6]? = some (.int .i64 (Ba (c::r)))→t'[7]? = some .nilIface→Q .ret t' H) :
  Ah (AK O zP AM N (Au Tryz.f129) t H) Q:=by
 obtain ⟨_,g0⟩:=List.getElem?_eq_some_iff.1 h0;obtain ⟨_,g1⟩:=List.getElem?_eq_some_iff.1 h1;obtain ⟨_,g2⟩:=List.getElem?_eq_some_iff.1 h2;generalize Ba (c::r)=m at hn ho hQ;have e43:((c.toNat:Int)==43)=false:=by simp only [beq_eq_false_iff_ne];omega
 have e45:((c.toNat:Int)==45)=false:=by simp only [beq_eq_false_iff_ne];omega
 have w1:IntKind.i64.wrap 63=63:=by decide
 have w2:IntKind.u64.wrap 63=63:=by decide
 have w3:IntKind.u64.wrap 9223372036854775808=9223372036854775808:=by decide
 have w4:IntKind.u64.bits=64:=rfl;have l1:¬((9223372036854775808:Int)≤(m:Int)):=by omega
 have w5:IntKind.i64.wrap (m:Int)=(m:Int):=Ab (by omega) (by omega);simp [Au,Tryz.f129,Ar,AK,Bf,AY,Ai,Ag,grow,A5,Ap,AW,callee,aop,AX,AC,BP,BW,BU,AR,BC,BH,alen,BF,Bc,Be,aun,BQ,BD,BY,BR,BS,BV,Ao,BE,BM,A8,BI,A6,aeq,Ah,hl,g0,g1,g2,e43,e45,go55,ho,w1,w2,w3,w4,w5,l1,Tryz.underlying35,Tryz.underlying64,Tryz.underlying230,Tryz.underlying2,Tryz.underlying3,Tryz.underlying255];refine hQ _ ?_ ?_ ?_<;>simp [hl]
theorem S0 (O:Orc) (c:UInt8) (r:List UInt8) (t:List AV) (H:AH) (N:Nat) (hl:t.length=73) (h0:t[0]? = some (.str (c::r))) (h1:t[1]? = some (.int .i64 10)) (h2:t[2]? = some (.int .i64 64)) (hd:48≤c.toNat)
  (u:Int) (e:AV) (hu:9223372036854775808≤u) (he:e = .nilIface∨e = .iface 255 (.int .i64 1)) (ho:O 139 [.str (c::r),.int .i64 10,.int .i64 64] H=some (.tup [.int .u64 u,e],H))
  (Q:AEx→List AV→AH→Prop) (hQ:∀t':List AV,t'.length=73→t'[6]? = some (.int .i64 9223372036854775807)→t'[7]? = some (.iface 255 (.int .i64 1))→Q .ret t' H) :
  Ah (AK O zP AM N (Au Tryz.f129) t H) Q:=by
 obtain ⟨_,g0⟩:=List.getElem?_eq_some_iff.1 h0;obtain ⟨_,g1⟩:=List.getElem?_eq_some_iff.1 h1;obtain ⟨_,g2⟩:=List.getElem?_eq_some_iff.1 h2;obtain ⟨j,hj,yC⟩:=Option.map_eq_some_iff.1 cO;have e43:((c.toNat:Int)==43)=false:=by simp only [beq_eq_false_iff_ne];omega
 have e45:((c.toNat:Int)==45)=false:=by simp only [beq_eq_false_iff_ne];omega
 have w1:IntKind.i64.wrap 63=63:=by decide
 have w2:IntKind.u64.wrap 63=63:=by decide
 have w3:IntKind.u64.wrap 9223372036854775808=9223372036854775808:=by decide
 have w4:IntKind.u64.bits=64:=rfl;have w5:IntKind.u64.wrap 9223372036854775807=9223372036854775807:=by decide
 have w6:IntKind.i64.wrap 9223372036854775807=9223372036854775807:=by decide
 rcases he with rfl|rfl
 ·simp [Au,Tryz.f129,Ar,AK,Bf,AY,Ai,Ag,grow,A5,Ap,AW,callee,aop,AX,AC,BP,BW,BU,AR,BC,BH,alen,BF,Bc,Be,aun,BQ,BD,BY,BR,BS,BV,Ao,BE,BM,A8,BI,A6,aeq,Ah,hl,g0,g1,g2,e43,e45,go55,ho,w1,w2,w3,w4,w5,w6,hu,Tryz.underlying35,Tryz.underlying64,Tryz.underlying230,Tryz.underlying2,Tryz.underlying3,Tryz.underlying255]
  refine hQ _ ?_ ?_ ?_<;>simp [hl]
 ·simp [Au,Tryz.f129,Ar,AK,Bf,AY,Ai,Ag,grow,A5,Ap,AW,callee,aop,AX,AC,BP,BW,BU,AR,BC,BH,alen,BF,Bc,Be,aun,BQ,BD,BY,BR,BS,BV,Ao,BE,BM,A8,BI,A6,aeq,Ah,hl,g0,g1,g2,e43,e45,go55,ho,w1,w2,w3,w4,w5,w6,hu,hj,yC,Tryz.underlying35,Tryz.underlying64,Tryz.underlying230,Tryz.underlying2,Tryz.underlying3,Tryz.underlying255]
  refine hQ _ ?_ ?_ ?_<;>simp [hl]
theorem S1 (t:List AV) (H:AH) (x y:AV) (h6:t[6]? = some x) (h7:t[7]? = some y):fin zP Tryz.f129 (some (.ret,t,H))=some (.tup [x,y],H):=by simp [fin,Tryz.f129,BC,h6,h7,BH]
theorem cQ (O:Orc) (s:List UInt8) (oL:s≠[]) (hd:Hp s) (H:AH) (ho:O 139 [.str s,.int .i64 10,.int .i64 64] H=some (IR s,H)) :
  Ar O zP AM 1 129 [.str s,.int .i64 10,.int .i64 64] H=some (IS s,H):=by
 obtain ⟨c,r,rfl⟩:=List.exists_cons_of_ne_nil oL;have hc:=(hd c (by simp)).1;refine OY (c:=Au Tryz.f129) Tryz.func129 (by kernel_rfl) ?_;unfold IR at ho
 by_cases h1:Ba (c::r)<9223372036854775808
 ·rw [if_pos (by omega)] at ho
  refine cP O c r _ H _ (by simp [Tryz.f129]) (by rfl) (by rfl) (by rfl) hc h1 ho _ ?_;intro t hl k6 k7
  show fin zP Tryz.f129 (some (.ret,t,H))=some (IS (c::r),H)
  rw [S1 t H _ _ k6 k7,IS,if_pos h1]
 ·have fin2:∀t:List AV,t.length=73→t[6]? = some (.int .i64 9223372036854775807)→t[7]? = some (.iface 255 (.int .i64 1))→fin zP Tryz.f129 (some (.ret,t,H))=some (IS (c::r),H):=by
   intro t hl k6 k7;rw [S1 t H _ _ k6 k7,IS,if_neg h1]
  by_cases h2:Ba (c::r)<18446744073709551616
  ·rw [if_pos h2] at ho
   exact S0 O c r _ H _ (by simp [Tryz.f129]) (by rfl) (by rfl) (by rfl) hc _ _ (by omega) (.inl rfl) ho _ fin2
  ·rw [if_neg h2] at ho
   exact S0 O c r _ H _ (by simp [Tryz.f129]) (by rfl) (by rfl) (by rfl) hc _ _ (by omega) (.inr rfl) ho _ fin2
def FE (k:Int) (s:List UInt8) (a n:Int):AV := .agg [.int .i64 k,.str s,.int .i64 a,.int .i64 n]
theorem z40:Ae zP 221=some (.agg [.int .i64 0,.str [],.int .i64 0,.int .i64 0]):=by kernel_rfl
theorem J6 (k:IntKind) (m:Int) (s:List UInt8):Aq zP 221 [(0,.int k m),(1,.str s)]=some (.agg [.int k m,.str s,.int .i64 0,.int .i64 0]):=by kernel_rfl
theorem J7:Aq zP 221 []=some (.agg [.int .i64 0,.str [],.int .i64 0,.int .i64 0]):=by kernel_rfl
theorem sz40:AZ zP 221=some 4:=by kernel_rfl
theorem ag40:Aj zP 221=some true:=by kernel_rfl
theorem sz3:AZ zP 3=some 1:=by kernel_rfl
theorem ag3:Aj zP 3=some false:=by kernel_rfl
theorem sz2:AZ zP 2=some 1:=by kernel_rfl
theorem ag2:Aj zP 2=some false:=by kernel_rfl
theorem J8 (id:Nat):BE zP 221 (.ptr id 0) 0=some (.ptr id 0):=by kernel_rfl
theorem J9 (id:Nat):BE zP 221 (.ptr id 0) 1=some (.ptr id 1):=by kernel_rfl
theorem KA (id:Nat):BE zP 221 (.ptr id 0) 2=some (.ptr id 2):=by kernel_rfl
theorem KB (id:Nat):BE zP 221 (.ptr id 0) 3=some (.ptr id 3):=by kernel_rfl
theorem cR (O:Orc) (c:UInt8) (r:List UInt8) (key:Bool) (N:Nat) (pU:∀H,O 92 [.int .u8 (c.toNat:Int)] H=some (.bool true,H))
  (sU:∀H,O 109 [.str (c::r),.func (.func 110) [] []] H=some (.int .i64 (Ak Bi (c::r)),H)) (uF:∀H,O 111 [.str ((c::r).take (Ak Bi (c::r)))] H=some (.bool key,H))
  (oT:(Ak Bi (c::r):Int)≤(r.length:Int)+1) (qT:min (Ak Bi (c::r)) (r.length+1)=Ak Bi (c::r)) :
  ∃H',Ar O zP AM N 91 [.str (c::r)] []=some (.tup [FE (if key then 4 else 1) ((c::r).take (Ak Bi (c::r))) 0 0,.int .i64 (if Ak Bi (c::r)>31 then 4 else 0)],H'):=by
 generalize Ak Bi (c::r)=m at sU uF oT qT;have g30:AG zP 109=true:=Ds _ (by simp);have g14:AG zP 111=true:=Ds _ (by simp);cases key
 all_goals
  by_cases hm:m>31
  ·have hm':(31:Int)<(m:Int):=by omega
   simp [Tryz.func91,Tryz.f91,Ar,AK,Bf,AY,Ai,Ag,grow,A5,Ap,AW,callee,aop,AX,AC,BP,BW,BU,AR,BC,BH,alen,BF,Bc,Be,aun,BQ,BD,BY,BR,BS,BV,Ao,BE,BM,A8,BI,A6,aeq,z40,J6,J7,sz40,ag40,sz3,ag3,sz9,ag9,sz2,ag2,J8,J9,KA,KB,An,DC,D5,AV.known,AV.one,AH.at,pU,sU,uF,go25,g30,g14,hm,hm',oT,qT,FE]
  ·have hm':¬(31:Int)<(m:Int):=by omega
   simp [Tryz.func91,Tryz.f91,Ar,AK,Bf,AY,Ai,Ag,grow,A5,Ap,AW,callee,aop,AX,AC,BP,BW,BU,AR,BC,BH,alen,BF,Bc,Be,aun,BQ,BD,BY,BR,BS,BV,Ao,BE,BM,A8,BI,A6,aeq,z40,J6,J7,sz40,ag40,sz3,ag3,sz9,ag9,sz2,ag2,J8,J9,KA,KB,An,DC,D5,AV.known,AV.one,AH.at,pU,sU,uF,go25,g30,g14,hm,hm',oT,qT,FE]
theorem S2 (O:Orc) (c:UInt8) (r:List UInt8) (n:Int) (e:AV) (ov:Bool) (he:if ov then ∃t v,e = .iface t v else e = .nilIface) (N:Nat) (pU:∀H,O 92 [.int .u8 (c.toNat:Int)] H=some (.bool false,H)) (qv:∀H,O 112 [.int .u8 (c.toNat:Int)] H=some (.bool true,H))
  (sU:∀H,O 109 [.str (c::r),.func (.func 112) [] []] H=some (.int .i64 (Ak A2 (c::r)),H)) (rO:∀H,O 113 [.str ((c::r).take (Ak A2 (c::r))),.int .i64 10,.int .i64 64] H=some (.tup [.int .i64 n,e],H))
  (oT:(Ak A2 (c::r):Int)≤(r.length:Int)+1) (qT:min (Ak A2 (c::r)) (r.length+1)=Ak A2 (c::r)) :
  ∃H',Ar O zP AM N 91 [.str (c::r)] []=some (.tup [FE 2 ((c::r).take (Ak A2 (c::r))) 0 (if ov then 0 else n),.int .i64 (if ov then 5 else 0)],H'):=by
 generalize Ak A2 (c::r)=m at sU rO oT qT;have g30:AG zP 109=true:=Ds _ (by simp);have g35:AG zP 113=true:=Ds _ (by simp);cases ov
 ·simp only [Bool.false_eq_true,if_false] at he
  subst he;simp [Tryz.func91,Tryz.f91,Ar,AK,Bf,AY,Ai,Ag,grow,A5,Ap,AW,callee,aop,AX,AC,BP,BW,BU,AR,BC,BH,alen,BF,Bc,Be,aun,BQ,BD,BY,BR,BS,BV,Ao,BE,BM,A8,BI,A6,aeq,z40,J6,J7,sz40,ag40,sz3,ag3,sz9,ag9,sz2,ag2,J8,J9,KA,KB,An,DC,D5,AV.known,AV.one,AH.at,pU,qv,sU,rO,go25,go34,g30,g35,oT,qT,Tryz.underlying35,FE]
 ·simp only [if_true] at he
  obtain ⟨te,ve,rfl⟩:=he;simp [Tryz.func91,Tryz.f91,Ar,AK,Bf,AY,Ai,Ag,grow,A5,Ap,AW,callee,aop,AX,AC,BP,BW,BU,AR,BC,BH,alen,BF,Bc,Be,aun,BQ,BD,BY,BR,BS,BV,Ao,BE,BM,A8,BI,A6,aeq,z40,J6,J7,sz40,ag40,sz3,ag3,sz9,ag9,sz2,ag2,J8,J9,KA,KB,An,DC,D5,AV.known,AV.one,AH.at,pU,qv,sU,rO,go25,go34,g30,g35,oT,qT,Tryz.underlying35,FE]
theorem cS (O:Orc) (c:UInt8) (r:List UInt8) (N:Nat) (pU:∀H,O 92 [.int .u8 (c.toNat:Int)] H=some (.bool false,H)) (qv:∀H,O 112 [.int .u8 (c.toNat:Int)] H=some (.bool false,H))
  (uG:∀H,O 114 [.str (c::r)] H=some (.int .i64 (CZ (c::r)),H)) (oT:(CZ (c::r):Int)≤(r.length:Int)+1) :
  ∃H',Ar O zP AM N 91 [.str (c::r)] []=some (if CZ (c::r)=0 then .tup [FE 0 [] 0 0,.int .i64 3] else .tup [FE 3 ((c::r).take (CZ (c::r))) 0 0,.int .i64 0],H'):=by
 generalize CZ (c::r)=m at uG oT;have g36:AG zP 114=true:=Ds _ (by simp)
 by_cases hm:m=0
 ·subst hm
  simp [Tryz.func91,Tryz.f91,Ar,AK,Bf,AY,Ai,Ag,grow,A5,Ap,AW,callee,aop,AX,AC,BP,BW,BU,AR,BC,BH,alen,BF,Bc,Be,aun,BQ,BD,BY,BR,BS,BV,Ao,BE,BM,A8,BI,A6,aeq,z40,J6,J7,sz40,ag40,sz3,ag3,sz9,ag9,sz2,ag2,J8,J9,KA,KB,An,DC,D5,AV.known,AV.one,AH.at,pU,qv,uG,go25,go34,g36,oT,FE]
 ·have hm':((m:Int)==0)=false:=by simp only [beq_eq_false_iff_ne];omega
  simp [Tryz.func91,Tryz.f91,Ar,AK,Bf,AY,Ai,Ag,grow,A5,Ap,AW,callee,aop,AX,AC,BP,BW,BU,AR,BC,BH,alen,BF,Bc,Be,aun,BQ,BD,BY,BR,BS,BV,Ao,BE,BM,A8,BI,A6,aeq,z40,J6,J7,sz40,ag40,sz3,ag3,sz9,ag9,sz2,ag2,J8,J9,KA,KB,An,DC,D5,AV.known,AV.one,AH.at,pU,qv,uG,go25,go34,g36,oT,hm,hm',FE]
theorem go48:AG zP 129=true:=by kernel_rfl
structure Wd where
 kind:Nat
 text:List UInt8
 at_:Nat
 n:Nat
 deriving DecidableEq
def A9 (s:List UInt8):(Nat × List UInt8 × Nat) × Nat :=
 match s with
 |[]=>((0,[],0),3)
 |c::_ =>
  if Bz c then ((if C5 (s.take (Ak Bi s)) then 4 else 1,s.take (Ak Bi s),0),if 31<Ak Bi s then 4 else 0)
  else if A2 c then (if Ba (s.take (Ak A2 s))<9223372036854775808 then ((2,s.take (Ak A2 s),Ba (s.take (Ak A2 s))),0) else ((2,s.take (Ak A2 s),0),5))
  else if CZ s=0 then ((0,[],0),3) else ((3,s.take (CZ s),0),0)
def Dt (c:UInt8):Bool:=c.toNat==32 || c.toNat==9
def lex:Nat→List UInt8→Nat→Bool→Except (Nat × Nat) (List Wd)
 |0,_,_,_ => .ok []
 |_+1,[],_,_ => .ok []
 |n+1,c::r,p,num =>
  if Dt c then lex n r (p+1) false
  else
   let w:=A9 (c::r)
   let e:=if num&&Bz c then 3 else w.2
   if e≠0 then .error (p,e)
   else match lex n ((c::r).drop w.1.2.1.length) (p+w.1.2.1.length) (w.1.1==2) with
    |.ok l => .ok (⟨w.1.1,w.1.2.1,p,w.1.2.2⟩::l)
    |.error x => .error x
def BA (t:Wd):List AV:=[.int .i64 t.kind,.str t.text,.int .i64 t.at_,.int .i64 t.n]
def A3 (l:List Wd):List AV:=l.flatMap BA
def AE (l:List Wd):AV:=if l=[] then .nilSlice else .slice .unk 4 l.length (A3 l)
def JL (w:List UInt8) (p e:Nat):AV := .iface 102 (.vptr [.str w,.int .i64 p,.iface 101 (.int .i64 e)] 0)
def C8:List UInt8:=[119,111,114,100]
def Ec:Except (Nat × Nat) (List Wd)→AV
 |.ok l => .tup [AE l,.nilIface]
 |.error (p,e) => .tup [.nilSlice,JL C8 p e]
theorem cT (t:Wd):lowL 0 (BA t)=true:=rfl
theorem Hq (l:List Wd):lowL 0 (A3 l)=true:=SS 0 BA cT l
theorem KC:∀l:List Wd,(A3 l).length=l.length*4
 |[]=>rfl
 |t::l=>by have:=KC l;simp only [A3,List.flatMap_cons,List.length_append,List.length_cons] at this ⊢;rw [this];simp [BA];omega
noncomputable def c11:Code:=Au Tryz.f60
def HH (s:List UInt8):AV := .tup [.agg [.int .i64 (A9 s).1.1,.str (A9 s).1.2.1,.int .i64 0,.int .i64 (A9 s).1.2.2],.int .i64 (A9 s).2]
def Fi (l:List Wd):AV:=if l=[] then .nilSlice else .slice (.tok 0) 4 l.length (A3 l)
def Du (l:List Wd):AH:=if l=[] then [] else [some (.tok l.length)]
def Eu (l:List Wd) (i:Nat):Bool:=match l.getLast? with
 |some t=>t.kind==2&&t.at_+t.text.length==i
 |none=>false
noncomputable def Gl:Code:=CY (A1 (A1 c11))
noncomputable def Fj:Code:=inC (inC (A1 Gl))
theorem cU:C2 AM Fj=true:=by kernel_rfl
theorem MQ (a:Nat) (b:List UInt8) (c d:Nat):CK zP 171 1 [(0,.agg [.int .i64 a,.str b,.int .i64 c,.int .i64 d])]=some (.slice .full 4 1 [.int .i64 a,.str b,.int .i64 c,.int .i64 d]):=by kernel_rfl
theorem KD (w:List UInt8) (p e:Int):Aq zP 106 [(0,.str w),(1,.int .i64 p),(2,.iface 101 (.int .i64 e))]=some (.agg [.str w,.int .i64 p,.iface 101 (.int .i64 e)]):=by kernel_rfl
theorem K8:AM.imm 106=true:=rfl
theorem zDF (B:Bs) (hB:B.H=[]) (O:Orc) (s:List UInt8) (i:Nat) (v4:AV) (H:AH) (hi:i<s.length) (hs:s.length<9223372036854775807) (hb:s[i].toNat=32∨s[i].toNat=9) (Q:AEx→List AV→AH→Prop)
  (hQ:∀t:List AV,AD B t H (mkT 89 [(0,.str s),(4,v4),(5,.int .i64 ((i+1:Nat):Int))]) H→Q .normal t H) (hl:low H.length v4=true) (hH:AU H.length H=true) :
  Wx O zP AM Fj (mkT 89 [(0,.str s),(4,v4),(5,.int .i64 i)]) H Q:=by
 have hi':(i:Int)<s.length:=by omega
 have w7:IntKind.i64.wrap ((i:Int)+1)=(i:Int)+1:=Ab (by omega) (by omega);rw [DX]
 rcases hb with hb|hb <;>
  simp [Fj,Gl,c11,Tryz.f60,hi,hi',hb,w7]
 all_goals
  refine hQ _ ?_;refine AD.mkT H.length (by simp [hB]) ?_ (by simp) hH;simp;exact ⟨.same rfl rfl,.same rfl hl,.same rfl rfl⟩
theorem cW (B:Bs) (hB:B.H=[]) (O:Orc) (s:List UInt8) (i:Nat) (K:Nat) (T:List UInt8) (M e:Nat) (hi:i<s.length) (hs:s.length<9223372036854775807) (oZ:((s[i].toNat:Int)==32)=false) (oW:((s[i].toNat:Int)==9)=false)
  (rQ:∀H,O 91 [.str (s.drop i)] H=some (.tup [.agg [.int .i64 K,.str T,.int .i64 0,.int .i64 M],.int .i64 e],H)) (hT:i+T.length<9223372036854775807) (Q:AEx→List AV→AH→Prop)
  (hN:e=0→∀t H,AD B t H (mkT 89 [(0,.str s),(4,Fi [⟨K,T,i,M⟩]),(5,.int .i64 ((i+T.length:Nat):Int))]) (Du [⟨K,T,i,M⟩])→Q .normal t H)
  (hE:e≠0→∀t H,Fin zP Tryz.f60 0 4 (Ec (.error (i,e))) [] .ret t H→Q .ret t H) :
  Wx O zP AM Fj (mkT 89 [(0,.str s),(4,.nilSlice),(5,.int .i64 i)]) [] Q:=by
 have hi':(i:Int)<s.length:=by omega
 have hi'':(i:Int)≤s.length:=by omega
 have w7:IntKind.i64.wrap ((i:Int)+(T.length:Int))=(i:Int)+(T.length:Int):=Ab (by omega) (by omega);rw [DX];simp [Fj,Gl,c11,Tryz.f60,hi,hi',hi'',oZ,oW,rQ];refine J0 (fun he => ?_) (fun he => ?_)
 ·simp [KD,K8]
  refine hE he _ _ ?_;rw [Dq];simp [Ec,JL,C8,Tryz.f60]
 ·simp [MQ,F9 (Ty.ec171),w7]
  refine hN (by simpa using he) _ _ ?_;refine AD.view (fun _=>1) 1 (by simp [hB]) (by omega) (by simp [hB]) (by simp [Du]) ?_ (by simp [Du]) (EG.mkT ?_)
  ·intro j hj
   obtain rfl:j=0:=by omega
   simp [Du,AI]
  ·simp [Fi,A3,BA]
   exact ⟨.same rfl rfl,.view 9 _ _ (by simp) (by simp [ren,AL]),.same rfl rfl⟩
theorem cX (B:Bs) (hB:B.H=[]) (O:Orc) (s:List UInt8) (i m:Nat) (cs:List AV) (kd pl:Nat) (tx:List UInt8) (sm:Bool) (K:Nat) (T:List UInt8) (M e:Nat) (hi:i<s.length) (hs:s.length<137438953472)
  (oZ:((s[i].toNat:Int)==32)=false) (oW:((s[i].toNat:Int)==9)=false)
  (c0:cs[m*4]? = some (.int .i64 kd)) (c1:cs[m*4+1]? = some (.str tx)) (c2:cs[m*4+2]? = some (.int .i64 pl)) (qj:lowL 0 cs=true) (hm:m<137438953470) (qq:pl+tx.length≤s.length)
  (pU:∀H,O 92 [.int .u8 (s[i].toNat:Int)] H=some (.bool sm,H))
  (rQ:∀H,O 91 [.str (s.drop i)] H=some (.tup [.agg [.int .i64 K,.str T,.int .i64 0,.int .i64 M],.int .i64 e],H)) (hT:i+T.length<9223372036854775807) (Q:AEx→List AV→AH→Prop) (e':Nat) (he':e'=if sm=true∧kd=2∧pl+tx.length=i then 3 else e)
  (hN:e'=0→∀t H,AD B t H (mkT 89 [(0,.str s),(4,.slice (.tok 0) 4 (m+2) (cs++BA ⟨K,T,i,M⟩)),(5,.int .i64 ((i+T.length:Nat):Int))]) [some (.tok (m+2))]→Q .normal t H)
  (hE:e'≠0→∀t H,Fin zP Tryz.f60 0 4 (Ec (.error (i,e'))) [] .ret t H→Q .ret t H) :
  Wx O zP AM Fj (mkT 89 [(0,.str s),(4,.slice (.tok 0) 4 (m+1) cs),(5,.int .i64 i)]) [some (.tok (m+1))] Q:=by
 have hi':(i:Int)<s.length:=by omega
 have hi'':(i:Int)≤s.length:=by omega
 have w7:IntKind.i64.wrap ((i:Int)+(T.length:Int))=(i:Int)+(T.length:Int):=Ab (by omega) (by omega);have w8:IntKind.i64.wrap (m:Int)=(m:Int):=Ab (by omega) (by omega);have w9:IntKind.i64.wrap ((pl:Int)+(tx.length:Int))=(pl:Int)+(tx.length:Int):=Ab (by omega) (by omega);have p1:(0:Int)<(m:Int)+1:=by omega
 have w10:IntKind.i64.wrap (i:Int)=(i:Int):=Ab (by omega) (by omega);have p2:(m:Int)<(m:Int)+1:=by omega
 have oV:lowL 1 cs=true:=Am (Nat.zero_le 1) cs qj;have hb:m+1+1≤137438953472:=by omega
 rw [DX]
 have done:∀(t:List AV) (l:List (Nat × AV)) (H:AH),t=mkT 89 l→e'=0→l.lookup 0=some (.str s)→l.lookup 4=some (.slice (.tok 0) 4 (m+1+1) (cs++[.int .i64 K,.str T,.int .i64 i,.int .i64 M])) →
   l.lookup 5=some (.int .i64 ((i:Int)+T.length))→H.take 1=[some (.tok (m+1+1))]→Q .normal t H:=by
  rintro t l H rfl h0 h1 h2 h3 h4;refine hN h0 _ _ ?_;refine AD.mkT 1 (by simp [hB]) ?_ h4 (by simp);simp [h1,h2,h3,BA];exact ⟨.same rfl rfl,.same rfl (by simp [oV]),.same rfl rfl⟩
 cases sm
 ·simp at he'
  subst he';simp [Fj,Gl,c11,Tryz.f60,hi,hi',hi'',oZ,oW,rQ,pU,c0,c1,c2,w8,w9,w10,p1,p2];refine J0 (fun he => ?_) (fun he => ?_)
  ·simp [KD,K8]
   refine hE he _ _ ?_;rw [Dq];simp [Ec,JL,C8,Tryz.f60]
  ·simp [MQ,EZ (Ty.ec171),w7,hb]
   refine done _ _ _ rfl (by simpa using he) ?_ ?_ ?_ ?_<;>simp
 ·by_cases hk:(kd:Int)=2
  ·by_cases ha:(pl:Int)+(tx.length:Int)=(i:Int)
   ·rw [if_pos ⟨rfl,by omega,by omega⟩] at he'
    subst he';simp [Fj,Gl,c11,Tryz.f60,hi,hi',hi'',oZ,oW,rQ,pU,c0,c1,c2,w8,w9,w10,p1,p2,hk,ha,KD,K8];refine hE (by decide) _ _ ?_;rw [Dq];simp [Ec,JL,C8,Tryz.f60]
   ·rw [if_neg (fun h=>ha (by omega))] at he'
    subst he';simp [Fj,Gl,c11,Tryz.f60,hi,hi',hi'',oZ,oW,rQ,pU,c0,c1,c2,w8,w9,w10,p1,p2,hk,ha];refine J0 (fun he => ?_) (fun he => ?_)
    ·simp [KD,K8]
     refine hE he _ _ ?_;rw [Dq];simp [Ec,JL,C8,Tryz.f60]
    ·simp [MQ,EZ (Ty.ec171),w7,hb]
     refine done _ _ _ rfl (by simpa using he) ?_ ?_ ?_ ?_<;>simp
  ·rw [if_neg (fun h=>hk (by omega))] at he'
   subst he';simp [Fj,Gl,c11,Tryz.f60,hi,hi',hi'',oZ,oW,rQ,pU,c0,c1,c2,w8,w9,w10,p1,p2,hk];refine J0 (fun he => ?_) (fun he => ?_)
   ·simp [KD,K8]
    refine hE he _ _ ?_;rw [Dq];simp [Ec,JL,C8,Tryz.f60]
   ·simp [MQ,EZ (Ty.ec171),w7,hb]
    refine done _ _ _ rfl (by simpa using he) ?_ ?_ ?_ ?_<;>simp
set_option maxHeartbeats 1000000
inductive Ex where
 |none
 |num (n:Nat)
 |var (s:List UInt8)
 |elem (s:List UInt8) (a:List Ex)
 |neg (e:Ex)
 |bin (k:Nat) (a b:Ex)
 deriving Inhabited
structure St where
 at_:Nat
 deep:Nat
 err:Option (Nat × Nat)
def isS (ts:List Wd) (i:Nat) (s:List UInt8):Bool:=match ts[i]? with
 |some t=>t.kind==3&&t.text==s
 |none=>false
def St.fail (r:St) (p e:Nat):St:=match r.err with
 |none=>⟨r.at_,r.deep,some (p,e)⟩
 |some _=>r
def St.step (r:St):St:=⟨r.at_+1,r.deep,r.err⟩
def Aa (ts:List Wd) (r:St) (s:List UInt8):Bool:=r.err.isNone&&isS ts r.at_ s
def CF (ts:List Wd) (r:St) (s:List UInt8):St:=if Aa ts r s then r.step else r.fail r.at_ 2
abbrev Rd:=St→Ex × St
def DF (ts:List Wd) (of:Rd) (f:List UInt8) (one:Nat) (s:List UInt8) (two:Nat):Nat→Ex→Rd
 |0,e,r=>(e,r)
 |n+1,e,r =>
  if r.err.isSome then (.none,r)
  else if Aa ts r s then DF ts of f one s two n (.bin two e (of r.step).1) (of r.step).2
  else if Aa ts r f then DF ts of f one s two n (.bin one e (of r.step).1) (of r.step).2
  else (e,r)
def Ev (ts:List Wd) (of:Rd) (f:List UInt8) (one:Nat) (s:List UInt8) (two:Nat):Rd:=fun r =>DF ts of f one s two (ts.length+1) (of r).1 (of r).2
def EI:List UInt8:=[43]
def Bb:List UInt8:=[45]
def De:List UInt8:=[42]
def Df:List UInt8:=[47]
def Av:List UInt8:=[40]
def Aw:List UInt8:=[41]
def A4:List UInt8:=[44]
def JM (ts:List Wd) (fac:Rd):Rd:=Ev ts fac De 7 Df 8
def CM (ts:List Wd) (fac:Rd):Rd:=Ev ts (JM ts fac) EI 5 Bb 6
def inF (p:Nat) (of:Rd):Rd:=fun r =>
 let r2:=if r.deep+1>20 then (⟨r.at_,r.deep+1,r.err⟩:St).fail p 4 else ⟨r.at_,r.deep+1,r.err⟩
 if r2.err.isNone then ((of r2).1,⟨(of r2).2.at_,(of r2).2.deep-1,(of r2).2.err⟩) else (.none,⟨r2.at_,r2.deep-1,r2.err⟩)
def DG (ts:List Wd) (sum:Rd):Nat→List Ex→St→List Ex × St
 |0,a,r=>(a,r)
 |n+1,a,r =>
  if Aa ts (sum r).2 A4 then
   DG ts sum n (a++[(sum r).1]) (if a.length+1==4 then (sum r).2.fail (sum r).2.at_ 4 else (sum r).2).step
  else (a++[(sum r).1],(sum r).2)
def EJ (ts:List Wd) (sum:Rd) (s:List UInt8):Rd:=fun r =>
 if Aa ts r.step Av then
  (.elem s (DG ts sum 6 [] r.step.step).1,CF ts (DG ts sum 6 [] r.step.step).2 Aw)
 else (.var s,r.step)
def Cl (ts:List Wd) (sum fac:Rd):Rd:=fun r =>
 match r.err,ts[r.at_]? with
 |none,some t =>
  if t.kind==2 then (.num t.n,r.step)
  else if t.kind==1 then EJ ts sum t.text r
  else if isS ts r.at_ Bb then (.neg (inF r.at_ fac r.step).1,(inF r.at_ fac r.step).2)
  else if isS ts r.at_ Av then ((inF r.at_ sum r.step).1,CF ts (inF r.at_ sum r.step).2 Aw)
  else (.none,r.fail r.at_ 2)
 |_,_=>(.none,r.fail r.at_ 2)
def fac (ts:List Wd):Nat→Rd
 |0=>fun r=>(.none,r)
 |n+1=>Cl ts (CM ts (fac ts n)) (fac ts n)
def B6 (ts:List Wd) (r:St):Ex × St:=CM ts (fac ts (ts.length+1)) r
def B0 (ts:List Wd):Ex × Nat × Option (Nat × Nat) :=
 match (B6 ts ⟨0,0,none⟩).2.err with
 |none=>((B6 ts ⟨0,0,none⟩).1,(B6 ts ⟨0,0,none⟩).2.at_,none)
 |some x=>(.none,0,some x)
def Cc:List (List UInt8):=[[60],[60,61],[62],[62,61],[61,61],[47,61]]
def Fk (s:List UInt8):Bool:=Cc.contains s
def CQ (ts:List Wd) (r:St):List UInt8 × St :=
 match r.err with
 |some _=>([],r)
 |none=>(match ts[r.at_]? with
  |some t=>if t.kind==3&&Fk t.text then (t.text,r.step) else ([],r.fail r.at_ 2)
  |none=>([],r.fail r.at_ 2))
def CR (ts:List Wd):(List UInt8 × Ex × Ex) × Nat × Option (Nat × Nat) :=
 let a:=B6 ts ⟨0,0,none⟩
 let m:=CQ ts a.2
 let b:=B6 ts m.2
 match b.2.err with
 |none=>((m.1,a.1,b.1),b.2.at_,none)
 |some x=>(([],.none,.none),0,some x)
def Cs (ts:List Wd) (of:Rd) (f:List UInt8) (one:Nat) (s:List UInt8) (two:Nat):Nat→Ex→Rd
 |0,e,r=>(e,r)
 |n+1,e,r =>
  if Aa ts r f then Cs ts of f one s two n (.bin one e (of r.step).1) (of r.step).2
  else if Aa ts r s then Cs ts of f one s two n (.bin two e (of r.step).1) (of r.step).2
  else (e,r)
def FF (ts:List Wd) (of:Rd) (f:List UInt8) (one:Nat) (s:List UInt8) (two:Nat):Rd:=fun r =>Cs ts of f one s two (ts.length+1) (of r).1 (of r).2
def Oq (ts:List Wd) (fac:Rd):Rd:=FF ts fac De 7 Df 8
def Bq (ts:List Wd) (fac:Rd):Rd:=FF ts (Oq ts fac) EI 5 Bb 6
def Fl (of:Rd):Rd:=fun r=>((of ⟨r.at_,r.deep+1,r.err⟩).1,⟨(of ⟨r.at_,r.deep+1,r.err⟩).2.at_,r.deep,(of ⟨r.at_,r.deep+1,r.err⟩).2.err⟩)
def Dv (ts:List Wd) (sum:Rd):Nat→List Ex→St→List Ex × St
 |0,a,r=>(a,r)
 |n+1,a,r =>
  if Aa ts r A4 then
   (if 4≤a.length then (a,r.fail r.at_ 4) else Dv ts sum n (a++[(sum r.step).1]) (sum r.step).2)
  else (a,CF ts r Aw)
def C9 (ts:List Wd) (sum:Rd) (r:St):List Ex × St:=Dv ts sum 5 [(sum r).1] (sum r).2
def CN (ts:List Wd) (sum fac:Rd):Rd:=fun r =>
 match r.err,ts[r.at_]? with
 |none,some t =>
  if t.kind==2 then (.num t.n,r.step)
  else if t.kind==1 then
   (if Aa ts r.step Av then (.elem t.text (C9 ts sum r.step.step).1,(C9 ts sum r.step.step).2) else (.var t.text,r.step))
  else if isS ts r.at_ Bb || isS ts r.at_ Av then
   (if 20≤r.deep then (.none,r.fail r.at_ 4)
   else if isS ts r.at_ Bb then (.neg (Fl fac r.step).1,(Fl fac r.step).2)
   else ((Fl sum r.step).1,CF ts (Fl sum r.step).2 Aw))
  else (.none,r.fail r.at_ 2)
 |_,_=>(.none,r.fail r.at_ 2)
def Ax (ts:List Wd):Nat→Rd
 |0=>fun r=>(.none,r)
 |n+1=>CN ts (Bq ts (Ax ts n)) (Ax ts n)
def Bv (ts:List Wd) (r:St):Ex × St:=Bq ts (Ax ts (ts.length+1)) r
def okS (a b:St):Prop:=a.err=b.err∧(a.err=none→a=b)
def okX (x y:Ex × St):Prop:=okS x.2 y.2∧(x.2.err=none→x.1=y.1)
def MR (of:Rd):Prop:=∀r x,r.err=some x→(of r).2.err=some x
def okR (f g:Rd):Prop:=(∀r,okX (f r) (g r))∧MR f∧MR g∧(∀r,(f r).2.deep=r.deep)∧(∀r,(g r).2.deep=r.deep)
theorem okX.run {f g:Rd} (h:okR f g) {a b:St} (hs:okS a b):okX (f a) (g b):=by
 obtain ⟨h1,h2,h3,_,_⟩:=h;cases he:a.err with
 |none =>obtain rfl:=hs.2 he;exact h1 a
 |some x =>
  have hb:b.err=some x:=by rw [←hs.1,he]
  have e1:=h2 a x he;have e2:=h3 b x hb;exact ⟨⟨by rw [e1,e2],fun h=>by rw [e1] at h;cases h⟩,fun h=>by rw [e1] at h;cases h⟩
theorem MS (r:St) (p e:Nat):(r.fail p e).err=some (r.err.getD (p,e)):=by unfold St.fail;split<;>simp_all
theorem MT {r:St} {x:Nat × Nat} (h:r.err=some x) (p e:Nat):r.fail p e=r:=by unfold St.fail;simp [h]
theorem IT (r:St) (p e:Nat):(r.fail p e).deep=r.deep:=by unfold St.fail;split<;>rfl
theorem KE {ts:List Wd} {r:St} {x:Nat × Nat} (h:r.err=some x) (s:List UInt8):Aa ts r s=false:=by simp [Aa,h]
theorem JN {ts:List Wd} {r:St} {x:Nat × Nat} (h:r.err=some x) (s:List UInt8):CF ts r s=r:=by simp [CF,KE h,MT h]
theorem MU (ts:List Wd) (r:St) (s:List UInt8):(CF ts r s).deep=r.deep:=by unfold CF;split<;>simp [St.step,IT]
theorem okS.must {ts:List Wd} {a b:St} (h:okS a b) (s:List UInt8):okS (CF ts a s) (CF ts b s):=by
 cases he:a.err with
 |none=>obtain rfl:=h.2 he;exact ⟨rfl,fun _=>rfl⟩
 |some x =>
  have hb:b.err=some x:=by rw [←h.1,he]
  rw [JN he,JN hb];exact h
theorem cY {ts:List Wd} {i:Nat} {f s:List UInt8} (oL:f≠s) (h1:isS ts i f=true):isS ts i s=false:=by
 unfold isS at h1 ⊢
 split at h1
 ·simp at h1 ⊢;intro _;rw [h1.2];exact oL
 ·cases h1
theorem Ot {ts:List Wd} {of og:Rd} (ho:okR of og) {f s:List UInt8} (oL:f≠s) (one two:Nat):∀(n:Nat) {e1 e2:Ex} {a b:St},okX (e1,a) (e2,b) →
  okX (DF ts of f one s two n e1 a) (Cs ts og f one s two n e2 b)
 |0,_,_,_,_,h=>h
 |n+1,e1,e2,a,b,h=>by
  cases he:a.err with
  |some x =>
   have hb:b.err=some x:=by rw [←h.1.1,he]
   simp only [DF,Cs,he,Option.isSome_some,if_true,KE hb,Bool.false_eq_true,if_false];exact ⟨⟨by rw [he,hb],fun h=>by rw [he] at h;cases h⟩,fun h=>by rw [he] at h;cases h⟩
  |none =>
   obtain rfl:=h.1.2 he;obtain rfl:=h.2 he;have key:=okX.run ho (a:=a.step) (b:=a.step) ⟨rfl,fun _=>rfl⟩;simp only [DF,Cs,he,Option.isSome_none,Bool.false_eq_true,if_false]
   by_cases h1:Aa ts a f=true
   ·have h2:Aa ts a s=false:=by
     simp only [Aa,he,Option.isNone_none,Bool.true_and] at h1 ⊢;exact cY oL h1
    rw [h1,h2];simp only [Bool.false_eq_true,if_false,if_true];exact Ot ho oL one two n ⟨key.1,fun h=>by rw [key.2 h]⟩
   ·rw [Bool.not_eq_true] at h1
    rw [h1];simp only [Bool.false_eq_true,if_false]
    split
    ·exact Ot ho oL one two n ⟨key.1,fun h=>by rw [key.2 h]⟩
    ·exact ⟨⟨rfl,fun _=>rfl⟩,fun _=>rfl⟩
theorem cZ {ts:List Wd} {of:Rd} {f s:List UInt8} {one two:Nat} (n:Nat) (e:Ex) {r:St} {x:Nat × Nat} (h:r.err=some x):(DF ts of f one s two n e r).2.err=some x:=by
 cases n with
 |zero=>exact h
 |succ n=>simp [DF,h]
theorem zDG {ts:List Wd} {of:Rd} {f s:List UInt8} {one two:Nat} (n:Nat) (e:Ex) {r:St} {x:Nat × Nat} (h:r.err=some x):(Cs ts of f one s two n e r).2.err=some x:=by
 cases n with
 |zero=>exact h
 |succ n=>simp [Cs,KE h,h]
theorem Ou {ts:List Wd} {of:Rd} (ho:∀r,(of r).2.deep=r.deep) {f s:List UInt8} {one two:Nat}:∀(n:Nat) (e:Ex) (r:St),(DF ts of f one s two n e r).2.deep=r.deep
 |0,_,_=>rfl
 |n+1,e,r=>by
  simp only [DF]
  split
  ·rfl
  ·split
   ·rw [Ou ho n,ho];rfl
   ·split
    ·rw [Ou ho n,ho];rfl
    ·rfl
theorem Ov {ts:List Wd} {of:Rd} (ho:∀r,(of r).2.deep=r.deep) {f s:List UInt8} {one two:Nat}:∀(n:Nat) (e:Ex) (r:St),(Cs ts of f one s two n e r).2.deep=r.deep
 |0,_,_=>rfl
 |n+1,e,r=>by
  simp only [Cs]
  split
  ·rw [Ov ho n,ho];rfl
  ·split
   ·rw [Ov ho n,ho];rfl
   ·rfl
theorem KF {ts:List Wd} {of og:Rd} (ho:okR of og) {f s:List UInt8} (oL:f≠s) (one two:Nat):okR (Ev ts of f one s two) (FF ts og f one s two) :=
 ⟨fun r=>Ot ho oL one two _ (ho.1 r),fun r x h=>cZ _ _ (ho.2.1 r x h),fun r x h=>zDG _ _ (ho.2.2.1 r x h),
  fun r=>by rw [Ev,Ou ho.2.2.2.1];exact ho.2.2.2.1 r,fun r=>by rw [FF,Ov ho.2.2.2.2];exact ho.2.2.2.2 r⟩
theorem IU {ts:List Wd} {f g:Rd} (h:okR f g):okR (CM ts f) (Bq ts g) :=KF (KF h (by decide) 7 8) (by decide) 5 6
theorem S3 {f g:Rd} (h:okR f g) (p:Nat) (r:St) (hd:¬20≤r.deep):okX (inF p f r) (Fl g r):=by
 have h1:¬r.deep+1>20:=by omega
 have key:=okX.run h (a:=⟨r.at_,r.deep+1,r.err⟩) (b:=⟨r.at_,r.deep+1,r.err⟩) ⟨rfl,fun _=>rfl⟩;have d1:=h.2.2.2.1 ⟨r.at_,r.deep+1,r.err⟩;have d2:=h.2.2.2.2 ⟨r.at_,r.deep+1,r.err⟩;simp only [inF,if_neg h1,Fl];cases he:r.err with
 |none =>rw [he] at key d1 d2;simp only [Option.isNone_none,if_true];refine ⟨⟨key.1.1,fun h => ?_⟩,fun h=>key.2 h⟩;have:=key.1.2 h;simp only at d1;simp [this,d2]
 |some x =>rw [he] at key;have e2:=h.2.2.1 ⟨r.at_,r.deep+1,some x⟩ x rfl;simp only [Option.isNone_some,Bool.false_eq_true,if_false];exact ⟨⟨by simp [e2],fun h=>by cases h⟩,fun h=>by cases h⟩
theorem S4 (p:Nat) {f:Rd} (hf:∀r,(f r).2.deep=r.deep) (r:St):(inF p f r).2.deep=r.deep:=by
 by_cases hd:r.deep+1>20
 ·cases h:r.err with
  |none=>simp [inF,hd,h,St.fail]
  |some x=>simp [inF,hd,h,St.fail]
 ·cases h:r.err with
  |none=>simp [inF,hd,h,hf]
  |some x=>simp [inF,hd,h]
theorem S5 (p:Nat) (f:Rd) (r:St) (hd:20≤r.deep) (he:r.err=none):(inF p f r).2.err=some (p,4):=by
 have h1:r.deep+1>20:=by omega
 simp [inF,h1,St.fail,he]
theorem S6 {ts:List Wd} {f g:Rd} (h:okR f g):∀(n:Nat) (a1 a2:List Ex) (r q:St),okS r q→(r.err=none→a1=a2)→a1.length=a2.length→a1.length<4→n+a1.length=5 →
  okS (CF ts (DG ts f (n+1) a1 r).2 Aw) (Dv ts g n (a2++[(g q).1]) (g q).2).2 ∧
  ((CF ts (DG ts f (n+1) a1 r).2 Aw).err=none→(DG ts f (n+1) a1 r).1=(Dv ts g n (a2++[(g q).1]) (g q).2).1)
 |0,a1,_,_,_,_,_,_,h4,h5=>by omega
 |n+1,a1,a2,r,q,hs,ha,hl,h4,h5=>by
  have key:=okX.run h hs;cases he:(f r).2.err with
  |some x =>
   have hb:(g q).2.err=some x:=by rw [←key.1.1,he]
   simp only [DG,Dv,KE he,KE hb,Bool.false_eq_true,if_false,JN he,JN hb];exact ⟨key.1,fun hh=>by rw [he] at hh;cases hh⟩
  |none =>
   have er:r.err=none:=by
    cases hr:r.err with
    |none=>rfl
    |some x=>rw [h.2.1 r x hr] at he;cases he
   obtain rfl:=ha er;have e1:=key.2 he;have e2:=key.1.2 he;rw [←e1,←e2];generalize oS:(f r).2=st;generalize pq:(f r).1=e;rw [oS] at he;simp only [DG,Dv,oS,pq]
   by_cases hc:Aa ts st A4=true
   ·simp only [hc,if_true]
    by_cases h3:a1.length+1=4
    ·have h3':(a1.length+1==4)=true:=by simp [h3]
     have h3'':4≤(a1++[e]).length:=by simp;omega
     simp only [h3',if_true,h3''];have e3:(st.fail st.at_ 4).step.err=some (st.at_,4):=by simp [St.step,MS,he]
     have e4:=h.2.1 _ _ e3;simp only [DG,KE e4,Bool.false_eq_true,if_false,JN e4];exact ⟨⟨by simp [e4,MS,he],fun hh=>by rw [e4] at hh;cases hh⟩,fun hh=>by rw [e4] at hh;cases hh⟩
    ·have h3':(a1.length+1==4)=false:=by rw [beq_eq_false_iff_ne];exact h3
     have h3'':¬4≤(a1++[e]).length:=by simp;omega
     simp only [h3',if_neg h3'',Bool.false_eq_true,if_false];refine S6 h n (a1++[e]) (a1++[e]) st.step st.step ⟨rfl,fun _=>rfl⟩ (fun _=>rfl) rfl ?_ ?_
     all_goals
      rw [List.length_append];simp only [List.length_cons,List.length_nil];omega
   ·rw [Bool.not_eq_true] at hc
    simp only [hc,Bool.false_eq_true,if_false];exact ⟨⟨rfl,fun _=>rfl⟩,by simp⟩
theorem S7 {ts:List Wd} {f:Rd} (h:∀r,(f r).2.deep=r.deep):∀(n:Nat) (a:List Ex) (r:St),(DG ts f n a r).2.deep=r.deep
 |0,_,_=>rfl
 |n+1,a,r=>by
  simp only [DG]
  split
  ·rw [S7 h n]
   split
   ·simp [St.step,IT,h]
   ·simp [St.step,h]
  ·exact h r
theorem S8 {ts:List Wd} {f:Rd} (h:∀r,(f r).2.deep=r.deep):∀(n:Nat) (a:List Ex) (r:St),(Dv ts f n a r).2.deep=r.deep
 |0,_,_=>rfl
 |n+1,a,r=>by
  simp only [Dv]
  split
  ·split
   ·simp [IT]
   ·rw [S8 h n,h];rfl
  ·simp [MU]
theorem cd {ts:List Wd} {f g sf sg:Rd} (h:okR f g) (hs:okR sf sg):okR (Cl ts sf f) (CN ts sg g):=by
 refine ⟨fun r => ?_,fun r x he => ?_,fun r x he => ?_,fun r => ?_,fun r => ?_⟩
 ·have same:∀x:Ex × St,okX x x:=fun x=>⟨⟨rfl,fun _=>rfl⟩,fun _=>rfl⟩
  have odd:∀x,r.err=some x∨ts[r.at_]? = Option.none→okX (Cl ts sf f r) (CN ts sg g r):=by
   intro x hx
   have e1:Cl ts sf f r=(.none,r.fail r.at_ 2):=by
    unfold Cl;split
    ·rcases hx with hx|hx<;>simp_all
    ·rfl
   have e2:CN ts sg g r=(.none,r.fail r.at_ 2):=by
    unfold CN;split
    ·rcases hx with hx|hx<;>simp_all
    ·rfl
   rw [e1,e2];exact same _
  cases he:r.err with
  |some x=>exact odd x (.inl he)
  |none =>
  cases ht:ts[r.at_]? with
  |none=>exact odd (0,0) (.inr ht)
  |some t =>
   simp only [Cl,CN,he,ht]
   split
   ·exact same _
   ·split
    ·unfold EJ
     split
     ·have key:=S6 (ts:=ts) hs 5 [] [] r.step.step r.step.step ⟨rfl,fun _=>rfl⟩ (fun _=>rfl) rfl (by decide) rfl
      exact ⟨key.1,fun hh=>by rw [key.2 hh];rfl⟩
     ·exact same _
    ·by_cases hm:isS ts r.at_ Bb=true
     ·simp only [hm,Bool.true_or,if_true]
      by_cases hd:20≤r.deep
      ·have e1:=S5 r.at_ f r.step hd (by simpa [St.step] using he)
       simp only [if_pos hd];exact ⟨⟨by simp [e1,MS,he],fun hh=>by rw [e1] at hh;cases hh⟩,fun hh=>by rw [e1] at hh;cases hh⟩
      ·simp only [if_neg hd]
       have key:=S3 h r.at_ r.step hd;exact ⟨key.1,fun hh=>by rw [key.2 hh]⟩
     ·rw [Bool.not_eq_true] at hm
      simp only [hm,Bool.false_or,Bool.false_eq_true,if_false]
      split
      ·by_cases hd:20≤r.deep
       ·have e1:=S5 r.at_ sf r.step hd (by simpa [St.step] using he)
        simp only [if_pos hd,JN e1];exact ⟨⟨by simp [e1,MS,he],fun hh=>by rw [e1] at hh;cases hh⟩,fun hh=>by rw [e1] at hh;cases hh⟩
       ·simp only [if_neg hd]
        have key:=S3 hs r.at_ r.step hd;refine ⟨key.1.must _,fun hh=>key.2 ?_⟩;cases hx:(inF r.at_ sf r.step).2.err with
        |none=>rfl
        |some x=>rw [JN hx,hx] at hh;cases hh
      ·exact same _
 ·simp only [Cl,he,MT he]
 ·simp only [CN,he,MT he]
 ·unfold Cl
  split
  ·split
   ·rfl
   ·split
    ·unfold EJ
     split
     ·simp [MU,S7 hs.2.2.2.1,St.step]
     ·rfl
    ·split
     ·simp [S4 _ h.2.2.2.1,St.step]
     ·split
      ·simp [MU,S4 _ hs.2.2.2.1,St.step]
      ·simp [IT]
  ·simp [IT]
 ·unfold CN
  split
  ·split
   ·rfl
   ·split
    ·split
     ·simp [C9,S8 hs.2.2.2.2,hs.2.2.2.2,St.step]
     ·rfl
    ·split
     ·split
      ·simp [IT]
      ·split
       ·simp [Fl,St.step]
       ·simp [MU,Fl,St.step]
     ·simp [IT]
  ·simp [IT]
theorem FG (ts:List Wd):∀n,okR (fac ts n) (Ax ts n)
 |0=>⟨fun _=>⟨⟨rfl,fun _=>rfl⟩,fun _=>rfl⟩,fun _ _ h=>h,fun _ _ h=>h,fun _=>rfl,fun _=>rfl⟩
 |n+1=>cd (FG ts n) (IU (FG ts n))
theorem Ow (ts:List Wd) {r q:St} (h:okS r q):okX (B6 ts r) (Bv ts q):=okX.run (IU (FG ts _)) h
def K9 (ts:List Wd):Ex × Nat × Option (Nat × Nat) :=
 match (Bv ts ⟨0,0,none⟩).2.err with
 |none=>((Bv ts ⟨0,0,none⟩).1,(Bv ts ⟨0,0,none⟩).2.at_,none)
 |some x=>(.none,0,some x)
theorem S9 (ts:List Wd):K9 ts=B0 ts:=by
 have h:=Ow ts (r:=⟨0,0,none⟩) (q:=⟨0,0,none⟩) ⟨rfl,fun _=>rfl⟩;unfold K9 B0;cases he:(B6 ts ⟨0,0,none⟩).2.err with
 |none =>rw [←h.1.1,he,h.2 he,h.1.2 he]
 |some x=>rw [←h.1.1,he]
def LA (ts:List Wd):(List UInt8 × Ex × Ex) × Nat × Option (Nat × Nat) :=
 match (CQ ts (Bv ts ⟨0,0,none⟩).2).2.err with
 |some x=>(([],.none,.none),0,some x)
 |none=>(match (Bv ts (CQ ts (Bv ts ⟨0,0,none⟩).2).2).2.err with
  |none=>(((CQ ts (Bv ts ⟨0,0,none⟩).2).1,(Bv ts ⟨0,0,none⟩).1,(Bv ts (CQ ts (Bv ts ⟨0,0,none⟩).2).2).1),(Bv ts (CQ ts (Bv ts ⟨0,0,none⟩).2).2).2.at_,none)
  |some x=>(([],.none,.none),0,some x))
theorem TA {ts:List Wd} {r:St} {x:Nat × Nat} (h:r.err=some x):CQ ts r=([],r):=by simp [CQ,h]
theorem TB (ts:List Wd):LA ts=CR ts:=by
 have h:=Ow ts (r:=⟨0,0,none⟩) (q:=⟨0,0,none⟩) ⟨rfl,fun _=>rfl⟩;have keep:MR (B6 ts):=(IU (ts:=ts) (FG ts (ts.length+1))).2.1;unfold LA CR;simp only;cases he:(B6 ts ⟨0,0,none⟩).2.err with
 |some x =>
  have he':(Bv ts ⟨0,0,none⟩).2.err=some x:=by rw [←h.1.1,he]
  rw [TA he,TA he'];simp only [he'];rw [show (B6 ts (B6 ts ⟨0,0,none⟩).2).2.err=some x from keep _ _ he]
 |none =>
  rw [←h.1.2 he,←h.2 he];cases hm:(CQ ts (B6 ts ⟨0,0,none⟩).2).2.err with
  |some x =>simp only;rw [show (B6 ts (CQ ts (B6 ts ⟨0,0,none⟩).2).2).2.err=some x from keep _ _ hm]
  |none =>
   have h2:=Ow ts (r:=(CQ ts (B6 ts ⟨0,0,none⟩).2).2) (q:=(CQ ts (B6 ts ⟨0,0,none⟩).2).2) ⟨rfl,fun _=>rfl⟩;simp only;rw [←h2.1.1];cases h3:(B6 ts (CQ ts (B6 ts ⟨0,0,none⟩).2).2).2.err with
   |some x=>rfl
   |none =>simp only;rw [h2.2 h3,h2.1.2 h3]
abbrev Er:=Option (List (List UInt8 × Nat) × Nat)
def Bl:List UInt8:=[115,116,109,116]
def Hr:List UInt8:=[101,120,112,114]
def KG:List UInt8:=[119,111,114,100]
structure Sr where
 at_:Nat
 err:Er
 deriving DecidableEq
def Sr.fail (r:Sr) (p e:Nat):Sr:=⟨r.at_,some (r.err.getD ([(Bl,p)],e))⟩
def Sr.step (r:Sr):Sr:=⟨r.at_+1,r.err⟩
def isK (ts:List Wd) (i:Nat) (k:Nat) (s:List UInt8):Bool:=match ts[i]? with
 |some w=>w.kind==k&&(s==[] || w.text==s)
 |none=>false
def isW (ts:List Wd) (r:Sr) (k:Nat) (s:List UInt8):Bool:=r.err.isNone&&isK ts r.at_ k s
def CG (ts:List Wd) (r:Sr) (k:Nat) (s:List UInt8):Sr:=if isW ts r k s then r.step else r
def wd0:Wd:=⟨0,[],0,0⟩
def BK (ts:List Wd) (r:Sr) (k:Nat) (s:List UInt8):Wd × Sr:=if isW ts r k s then ((ts[r.at_]?).getD wd0,r.step) else (wd0,r.fail r.at_ 2)
def Fm {α:Type} (ts:List Wd) (none_:α) (of:List Wd→α × Nat × Option (Nat × Nat)) (r:Sr):α × Sr :=
 match r.err with
 |some _=>(none_,r)
 |none=>(match (of (ts.drop r.at_)).2.2 with
  |some (p,c)=>(none_,⟨r.at_,some ([(Bl,r.at_+p),(Hr,p)],c)⟩)
  |none=>((of (ts.drop r.at_)).1,⟨r.at_+(of (ts.drop r.at_)).2.1,none⟩))
def Ct (ts:List Wd) (r:Sr):Ex × Sr:=Fm ts .none B0 r
def Fo (ts:List Wd) (r:Sr):(List UInt8 × Ex × Ex) × Sr:=Fm ts ([],.none,.none) CR r
def Hs:List Wd→Nat→Nat
 |[],_=>0
 |w::l,d =>
  if w.kind=3 then
   (if (if w.text=Av then d+1 else if w.text=Aw then d-1 else d)=0 then 1
    else 1+Hs l (if w.text=Av then d+1 else if w.text=Aw then d-1 else d))
  else 1+Hs l d
def HI (ts:List Wd) (i:Nat):Nat:=if isK ts (i+1) 3 Av then i+1+Hs (ts.drop (i+1)) 0 else i+1
def toW (ts:List Wd) (r:Sr):Ex × Sr :=
 if isW ts r 1 [] then Fm ts .none (fun l=>B0 (l.take (HI ts r.at_-r.at_))) r
 else (.none,r.fail r.at_ 2)
structure It where
 name:List UInt8
 dims:List Int
 deriving DecidableEq
def Dw (ts:List Wd):Nat→List Int→Sr→List Int × Sr
 |0,d,r=>(d,r)
 |n+1,d,r =>
  match r.err with
  |some _=>(d,r)
  |none =>
   let m:=BK ts r 2 []
   let r1:=if m.1.n=0 then m.2.fail r.at_ 1 else m.2
   let d1:=d++[(m.1.n:Int)]
   if isW ts r1 3 A4 then Dw ts n d1 (if d1.length=4 then r1.fail r1.at_ 4 else r1).step else (d1,r1)
def EK (ts:List Wd) (r:Sr):It × Sr :=
 let m:=BK ts r 1 []
 if isW ts m.2 3 Av then
  (⟨m.1.text,(Dw ts 5 [] m.2.step).1⟩,(BK ts (Dw ts 5 [] m.2.step).2 3 Aw).2)
 else (⟨m.1.text,[]⟩,m.2)
def IV (ts:List Wd):Nat→List It→Sr→List It × Sr
 |0,l,r=>(l,r)
 |n+1,l,r=>if isW ts r 3 A4 then IV ts n (l++[(EK ts r.step).1]) (EK ts r.step).2 else (l,r)
def Gm (ts:List Wd) (r:Sr):List It × Sr:=IV ts (ts.length+1) [(EK ts r).1] (EK ts r).2
def MV (n:Nat):Int:=IntKind.i64.wrap (0-(n:Int))
def Gn (ts:List Wd) (r:Sr):Int × Sr :=
 if isW ts r 3 A4 then
  (if isW ts r.step 3 Bb then (MV (BK ts r.step.step 2 []).1.n,(BK ts r.step.step 2 []).2)
   else (((BK ts r.step 2 []).1.n:Int),(BK ts r.step 2 []).2))
 else (1,r)
structure Sm where
 kind:Nat:=0
 items:List It:=[]
 to:Ex := .none
 e:Ex := .none
 op:List UInt8:=[]
 ca:Ex := .none
 cb:Ex := .none
 name:List UInt8:=[]
 lo:Ex := .none
 hi:Ex := .none
 step:Int:=0
 deriving Inhabited
def IW:List UInt8:=[105,110,116,101,103,101,114]
def doT:List UInt8:=[100,111]
def HJ:List UInt8:=[101,110,100]
def ifT:List UInt8:=[105,102]
def Gp:List UInt8:=[116,104,101,110]
def IX:List UInt8:=[101,108,115,101]
def IY:List UInt8:=[114,101,97,100]
def IZ:List UInt8:=[112,114,105,110,116]
def isT:List UInt8:=[61]
def doW (ts:List Wd) (r:Sr):Sm × Sr :=
 let m:=BK ts r 1 []
 let a:=Ct ts (BK ts m.2 3 isT).2
 let b:=Ct ts (BK ts a.2 3 A4).2
 let s:=Gn ts b.2
 ({kind:=3,name:=m.1.text,lo:=a.1,hi:=b.1,step:=s.1},s.2)
def ifW (ts:List Wd) (r:Sr):Sm × Sr :=
 let c:=Fo ts (BK ts r 3 Av).2
 ({kind:=5,op:=c.1.1,ca:=c.1.2.1,cb:=c.1.2.2},(BK ts (BK ts c.2 3 Aw).2 4 Gp).2)
def HK (ts:List Wd) (word:List UInt8) (r:Sr):Sm × Sr :=
 if word=IW then ({kind:=1,items:=(Gm ts r).1},(Gm ts r).2)
 else if word=doT then doW ts r
 else if word=HJ then (if isW ts r 4 ifT then ({kind:=7},r.step) else ({kind:=4},(BK ts r 4 doT).2))
 else if word=ifT then ifW ts r
 else if word=IX then ({kind:=6},r)
 else if word=IY then ({kind:=8,to:=(toW ts r).1},(toW ts r).2)
 else if word=IZ then ({kind:=9,e:=(Ct ts r).1},(Ct ts r).2)
 else ({},r.fail 0 2)
def Ox (ts:List Wd) (r:Sr):Sm × Sr :=
 let a:=toW ts r
 let b:=Ct ts (BK ts a.2 3 isT).2
 ({kind:=2,to:=a.1,e:=b.1},b.2)
def EL (ts:List Wd):Sm × Sr :=
 match ts[0]? with
 |none=>({},⟨0,none⟩)
 |some w=>if w.kind=4 then HK ts w.text ⟨1,none⟩ else if w.kind=1 then Ox ts ⟨0,none⟩ else ({},⟨0,some ([(Bl,0)],2)⟩)
def MW (ts:List Wd):Sm × Er :=
 if ts=[] then ({},none)
 else
  let r:=if (EL ts).2.at_<ts.length then (EL ts).2.fail (EL ts).2.at_ 2 else (EL ts).2
  match r.err with
  |some x=>({},some x)
  |none=>((EL ts).1,none)
def KH (body:List UInt8):Sm × Er:=match lex (body.length+1) body 0 false with
 |.error (p,e)=>({},some ([(Bl,0),(KG,p)],e))
 |.ok ts=>MW ts
end Go.Proofs.YtmjfldclpijghaaGreatDoor
namespace Go.Proofs.YtmjfldclpijghaaGreatDoor.As
open Go.RowKit Go.Extern.Stop Go.Stop Go.Extern
set_option maxRecDepth 100000
theorem Oy (h:Value) (w:World):(Go.method 432 187 (.agg #[h]) "Kind").run Tryz.prog w = .ok (186,h) w:=by kernel_rfl
theorem Oz (h:Value) (w:World):(Go.method 432 187 (.agg #[h]) "Elem").run Tryz.prog w = .ok (198,.agg #[h]) w:=by kernel_rfl
theorem O3 (h:Value) (w:World):(Go.method 432 187 (.agg #[h]) "Implements").run Tryz.prog w = .ok (199,.agg #[h]) w:=by kernel_rfl
theorem O4 (h:Value) (w:World):(Go.method 432 187 (.agg #[h]) "AssignableTo").run Tryz.prog w = .ok (196,.agg #[h]) w:=by kernel_rfl
theorem methodComparable (h:Value) (w:World):(Go.method 432 187 (.agg #[h]) "Comparable").run Tryz.prog w = .ok (197,.agg #[h]) w:=by kernel_rfl
theorem rlm (z:Sem Value) (f:TypeId→Addr→Nat→Nat→Sem Value) (v:Value) :
  ReflectliteValue.method z f #[v]=(do match ←ReflectliteValue.parts v with|none=>z|some (t,a,fl)=>f t a fl (fl % 32)):=rfl
theorem rls (v x:Value):ReflectliteValue.set #[v,x]=(do
  let (some (dst,a,fl),some (src,b,_)):=(←ReflectliteValue.parts v,←ReflectliteValue.parts x)
   |unsupported (.noEntry "extern/(internal/reflectlite.Value).Set.zeroValue")
  if fl / ReflectliteValue.flagAddr % 2==0 then unsupported (.noEntry "extern/(internal/reflectlite.Value).Set.unaddressable")
  let val ←loadVar src b
  if ←Rtype.directlyAssignable dst src then storeVar dst a val
  else if ←Rtype.implements dst src then
   if (←Rtype.kind src)==20 then
    match val with
    |.nilIface=>unsupported (.noEntry "extern/reflectlite: a nil value of one interface type handed on as a value of another")
    |_=>storeVar dst a val
   else storeVar dst a (.iface src val)
  else panicString ("reflectlite.Set: value of type " ++ (←Rtype.spelt src) ++ " is not assignable to type " ++ (←Rtype.spelt dst))
  pure (.tuple #[])):=rfl
theorem TC (t:Addr) (w:World):(ReflectliteValue.unpack (.iface 104 (.pointer (some t)))).run Tryz.prog w
  = .ok (.agg #[.pointer (some ⟨10,104,none⟩),.pointer (some ⟨w.heap.size,0,none⟩),.int .u64 150]) (w.alloc (.cells #[.pointer (some t)] 104)):=by kernel_rfl
theorem TD (a:Addr) (w:World):(ReflectliteValue.methodAny (ReflectliteValue.valueError "reflectlite.Value.Type" 0) (fun t _ _ _=>ReflectliteType.toType t) #[.agg #[.pointer (some ⟨10,104,none⟩),.pointer (some a),.int .u64 150]]).run Tryz.prog w
  = .ok (.iface 187 (.agg #[.pointer (some ⟨10,104,none⟩)])) w:=by kernel_rfl
theorem TE (w:World):((ReflectliteType.abiMethod fun t=>(fun a:Nat=>Value.int IntKind.u8 (a:Int)) <$> Rtype.kind t) #[.pointer (some ⟨10,104,none⟩)]).run Tryz.prog w = .ok (.int .u8 22) w:=by kernel_rfl
theorem TF (w:World):((ReflectliteType.abiMethod fun t=>(fun a:Nat=>Value.int IntKind.u8 (a:Int)) <$> Rtype.kind t) #[.pointer (some ⟨10,102,none⟩)]).run Tryz.prog w = .ok (.int .u8 22) w:=by kernel_rfl
theorem TG (a:Addr) (w:World):(ReflectliteValue.parts (.agg #[.pointer (some ⟨10,104,none⟩),.pointer (some a),.int .u64 150])).run Tryz.prog w = .ok (some (104,a,150)) w:=by kernel_rfl
theorem TH (a p:Addr) (W:World) (ha:W.cell? a=some (.pointer (some p))) :
  (ReflectliteValue.method (ReflectliteValue.valueError "reflectlite.Value.IsNil" 0) ReflectliteValue.isNil #[.agg #[.pointer (some ⟨10,104,none⟩),.pointer (some a),.int .u64 150]]).run Tryz.prog W = .ok (.bool false) W:=by
 rw [rlm];simp only [Sem.run_bind,TG,Result.andThen];simp [ReflectliteValue.isNil,loadVar,isAgg,underlying,Tryz.underlying104,ha,Result.andThen]
theorem TI (w:World):(ReflectliteType.method ReflectliteType.elem #[.agg #[.pointer (some ⟨10,104,none⟩)]]).run Tryz.prog w = .ok (.iface 187 (.agg #[.pointer (some ⟨10,102,none⟩)])) w:=by kernel_rfl
theorem TJ (w:World):(ReflectliteType.relation "Implements" ReflectliteType.implements_ #[.agg #[.pointer (some ⟨10,102,none⟩)],.iface 187 (.agg #[.pointer (some ⟨10,35,none⟩)])]).run Tryz.prog w = .ok (.bool true) w:=by kernel_rfl
theorem cf (v:Value) (w:World):(ReflectliteType.typeOf #[.iface 102 v]).run Tryz.prog w = .ok (.iface 187 (.agg #[.pointer (some ⟨10,102,none⟩)])) w:=by kernel_rfl
theorem cg (w:World):(ReflectliteType.relation "AssignableTo" ReflectliteType.assignableTo #[.agg #[.pointer (some ⟨10,102,none⟩)],.iface 187 (.agg #[.pointer (some ⟨10,102,none⟩)])]).run Tryz.prog w = .ok (.bool true) w:=by kernel_rfl
theorem ch (e:Addr) (w:World):(ReflectliteValue.unpack (.iface 102 (.pointer (some e)))).run Tryz.prog w
  = .ok (.agg #[.pointer (some ⟨10,102,none⟩),.pointer (some ⟨w.heap.size,0,none⟩),.int .u64 150]) (w.alloc (.cells #[.pointer (some e)] 102)):=by kernel_rfl
theorem ci (w:World):(Rtype.elem? 104).run Tryz.prog w = .ok (some 102) w:=by kernel_rfl
theorem mkEF (p:Addr) (w:World):(ReflectliteValue.mk 102 p ReflectliteValue.flagAddr).run Tryz.prog w = .ok (.agg #[.pointer (some ⟨10,102,none⟩),.pointer (some p),.int .u64 406]) w:=by kernel_rfl
theorem cj (a p:Addr) (W:World) (ha:W.cell? a=some (.pointer (some p))) :
  (ReflectliteValue.method (ReflectliteValue.valueError "reflectlite.Value.Elem" 0) ReflectliteValue.elem #[.agg #[.pointer (some ⟨10,104,none⟩),.pointer (some a),.int .u64 150]]).run Tryz.prog W
   = .ok (.agg #[.pointer (some ⟨10,102,none⟩),.pointer (some p),.int .u64 406]) W:=by
 rw [rlm];simp only [Sem.run_bind,TG,Result.andThen];simp [ReflectliteValue.elem,loadVar,isAgg,underlying,Tryz.underlying104,ha,Result.andThen,ci,mkEF]
theorem cm (a:Addr) (w:World):(ReflectliteValue.parts (.agg #[.pointer (some ⟨10,102,none⟩),.pointer (some a),.int .u64 406])).run Tryz.prog w = .ok (some (102,a,406)) w:=by kernel_rfl
theorem cn (a:Addr) (w:World):(ReflectliteValue.parts (.agg #[.pointer (some ⟨10,102,none⟩),.pointer (some a),.int .u64 150])).run Tryz.prog w = .ok (some (102,a,150)) w:=by kernel_rfl
theorem co (w:World):(Rtype.directlyAssignable 102 102).run Tryz.prog w = .ok true w:=by kernel_rfl
theorem cp (ta b:Addr) (e:Addr) (old:Value) (W:World) (hb:W.cell? b=some (.pointer (some e))) (ht:W.cell? ta=some old) (hf:W.frozen? ta=false) :
  (ReflectliteValue.set #[.agg #[.pointer (some ⟨10,102,none⟩),.pointer (some ta),.int .u64 406],.agg #[.pointer (some ⟨10,102,none⟩),.pointer (some b),.int .u64 150]]).run Tryz.prog W
   = .ok (.tuple #[]) (W.setCell ta (.pointer (some e))):=by
 rw [rls];simp only [Sem.run_bind,cm,cn,Result.andThen];simp [ReflectliteValue.flagAddr,loadVar,isAgg,underlying,Tryz.underlying102,hb,Result.andThen,co,storeVar,Value.cells,storeCells,Addr.add];rw [run_store Tryz.prog W ta _ _ (by rfl)];simp [ht,hf]
theorem cq (t:Addr) (w:World):(ReflectliteValue.unpack (.iface 109 (.pointer (some t)))).run Tryz.prog w
  = .ok (.agg #[.pointer (some ⟨10,109,none⟩),.pointer (some ⟨w.heap.size,0,none⟩),.int .u64 150]) (w.alloc (.cells #[.pointer (some t)] 109)):=by kernel_rfl
theorem cr (a:Addr) (w:World):(ReflectliteValue.methodAny (ReflectliteValue.valueError "reflectlite.Value.Type" 0) (fun t _ _ _=>ReflectliteType.toType t) #[.agg #[.pointer (some ⟨10,109,none⟩),.pointer (some a),.int .u64 150]]).run Tryz.prog w
  = .ok (.iface 187 (.agg #[.pointer (some ⟨10,109,none⟩)])) w:=by kernel_rfl
theorem ct (w:World):((ReflectliteType.abiMethod fun t=>(fun a:Nat=>Value.int IntKind.u8 (a:Int)) <$> Rtype.kind t) #[.pointer (some ⟨10,109,none⟩)]).run Tryz.prog w = .ok (.int .u8 22) w:=by kernel_rfl
theorem cu (w:World):((ReflectliteType.abiMethod fun t=>(fun a:Nat=>Value.int IntKind.u8 (a:Int)) <$> Rtype.kind t) #[.pointer (some ⟨10,101,none⟩)]).run Tryz.prog w = .ok (.int .u8 2) w:=by kernel_rfl
theorem TL (a:Addr) (w:World):(ReflectliteValue.parts (.agg #[.pointer (some ⟨10,109,none⟩),.pointer (some a),.int .u64 150])).run Tryz.prog w = .ok (some (109,a,150)) w:=by kernel_rfl
theorem cw (a p:Addr) (W:World) (ha:W.cell? a=some (.pointer (some p))) :
  (ReflectliteValue.method (ReflectliteValue.valueError "reflectlite.Value.IsNil" 0) ReflectliteValue.isNil #[.agg #[.pointer (some ⟨10,109,none⟩),.pointer (some a),.int .u64 150]]).run Tryz.prog W = .ok (.bool false) W:=by
 rw [rlm];simp only [Sem.run_bind,TL,Result.andThen];simp [ReflectliteValue.isNil,loadVar,isAgg,underlying,Tryz.underlying109,ha,Result.andThen]
theorem cx (w:World):(ReflectliteType.method ReflectliteType.elem #[.agg #[.pointer (some ⟨10,109,none⟩)]]).run Tryz.prog w = .ok (.iface 187 (.agg #[.pointer (some ⟨10,101,none⟩)])) w:=by kernel_rfl
theorem cy (w:World):(ReflectliteType.relation "Implements" ReflectliteType.implements_ #[.agg #[.pointer (some ⟨10,101,none⟩)],.iface 187 (.agg #[.pointer (some ⟨10,35,none⟩)])]).run Tryz.prog w = .ok (.bool true) w:=by kernel_rfl
theorem typeOfEN (v:Value) (w:World):(ReflectliteType.typeOf #[.iface 101 v]).run Tryz.prog w = .ok (.iface 187 (.agg #[.pointer (some ⟨10,101,none⟩)])) w:=by kernel_rfl
theorem zDH (w:World):(ReflectliteType.relation "AssignableTo" ReflectliteType.assignableTo #[.agg #[.pointer (some ⟨10,101,none⟩)],.iface 187 (.agg #[.pointer (some ⟨10,101,none⟩)])]).run Tryz.prog w = .ok (.bool true) w:=by kernel_rfl
theorem dA (n:Int) (w:World):(ReflectliteValue.unpack (.iface 101 (.int .i64 n))).run Tryz.prog w
  = .ok (.agg #[.pointer (some ⟨10,101,none⟩),.pointer (some ⟨w.heap.size,0,none⟩),.int .u64 130]) (w.alloc (.cells #[.int .i64 n] 101)):=by kernel_rfl
theorem dB (w:World):(Rtype.elem? 109).run Tryz.prog w = .ok (some 101) w:=by kernel_rfl
theorem mkEN (p:Addr) (w:World):(ReflectliteValue.mk 101 p ReflectliteValue.flagAddr).run Tryz.prog w = .ok (.agg #[.pointer (some ⟨10,101,none⟩),.pointer (some p),.int .u64 386]) w:=by kernel_rfl
theorem dC (a p:Addr) (W:World) (ha:W.cell? a=some (.pointer (some p))) :
  (ReflectliteValue.method (ReflectliteValue.valueError "reflectlite.Value.Elem" 0) ReflectliteValue.elem #[.agg #[.pointer (some ⟨10,109,none⟩),.pointer (some a),.int .u64 150]]).run Tryz.prog W
   = .ok (.agg #[.pointer (some ⟨10,101,none⟩),.pointer (some p),.int .u64 386]) W:=by
 rw [rlm];simp only [Sem.run_bind,TL,Result.andThen];simp [ReflectliteValue.elem,loadVar,isAgg,underlying,Tryz.underlying109,ha,Result.andThen,dB,mkEN]
theorem dD (a:Addr) (w:World):(ReflectliteValue.parts (.agg #[.pointer (some ⟨10,101,none⟩),.pointer (some a),.int .u64 386])).run Tryz.prog w = .ok (some (101,a,386)) w:=by kernel_rfl
theorem dE (a:Addr) (w:World):(ReflectliteValue.parts (.agg #[.pointer (some ⟨10,101,none⟩),.pointer (some a),.int .u64 130])).run Tryz.prog w = .ok (some (101,a,130)) w:=by kernel_rfl
theorem dF (w:World):(Rtype.directlyAssignable 101 101).run Tryz.prog w = .ok true w:=by kernel_rfl
theorem dG (ta b:Addr) (n:Int) (old:Value) (W:World) (hb:W.cell? b=some (.int .i64 n)) (ht:W.cell? ta=some old) (hf:W.frozen? ta=false) :
  (ReflectliteValue.set #[.agg #[.pointer (some ⟨10,101,none⟩),.pointer (some ta),.int .u64 386],.agg #[.pointer (some ⟨10,101,none⟩),.pointer (some b),.int .u64 130]]).run Tryz.prog W
   = .ok (.tuple #[]) (W.setCell ta (.int .i64 n)):=by
 rw [rls];simp only [Sem.run_bind,dD,dE,Result.andThen];simp [ReflectliteValue.flagAddr,loadVar,isAgg,underlying,Tryz.underlying101,hb,Result.andThen,dF,storeVar,Value.cells,storeCells,Addr.add];rw [run_store Tryz.prog W ta _ _ (by rfl)];simp [ht,hf]
set_option maxHeartbeats 4000000 in
theorem hitF (e:Addr) (t:Addr) (old:Value) (w:World) (hg:w.cell? ⟨0,0,none⟩=some (.iface 187 (.agg #[.pointer (some ⟨10,35,none⟩)]))) (uH:w.cell? t=some old) (sN:w.frozen? t=false) :
  Calls Tryz.prog 27 #[.iface 102 (.pointer (some e)),.iface 104 (.pointer (some t))] w fun ev w'=>ev = .returned (.bool true)∧w'=((((w.alloc (.cells #[.pointer (some t)] 104)).alloc (.cells #[.pointer (some ⟨10,104,none⟩),.pointer (some ⟨w.heap.size,0,none⟩),.int .u64 150] 148)).alloc (.cells #[.pointer (some ⟨10,104,none⟩),.pointer (some ⟨w.heap.size,0,none⟩),.int .u64 150] 148)).alloc (.cells #[.pointer (some e)] 102)).setCell t (.pointer (some e)):=by
 have xJ := @run_callFunc_extern Tryz.prog 44 _ (fun args=>ReflectliteValue.unpack (args.getD 0 (.tuple #[]))) Tryz.func44 (by kernel_rfl) (by kernel_rfl) (by kernel_rfl) (by kernel_rfl);have xK := @run_callFunc_extern Tryz.prog 45 _ (ReflectliteValue.methodAny (ReflectliteValue.valueError "reflectlite.Value.Type" 0) (fun t _ _ _=>ReflectliteType.toType t)) Tryz.func45 (by kernel_rfl) (by kernel_rfl) (by kernel_rfl) (by kernel_rfl);have xL := @run_callFunc_extern Tryz.prog 46 _ (ReflectliteValue.method (ReflectliteValue.valueError "reflectlite.Value.IsNil" 0) ReflectliteValue.isNil) Tryz.func46 (by kernel_rfl) (by kernel_rfl) (by kernel_rfl) (by kernel_rfl);have xM := @run_callFunc_extern Tryz.prog 186 _ (ReflectliteType.abiMethod fun t=>do pure (.int .u8 (←Rtype.kind t))) Tryz.func186 (by kernel_rfl) (by kernel_rfl) (by kernel_rfl) (by kernel_rfl);have xN := @run_callFunc_extern Tryz.prog 198 _ (ReflectliteType.method ReflectliteType.elem) Tryz.func198 (by kernel_rfl) (by kernel_rfl) (by kernel_rfl) (by kernel_rfl);have xO := @run_callFunc_extern Tryz.prog 199 _ (ReflectliteType.relation "Implements" ReflectliteType.implements_) Tryz.func199 (by kernel_rfl) (by kernel_rfl) (by kernel_rfl) (by kernel_rfl);have xP := @run_callFunc_extern Tryz.prog 42 _ ReflectliteType.typeOf Tryz.func42 (by kernel_rfl) (by kernel_rfl) (by kernel_rfl) (by kernel_rfl);have xQ := @run_callFunc_extern Tryz.prog 196 _ (ReflectliteType.relation "AssignableTo" ReflectliteType.assignableTo) Tryz.func196 (by kernel_rfl) (by kernel_rfl) (by kernel_rfl) (by kernel_rfl);have xR := @run_callFunc_extern Tryz.prog 73 _ (ReflectliteValue.method (ReflectliteValue.valueError "reflectlite.Value.Elem" 0) ReflectliteValue.elem) Tryz.func73 (by kernel_rfl) (by kernel_rfl) (by kernel_rfl) (by kernel_rfl);have xS := @run_callFunc_extern Tryz.prog 74 _ ReflectliteValue.set Tryz.func74 (by kernel_rfl) (by kernel_rfl) (by kernel_rfl) (by kernel_rfl);have mK:=Oy;have mE:=Oz;have mI:=O3;have mA:=O4;have f6:=TC;have f7:=TD;have k27:=TE;have k25:=TF;have e27:=TI;have i25:=TJ;have n8:=TH ⟨w.heap.size,0,none⟩ t ((w.alloc (.cells #[.pointer (some t)] 104)).alloc (.cells #[.pointer (some ⟨10,104,none⟩),.pointer (some ⟨w.heap.size,0,none⟩),.int .u64 150] 148)) (by simp)
 have oX:0<w.heap.size:=by
  rcases Nat.lt_or_ge 0 w.heap.size with h|h
  ·exact h
  ·simp [World.cell?,Array.getElem?_eq_none h] at hg
 have rz:((w.alloc (.cells #[.pointer (some t)] 104)).alloc (.cells #[.pointer (some ⟨10,104,none⟩),.pointer (some ⟨w.heap.size,0,none⟩),.int .u64 150] 148)).cell? ⟨0,0,none⟩=some (.iface 187 (.agg #[.pointer (some ⟨10,35,none⟩)])):=by rw [World.cell?_alloc_lt _ _ ⟨0,0,none⟩ (by simp<;>omega),World.cell?_alloc_lt _ _ ⟨0,0,none⟩ oX];exact hg
 have tO:=cf;have a25:=cg;have v25:=ch
 have qe:t.block<w.heap.size:=by
  rcases Nat.lt_or_ge t.block w.heap.size with h|h
  ·exact h
  ·simp [World.cell?,Array.getElem?_eq_none h] at uH
 have el:=cj ⟨w.heap.size,0,none⟩ t (((w.alloc (.cells #[.pointer (some t)] 104)).alloc (.cells #[.pointer (some ⟨10,104,none⟩),.pointer (some ⟨w.heap.size,0,none⟩),.int .u64 150] 148)).alloc (.cells #[.pointer (some ⟨10,104,none⟩),.pointer (some ⟨w.heap.size,0,none⟩),.int .u64 150] 148)) (by rw [World.cell?_alloc_lt _ _ ⟨w.heap.size,0,none⟩ (by simp;omega)];simp)
 have st:=cp t ⟨w.heap.size+1+1+1,0,none⟩ e old ((((w.alloc (.cells #[.pointer (some t)] 104)).alloc (.cells #[.pointer (some ⟨10,104,none⟩),.pointer (some ⟨w.heap.size,0,none⟩),.int .u64 150] 148)).alloc (.cells #[.pointer (some ⟨10,104,none⟩),.pointer (some ⟨w.heap.size,0,none⟩),.int .u64 150] 148)).alloc (.cells #[.pointer (some e)] 102))
  (by rw [World.cell?_alloc_at _ _ _ _ (by simp)];rfl)
  (by rw [World.cell?_alloc_lt _ _ t (by simp;omega),World.cell?_alloc_lt _ _ t (by simp;omega),World.cell?_alloc_lt _ _ t (by simp;omega),World.cell?_alloc_lt _ _ t qe];exact uH)
  (by rw [World.frozen?_alloc_old _ _ t (by simp;omega),World.frozen?_alloc_old _ _ t (by simp;omega),World.frozen?_alloc_old _ _ t (by simp;omega),World.frozen?_alloc_old _ _ t (Nat.ne_of_lt qe)];exact sN)
 go_enter Tryz.func27,Tryz.ntmps27
 go_wp2
 refine wp_loop_rounds 1 ?_;rw [rounds_succ]
 go_wp2
 go_ret
 exact ⟨rfl,rfl⟩
set_option maxHeartbeats 4000000 in
theorem hitN (n:Int) (t:Addr) (old:Value) (w:World) (hg:w.cell? ⟨0,0,none⟩=some (.iface 187 (.agg #[.pointer (some ⟨10,35,none⟩)]))) (uH:w.cell? t=some old) (sN:w.frozen? t=false) :
  Calls Tryz.prog 27 #[.iface 101 (.int .i64 n),.iface 109 (.pointer (some t))] w fun ev w'=>ev = .returned (.bool true)∧w'=((((w.alloc (.cells #[.pointer (some t)] 109)).alloc (.cells #[.pointer (some ⟨10,109,none⟩),.pointer (some ⟨w.heap.size,0,none⟩),.int .u64 150] 148)).alloc (.cells #[.pointer (some ⟨10,109,none⟩),.pointer (some ⟨w.heap.size,0,none⟩),.int .u64 150] 148)).alloc (.cells #[.int .i64 n] 101)).setCell t (.int .i64 n):=by
 have xJ := @run_callFunc_extern Tryz.prog 44 _ (fun args=>ReflectliteValue.unpack (args.getD 0 (.tuple #[]))) Tryz.func44 (by kernel_rfl) (by kernel_rfl) (by kernel_rfl) (by kernel_rfl);have xK := @run_callFunc_extern Tryz.prog 45 _ (ReflectliteValue.methodAny (ReflectliteValue.valueError "reflectlite.Value.Type" 0) (fun t _ _ _=>ReflectliteType.toType t)) Tryz.func45 (by kernel_rfl) (by kernel_rfl) (by kernel_rfl) (by kernel_rfl);have xL := @run_callFunc_extern Tryz.prog 46 _ (ReflectliteValue.method (ReflectliteValue.valueError "reflectlite.Value.IsNil" 0) ReflectliteValue.isNil) Tryz.func46 (by kernel_rfl) (by kernel_rfl) (by kernel_rfl) (by kernel_rfl);have xM := @run_callFunc_extern Tryz.prog 186 _ (ReflectliteType.abiMethod fun t=>do pure (.int .u8 (←Rtype.kind t))) Tryz.func186 (by kernel_rfl) (by kernel_rfl) (by kernel_rfl) (by kernel_rfl);have xN := @run_callFunc_extern Tryz.prog 198 _ (ReflectliteType.method ReflectliteType.elem) Tryz.func198 (by kernel_rfl) (by kernel_rfl) (by kernel_rfl) (by kernel_rfl);have xO := @run_callFunc_extern Tryz.prog 199 _ (ReflectliteType.relation "Implements" ReflectliteType.implements_) Tryz.func199 (by kernel_rfl) (by kernel_rfl) (by kernel_rfl) (by kernel_rfl);have xP := @run_callFunc_extern Tryz.prog 42 _ ReflectliteType.typeOf Tryz.func42 (by kernel_rfl) (by kernel_rfl) (by kernel_rfl) (by kernel_rfl);have xQ := @run_callFunc_extern Tryz.prog 196 _ (ReflectliteType.relation "AssignableTo" ReflectliteType.assignableTo) Tryz.func196 (by kernel_rfl) (by kernel_rfl) (by kernel_rfl) (by kernel_rfl);have xR := @run_callFunc_extern Tryz.prog 73 _ (ReflectliteValue.method (ReflectliteValue.valueError "reflectlite.Value.Elem" 0) ReflectliteValue.elem) Tryz.func73 (by kernel_rfl) (by kernel_rfl) (by kernel_rfl) (by kernel_rfl);have xS := @run_callFunc_extern Tryz.prog 74 _ ReflectliteValue.set Tryz.func74 (by kernel_rfl) (by kernel_rfl) (by kernel_rfl) (by kernel_rfl);have mK:=Oy;have mE:=Oz;have mI:=O3;have mA:=O4;have f6:=cq;have f7:=cr;have k27:=ct;have k25:=cu;have e27:=cx;have i25:=cy;have n8:=cw ⟨w.heap.size,0,none⟩ t ((w.alloc (.cells #[.pointer (some t)] 109)).alloc (.cells #[.pointer (some ⟨10,109,none⟩),.pointer (some ⟨w.heap.size,0,none⟩),.int .u64 150] 148)) (by simp)
 have oX:0<w.heap.size:=by
  rcases Nat.lt_or_ge 0 w.heap.size with h|h
  ·exact h
  ·simp [World.cell?,Array.getElem?_eq_none h] at hg
 have rz:((w.alloc (.cells #[.pointer (some t)] 109)).alloc (.cells #[.pointer (some ⟨10,109,none⟩),.pointer (some ⟨w.heap.size,0,none⟩),.int .u64 150] 148)).cell? ⟨0,0,none⟩=some (.iface 187 (.agg #[.pointer (some ⟨10,35,none⟩)])):=by rw [World.cell?_alloc_lt _ _ ⟨0,0,none⟩ (by simp<;>omega),World.cell?_alloc_lt _ _ ⟨0,0,none⟩ oX];exact hg
 have tO:=typeOfEN;have a25:=zDH;have v25:=dA
 have qe:t.block<w.heap.size:=by
  rcases Nat.lt_or_ge t.block w.heap.size with h|h
  ·exact h
  ·simp [World.cell?,Array.getElem?_eq_none h] at uH
 have el:=dC ⟨w.heap.size,0,none⟩ t (((w.alloc (.cells #[.pointer (some t)] 109)).alloc (.cells #[.pointer (some ⟨10,109,none⟩),.pointer (some ⟨w.heap.size,0,none⟩),.int .u64 150] 148)).alloc (.cells #[.pointer (some ⟨10,109,none⟩),.pointer (some ⟨w.heap.size,0,none⟩),.int .u64 150] 148)) (by rw [World.cell?_alloc_lt _ _ ⟨w.heap.size,0,none⟩ (by simp;omega)];simp)
 have st:=dG t ⟨w.heap.size+1+1+1,0,none⟩ n old ((((w.alloc (.cells #[.pointer (some t)] 109)).alloc (.cells #[.pointer (some ⟨10,109,none⟩),.pointer (some ⟨w.heap.size,0,none⟩),.int .u64 150] 148)).alloc (.cells #[.pointer (some ⟨10,109,none⟩),.pointer (some ⟨w.heap.size,0,none⟩),.int .u64 150] 148)).alloc (.cells #[.int .i64 n] 101))
  (by rw [World.cell?_alloc_at _ _ _ _ (by simp)];rfl)
  (by rw [World.cell?_alloc_lt _ _ t (by simp;omega),World.cell?_alloc_lt _ _ t (by simp;omega),World.cell?_alloc_lt _ _ t (by simp;omega),World.cell?_alloc_lt _ _ t qe];exact uH)
  (by rw [World.frozen?_alloc_old _ _ t (by simp;omega),World.frozen?_alloc_old _ _ t (by simp;omega),World.frozen?_alloc_old _ _ t (by simp;omega),World.frozen?_alloc_old _ _ t (Nat.ne_of_lt qe)];exact sN)
 go_enter Tryz.func27,Tryz.ntmps27
 go_wp2
 refine wp_loop_rounds 1 ?_;rw [rounds_succ]
 go_wp2
 go_ret
 exact ⟨rfl,rfl⟩
theorem dH (w:World):(ReflectliteType.relation "AssignableTo" ReflectliteType.assignableTo #[.agg #[.pointer (some ⟨10,101,none⟩)],.iface 187 (.agg #[.pointer (some ⟨10,102,none⟩)])]).run Tryz.prog w = .ok (.bool false) w:=by kernel_rfl
theorem noAs (v:Value) (xT:TypeId) (w:World):(Instr.typeAssert (.iface 101 v) xT 199 true).run Tryz.prog w = .ok (.tuple #[.nilIface,.bool false]) w:=run_typeAssert_lacksB Tryz.underlying199 (by kernel_rfl) (by kernel_rfl) v xT w
theorem noUn (v:Value) (xT:TypeId) (w:World):(Instr.typeAssert (.iface 101 v) xT 192 true).run Tryz.prog w = .ok (.tuple #[.nilIface,.bool false]) w:=run_typeAssert_lacksB Tryz.underlying192 (by kernel_rfl) (by kernel_rfl) v xT w
theorem noUs (v:Value) (xT:TypeId) (w:World):(Instr.typeAssert (.iface 101 v) xT 194 true).run Tryz.prog w = .ok (.tuple #[.nilIface,.bool false]) w:=run_typeAssert_lacksB Tryz.underlying194 (by kernel_rfl) (by kernel_rfl) v xT w
set_option maxHeartbeats 4000000 in
theorem missF (n:Int) (t:Addr) (w:World) (hg:w.cell? ⟨0,0,none⟩=some (.iface 187 (.agg #[.pointer (some ⟨10,35,none⟩)]))) :
  Calls Tryz.prog 27 #[.iface 101 (.int .i64 n),.iface 104 (.pointer (some t))] w fun ev w'=>ev = .returned (.bool false)∧w'=(((w.alloc (.cells #[.pointer (some t)] 104)).alloc (.cells #[.pointer (some ⟨10,104,none⟩),.pointer (some ⟨w.heap.size,0,none⟩),.int .u64 150] 148)).alloc (.cells #[.pointer (some ⟨10,104,none⟩),.pointer (some ⟨w.heap.size,0,none⟩),.int .u64 150] 148)):=by
 have xJ := @run_callFunc_extern Tryz.prog 44 _ (fun args=>ReflectliteValue.unpack (args.getD 0 (.tuple #[]))) Tryz.func44 (by kernel_rfl) (by kernel_rfl) (by kernel_rfl) (by kernel_rfl);have xK := @run_callFunc_extern Tryz.prog 45 _ (ReflectliteValue.methodAny (ReflectliteValue.valueError "reflectlite.Value.Type" 0) (fun t _ _ _=>ReflectliteType.toType t)) Tryz.func45 (by kernel_rfl) (by kernel_rfl) (by kernel_rfl) (by kernel_rfl);have xL := @run_callFunc_extern Tryz.prog 46 _ (ReflectliteValue.method (ReflectliteValue.valueError "reflectlite.Value.IsNil" 0) ReflectliteValue.isNil) Tryz.func46 (by kernel_rfl) (by kernel_rfl) (by kernel_rfl) (by kernel_rfl);have xM := @run_callFunc_extern Tryz.prog 186 _ (ReflectliteType.abiMethod fun t=>do pure (.int .u8 (←Rtype.kind t))) Tryz.func186 (by kernel_rfl) (by kernel_rfl) (by kernel_rfl) (by kernel_rfl);have xN := @run_callFunc_extern Tryz.prog 198 _ (ReflectliteType.method ReflectliteType.elem) Tryz.func198 (by kernel_rfl) (by kernel_rfl) (by kernel_rfl) (by kernel_rfl);have xO := @run_callFunc_extern Tryz.prog 199 _ (ReflectliteType.relation "Implements" ReflectliteType.implements_) Tryz.func199 (by kernel_rfl) (by kernel_rfl) (by kernel_rfl) (by kernel_rfl);have xP := @run_callFunc_extern Tryz.prog 42 _ ReflectliteType.typeOf Tryz.func42 (by kernel_rfl) (by kernel_rfl) (by kernel_rfl) (by kernel_rfl);have xQ := @run_callFunc_extern Tryz.prog 196 _ (ReflectliteType.relation "AssignableTo" ReflectliteType.assignableTo) Tryz.func196 (by kernel_rfl) (by kernel_rfl) (by kernel_rfl) (by kernel_rfl);have xR := @run_callFunc_extern Tryz.prog 73 _ (ReflectliteValue.method (ReflectliteValue.valueError "reflectlite.Value.Elem" 0) ReflectliteValue.elem) Tryz.func73 (by kernel_rfl) (by kernel_rfl) (by kernel_rfl) (by kernel_rfl);have xS := @run_callFunc_extern Tryz.prog 74 _ ReflectliteValue.set Tryz.func74 (by kernel_rfl) (by kernel_rfl) (by kernel_rfl) (by kernel_rfl);have mK:=Oy;have mE:=Oz;have mI:=O3;have mA:=O4;have f6:=TC;have f7:=TD;have k27:=TE;have k25:=TF;have e27:=TI;have i25:=TJ;have n8:=TH ⟨w.heap.size,0,none⟩ t ((w.alloc (.cells #[.pointer (some t)] 104)).alloc (.cells #[.pointer (some ⟨10,104,none⟩),.pointer (some ⟨w.heap.size,0,none⟩),.int .u64 150] 148)) (by simp)
 have oX:0<w.heap.size:=by
  rcases Nat.lt_or_ge 0 w.heap.size with h|h
  ·exact h
  ·simp [World.cell?,Array.getElem?_eq_none h] at hg
 have rz:((w.alloc (.cells #[.pointer (some t)] 104)).alloc (.cells #[.pointer (some ⟨10,104,none⟩),.pointer (some ⟨w.heap.size,0,none⟩),.int .u64 150] 148)).cell? ⟨0,0,none⟩=some (.iface 187 (.agg #[.pointer (some ⟨10,35,none⟩)])):=by rw [World.cell?_alloc_lt _ _ ⟨0,0,none⟩ (by simp<;>omega),World.cell?_alloc_lt _ _ ⟨0,0,none⟩ oX];exact hg
 have tO:=typeOfEN;have a25:=dH;have b1:=noAs;have b2:=noUn;have b3:=noUs
 go_enter Tryz.func27,Tryz.ntmps27
 go_wp2
 refine wp_loop_rounds 1 ?_;rw [rounds_succ]
 go_wp2
 go_ret
 exact ⟨rfl,rfl⟩
end Go.Proofs.YtmjfldclpijghaaGreatDoor.As
namespace Go.Proofs.YtmjfldclpijghaaGreatDoor
open Go.RowKit Go.Proofs.Fw Go.Stop Go.Extern
set_option maxRecDepth 100000
set_option maxHeartbeats 4000000
def KI:List (Nat × AV):=(0,.vptr [.iface 187 (.agg [.adr 10 35])] 0)::JI
def KJ (t:TypeId) (n:String):Option FuncId:=if t=102∧n = "Unwrap" then some 191 else none
def Ca:Env:=⟨HD KI,KJ,fun t=>t==106 || t==271 || t==28,fun _=>false,fun _=>false⟩
@[simp] theorem lw (t:TypeId):Ca.soft t=false:=AS rfl
@[simp] theorem immW:Ca.imm 28=true:=by decide
theorem JO:Ch zP Ca:=by
 intro t name f h v w;simp only [Ca,KJ] at h
 split at h
 ·rename_i hh
  obtain ⟨rfl,rfl⟩:=hh;injection h with h;subst h
  kernel_rfl
 ·cases h
@[simp] theorem methU:Ca.meth 102 "Unwrap" = some 191:=rfl
theorem LB:∀i,low 0 (Ca.glob i)=true:=OW (by
 intro x hx;simp only [KI,JI,List.mem_cons,List.not_mem_nil,or_false] at hx;rcases hx with rfl|rfl|rfl
 ·rfl
 ·show lowL 0 K5=true
  kernel_rfl
 ·rfl)
theorem dI {g:Gh} (h:Al Ca g):Al AM g:=by
 intro i
 by_cases hi:i=0
 ·subst hi
  have:AM.glob 0 = .undef:=by rfl
  rw [this];trivial
 ·have:AM.glob i=Ca.glob i:=by
   simp only [AM,Ca,HD,KI,List.find?_cons];rw [show ((0:Nat)==i)=false by simp;omega]
  rw [this];exact h i
theorem CS.toN {f:FuncId} {args:List AV} {H H':AH} {v:AV} (h:CS zP AM f args H v H'):CS zP Ca f args H v H':=fun g w cargs R hG hA=>h g w cargs R (dI hG) hA
theorem AT.toN {O:Orc} (h:AT zP AM O):AT zP Ca O:=fun f args H v H' ho=>by obtain ⟨h1,h2,h3⟩:=h f args H v H' ho;exact ⟨CS.toN h1,h2,h3⟩
def Ac:List (List UInt8 × Int)→Int→AV
 |[],c => .iface 101 (.int .i64 c)
 |(w,p)::r,c => .iface 102 (.vptr [.str w,.int .i64 p,Ac r c] 0)
theorem Fp:∀(l:List (List UInt8 × Int)) (c:Int),low 0 (Ac l c)=true
 |[],c=>rfl
 |(w,p)::r,c=>by simp [Ac,Fp r c]
section
variable {P:Program}
theorem MX {t I:TypeId} {z:AV} {want:Array (String × TypeId)} (hu:P.underlying I=some (.interface want)) (h:(P.info? t).map (fun i=>(lacking want i.methods).isEmpty)=some false) (hz:Ae P I=some z) (v:AV) :
  D6 P (.iface t v) I true=some (.tup [z,.bool false]):=by
 obtain ⟨i,hi,hl⟩:=Option.map_eq_some_iff.1 h;obtain ⟨m,hm⟩:=missingMethod_some (want:=want) (got:=i.methods) (fun e=>by rw [e] at hl;cases hl);simp [D6,hu,hi,hm,hz]
theorem dJ {t I:TypeId} {want:Array (String × TypeId)} (hu:P.underlying I=some (.interface want)) (h:(P.info? t).map (fun i=>(lacking want i.methods).isEmpty)=some true) (v:AV) :
  D6 P (.iface t v) I true=some (.tup [.iface t v,.bool true]):=by
 obtain ⟨i,hi,hl⟩:=Option.map_eq_some_iff.1 h;have hm:=missingMethod_none (want:=want) (got:=i.methods) (List.isEmpty_iff.1 hl);simp [D6,hu,hi,hm]
end
@[simp high] theorem fIs (v:AV):D6 zP (.iface 102 v) 189 true=some (.tup [.nilIface,.bool false]):=MX Tryz.underlying189 (by kernel_rfl) (by kernel_rfl) v
@[simp high] theorem fUn (v:AV):D6 zP (.iface 102 v) 192 true=some (.tup [.iface 102 v,.bool true]):=dJ Tryz.underlying192 (by kernel_rfl) v
@[simp high] theorem eIs (v:AV):D6 zP (.iface 101 v) 189 true=some (.tup [.nilIface,.bool false]):=MX Tryz.underlying189 (by kernel_rfl) (by kernel_rfl) v
@[simp high] theorem eUn (v:AV):D6 zP (.iface 101 v) 192 true=some (.tup [.nilIface,.bool false]):=MX Tryz.underlying192 (by kernel_rfl) (by kernel_rfl) v
@[simp high] theorem eUs (v:AV):D6 zP (.iface 101 v) 194 true=some (.tup [.nilIface,.bool false]):=MX Tryz.underlying194 (by kernel_rfl) (by kernel_rfl) v
@[simp high] theorem eqEE (a b:Int):aeq zP 35 (.iface 101 (.int .i64 a)) (.iface 101 (.int .i64 b))=some (a==b):=by obtain ⟨i,hi,hc⟩:=Option.map_eq_some_iff.1 (show (zP.info? 101).map (·.comparable)=some true by kernel_rfl);simp [aeq,hi,hc]
@[simp high] theorem eqFE (v:AV) (b:Int):aeq zP 35 (.iface 102 v) (.iface 101 (.int .i64 b))=some false:=by simp [aeq]
def oUw:Orc:=fun f args H=>if f=191 then (match args with
 |[.vptr [a,b,e] 0]=>if low 0 a=true∧low 0 b=true∧low 0 e=true then some (e,H) else none
 |_=>none) else none
theorem zDI (a b e:AV) (ha:low 0 a=true) (hb:low 0 b=true) (he:low 0 e=true) (H:AH):CS zP Ca 191 [.vptr [a,b,e] 0] H e H:=by refine CS.run0 (O:=Bu) ⟨Fe,JO,Ad⟩ LB Tryz.func191 (by kernel_rfl) (by kernel_rfl) 0 (by simp [Tryz.f191]) ?_ he (by simp [ha,hb,he]) H;simp [Tryz.f191,JD _ _ he]
theorem dL:AT zP Ca oUw:=AT.pure fun f args H v H' h=>by
 unfold oUw at h
 split at h
 ·rename_i hf
  subst hf
  split at h
  ·split at h
   ·rename_i hl
    injection h with h;simp only [Prod.mk.injEq] at h;obtain ⟨rfl,rfl⟩:=h;exact ⟨rfl,zDI _ _ _ hl.1 hl.2.1 hl.2.2 _⟩
   ·cases h
  ·cases h
 ·cases h
@[simp high] theorem ly (w:List UInt8) (p:Int) (l:List (List UInt8 × Int)) (c:Int) (H:AH):oUw 191 [.vptr [.str w,.int .i64 p,Ac l c] 0] H=some (Ac l c,H):=by simp [oUw,Fp]
theorem TM:Cx oUw zP Ca:=⟨dL,JO,Ad⟩
@[simp high] theorem lz (l:List (List UInt8 × Int)) (c:Int):aeq zP 35 (Ac l c) .nilIface=some false:=by cases l<;>simp [Ac,aeq]
@[simp high] theorem l8 (l:List (List UInt8 × Int)) (c:Int) (k:Bool):BF zP .eql 35 k (Ac l c) .nilIface=some (.bool false):=by cases l<;>simp [Ac]
@[simp high] theorem zAD (l:List (List UInt8 × Int)) (c:Int) (k:Bool):BF zP .neq 35 k (Ac l c) .nilIface=some (.bool true):=by cases l<;>simp [Ac]
def TiI (c n:Int) (k:Nat) (t:List AV) (H:AH):Prop :=∃r:List (List UInt8 × Int),r.length=k∧t=mkT 54 [(0,Ac r c),(1,.iface 101 (.int .i64 n)),(2,.bool true)]∧H=[]
theorem dM (l:List (List UInt8 × Int)) (c n:Int) (H:AH):CS zP Ca 43 [Ac l c,.iface 101 (.int .i64 n),.bool true] H (.bool (c==n)) H:=by
 refine CS.tr0 LB Tryz.func43 (by kernel_rfl) 0 (by simp [Tryz.f43]) (fun B hB hG => ?_) rfl (by simp [Fp]) H;refine Tr.go TM hG (by kernel_rfl) ?_;simp [Tryz.f43];refine LpT.loopN TM hG (by kernel_rfl) (TiI c n) l.length (t':=mkT 54 [(0,Ac l c),(1,.iface 101 (.int .i64 n)),(2,.bool true)]) (H':=[]) (AD.mk0 hB (by simp [Fp])) ⟨l,rfl,rfl,rfl⟩ ?_;rintro k t H ⟨r,hk,rfl,rfl⟩;cases r with
 |nil =>
  by_cases h:c=n
  ·subst h
   simp [Ac,Bo,MD]
  ·have h2:(c==n)=false:=by simp [h]
   simp [Ac,h,h2,Bo,MD]
 |cons x r =>obtain ⟨w,p⟩:=x;subst hk;simp [Ac,MF];exact Nxt.mk r.length (by simp) (AD.mk0 (l':=[(0,Ac r c),(1,.iface 101 (.int .i64 n)),(2,.bool true)]) hB (by simp [Fp])) ⟨r,rfl,rfl,rfl⟩
theorem dN (w:World):(Go.Extern.ReflectliteType.method (fun t=>do Go.Extern.Rtype.noPackHeld "Comparable" t;(fun a:TypeInfo=>Value.bool a.comparable) <$> typeInfo t) #[.agg #[.pointer (some ⟨10,101,none⟩)]]).run zP w = .ok (.bool true) w:=by kernel_rfl
theorem dO (l:List (List UInt8 × Int)) (c n:Int) (H:AH):CS Tryz.prog Ca 26 [Ac l c,.iface 101 (.int .i64 n)] H (.bool (c==n)) H:=by
 refine CS.frame ?_ LB (by simp [Fp]) H;intro g w cargs R hG hA;have hA':=hA;simp only [AB] at hA;obtain ⟨v0,ws0,rfl,h0,v1,ws1,rfl,h1,rfl⟩:=hA;simp only [AA] at h1;obtain ⟨y1,rfl,rfl⟩:=h1
 have xU:=dM l c n [] g w [v0,.iface 101 (.int .i64 n),.bool true] R hG (by
  simp only [AB]
  exact ⟨_,_,rfl,h0,_,_,rfl,by simp [AA],_,_,rfl,by simp [AA],rfl⟩)
 have tO:=As.typeOfEN;have mC:=As.methodComparable;have cE:=dN;have x1 := @run_callFunc_extern Tryz.prog 197 _ (Go.Extern.ReflectliteType.method (fun t=>do Go.Extern.Rtype.noPackHeld "Comparable" t;pure (.bool (←typeInfo t).comparable))) Tryz.func197 (by kernel_rfl) (by kernel_rfl) (by kernel_rfl) (by kernel_rfl);have x2 := @run_callFunc_extern Tryz.prog 42 _ Go.Extern.ReflectliteType.typeOf Tryz.func42 (by kernel_rfl) (by kernel_rfl) (by kernel_rfl) (by kernel_rfl);cases l with
 |nil =>
  simp only [Ac,AA] at h0;obtain ⟨y0,rfl,rfl⟩:=h0
  go_enter Tryz.func26,Tryz.ntmps26
  go_wp2_with (go_at_call 43;refine xU.mono ?_;rintro e w' ⟨g',cv,rfl,R',p,hr⟩)
  go_ret
  exact ⟨g',_,rfl,R',p,hr⟩
 |cons x r =>
  obtain ⟨wd,p⟩:=x;simp only [Ac,AA] at h0;obtain ⟨y0,rfl,hy⟩:=h0
  go_enter Tryz.func26,Tryz.ntmps26
  go_wp2_with (go_at_call 43;refine xU.mono ?_;rintro e w' ⟨g',cv,rfl,R',p,hr⟩)
  go_ret
  exact ⟨g',_,rfl,R',p,hr⟩
open Go.RowKit Go.Proofs.Fw
theorem TN {g:Gh} {H:AH} {w W4:World} (R:Rel g H w) {id b:Nat} {x a:AV} {el:TypeId} {ov v:Value} (hH:H.at id=some (.box [x])) (hM:g.M id=some (.box b)) (h1:w.heap[b]? = some (.cells #[ov] el (0,0)))
  (hb:Below w.heap.size w W4) (hr:AA g a v) :
  Rel g (H.set id (some (.box [a]))) (W4.setCell ⟨b,0,none⟩ v)∧AQ g H w g (H.set id (some (.box [a]))) (W4.setCell ⟨b,0,none⟩ v):=by
 obtain ⟨R4,P4⟩:=R.below hb;have oX:b<w.heap.size:=(Array.getElem?_eq_some_iff.1 h1).1;have h4:W4.heap[b]? = some (.cells #[ov] el (0,0)):=by rw [hb.block b oX];exact h1
 have hs:(W4.setCell ⟨b,0,none⟩ v).heap[b]? = some (.cells (List.toArray [v]) el (0,0)):=by simp [World.setCell,Array.getElem?_modify,h4]
 obtain ⟨R5,P5⟩:=R4.write_box (w':=W4.setCell ⟨b,0,none⟩ v) (cs:=[a]) (vs:=[v]) hH hM hs (by simp only [AB];exact ⟨_,_,rfl,hr,rfl⟩) (fun k hk=>Below.heap_setCell W4 ⟨b,0,none⟩ v k hk) (by simp [World.setCell]) rfl rfl rfl;exact ⟨R5,AQ.trans R P4 P5⟩
theorem O5 {g:Gh} {H:AH} {w:World} (hG:Al Ca g) (R:Rel g H w):w.cell? ⟨0,0,none⟩=some (.iface 187 (.agg #[.pointer (some ⟨10,35,none⟩)])):=by have h:=hG 0;rw [show Ca.glob 0 = .vptr [.iface 187 (.agg [.adr 10 35])] 0 from rfl] at h;simp only [AA,AB] at h;obtain ⟨b,o,vs,hv,⟨v,ws,rfl,⟨y,rfl,vs2,rfl,v3,ws3,rfl,rfl,rfl⟩,rfl⟩,hh⟩:=h;simp at hv;obtain ⟨rfl,rfl⟩:=hv;exact R.imm _ _ _ (hh 0 _ rfl)
theorem TO (w:World) (a b c:Obj):Below w.heap.size w (((w.alloc a).alloc b).alloc c) :=(((Below.refl _ w).alloc (Nat.le_refl _) a).alloc (by simp) b).alloc (by simp;omega) c
theorem MY (w:World) (a b c d:Obj):Below w.heap.size w ((((w.alloc a).alloc b).alloc c).alloc d) :=(TO w a b c).alloc (by simp;omega) d
theorem TP {cs:List AV} {id:Nat} {x:AV} {H:AH} (hH:H.at id=some (.box [x])) :
  CS zP Ca 27 [.iface 102 (.vptr cs 0),.iface 104 (.ptr id 0)] H (.bool true) (H.set id (some (.box [.vptr cs 0]))):=by
 intro g w cargs R hG hA;simp only [AB,AA] at hA;obtain ⟨v0,ws0,rfl,⟨y0,rfl,b0,o0,vs0,rfl,hr0,vF⟩,v1,ws1,rfl,⟨y1,rfl,b,hM,rfl⟩,rfl⟩:=hA;obtain ⟨vs,el,h1,h2,h3⟩:=Hd R hH hM;simp only [AB] at h2;obtain ⟨ov,ws,rfl,_,rfl⟩:=h2;have hc:w.cell? ⟨b,0,none⟩=some ov:=by simpa using h3 0 ov rfl
 have hf:w.frozen? ⟨b,0,none⟩=false:=by simp [World.frozen?,h1]
 refine (As.hitF ⟨b0,o0+0,none⟩ ⟨b,0,none⟩ ov w (O5 hG R) hc hf).mono ?_;rintro e w' ⟨rfl,rfl⟩;have hr:=fun W4 hb=>TN (W4:=W4) (a := .vptr cs 0) (v := .pointer (some ⟨b0,o0+0,none⟩)) R hH hM h1 hb (by simp only [AA];exact ⟨b0,o0,vs0,rfl,hr0,vF⟩)
 exact ⟨g,_,rfl,(hr _ (MY w _ _ _ _)).1,(hr _ (MY w _ _ _ _)).2,by simp [AA]⟩
theorem dP {c:Int} {id:Nat} {x:AV} {H:AH} (hH:H.at id=some (.box [x])) :
  CS zP Ca 27 [.iface 101 (.int .i64 c),.iface 109 (.ptr id 0)] H (.bool true) (H.set id (some (.box [.int .i64 c]))):=by
 intro g w cargs R hG hA;simp only [AB,AA] at hA;obtain ⟨v0,ws0,rfl,⟨y0,rfl,rfl⟩,v1,ws1,rfl,⟨y1,rfl,b,hM,rfl⟩,rfl⟩:=hA;obtain ⟨vs,el,h1,h2,h3⟩:=Hd R hH hM;simp only [AB] at h2;obtain ⟨ov,ws,rfl,_,rfl⟩:=h2;have hc:w.cell? ⟨b,0,none⟩=some ov:=by simpa using h3 0 ov rfl
 have hf:w.frozen? ⟨b,0,none⟩=false:=by simp [World.frozen?,h1]
 refine (As.hitN c ⟨b,0,none⟩ ov w (O5 hG R) hc hf).mono ?_;rintro e w' ⟨rfl,rfl⟩;have hr:=fun W4 hb=>TN (W4:=W4) (a := .int .i64 c) (v := .int .i64 c) R hH hM h1 hb (by simp only [AA])
 exact ⟨g,_,rfl,(hr _ (MY w _ _ _ _)).1,(hr _ (MY w _ _ _ _)).2,by simp [AA]⟩
theorem dQ {c:Int} {id:Nat} {H:AH} :
  CS zP Ca 27 [.iface 101 (.int .i64 c),.iface 104 (.ptr id 0)] H (.bool false) H:=by
 intro g w cargs R hG hA;simp only [AB,AA] at hA;obtain ⟨v0,ws0,rfl,⟨y0,rfl,rfl⟩,v1,ws1,rfl,⟨y1,rfl,b,hM,rfl⟩,rfl⟩:=hA;refine (As.missF c ⟨b,0,none⟩ w (O5 hG R)).mono ?_;rintro e w' ⟨rfl,rfl⟩;obtain ⟨R',P'⟩:=R.below (TO w _ _ _);exact ⟨g,_,rfl,R',P',by simp [AA]⟩
end Go.Proofs.YtmjfldclpijghaaGreatDoor
