import Derived.Test.YtjmgalpkbkcmkaaGreatDoorProg
import Derived.RangeFuncNested
import Derived.RangeFuncBound
import Derived.RangeFuncCalls
import Derived.RangeFuncLeaves
import Derived.WalkKit
import Derived.OwnWalkIn
import Derived.TacticsInMore
import Derived.LoopNIn
import Derived.LoopIn
import Derived.WalkSpells
import Derived.WalkLawsBesides
import Derived.ProofKit
import Derived.OpenShut
import Derived.Deep.DeepHandedRow
import Derived.Lib.LaidTab
import Derived.Lib.Hide
import Derived.Lib.IndexBytes
import Derived.Lib.SplitLaws
import Derived.Lib.CutLaws
import Derived.Shelf.Strings.Trim
import Derived.Shelf.Small.Utf8
import Derived.Shelf.Small.Bits
import Derived.Shelf.Small.Strs
import Derived.Shelf.Small.Wraps
import Derived.Shelf.Strconv.Itoa0
import Derived.Shelf.Strings.Search1
import Derived.Shelf.Strings.Search2
import Derived.Shelf.Strings.Search3
import Derived.Shelf.Strings.Count
import Derived.Shelf.LaysM
import Derived.Shelf.Strings.Shaped
import Derived.Shelf.GgClosure.StringsIndexFunc
import Derived.Ground.GgwProg
import Derived.Shelf.GgClosure.StringsIndexFuncTop
import Derived.Shelf.Strings.Prefix
import Derived.Shelf.Strings.Split
import Derived.Shelf.Strings.SplitShaped
import Derived.Shelf.Strings.Runes
import Derived.Shelf.Strings.AsciiSet
import Derived.Shelf.Bits.Mul64
import Derived.Shelf.Unicode.DecodeSlow
import Derived.Shelf.Slices.Turned
import Derived.Shelf.Slices.Equal
import Derived.Ground.Names2Prog
import Derived.Shelf.Slices.SearchI
import Derived.Shelf.Slices.Empties2
import Derived.Ground.SlbCloneProg
import Derived.Shelf.Bytes.SlClone
import Derived.Ground.SlsfProg
import Derived.Shelf.SlSortCmp.InsertionK
import Derived.Shelf.SlSortCmp.SiftDownK
import Derived.Shelf.SlSortCmp.HeapSortK
import Derived.Shelf.SlSortCmp.MedianK
import Derived.Shelf.SlSortCmp.PivotK
import Derived.Shelf.SlSortCmp.ReverseRangeK
import Derived.Shelf.SlSortCmp.PartialInsertionK
import Derived.Shelf.SlSortCmp.PartitionEqualK
import Derived.Shelf.SlSortCmp.PartitionK
import Derived.Shelf.SlSortCmp.PdqK
import Derived.Shelf.SlSortCmp.WholeK
import Derived.Shelf.Bytes.SlEqualAll
import Derived.Shelf.Bytes.Small
import Derived.Deep.QuietTactic
import Derived.BigQuiet
import Derived.Orders
import Derived.OrdersIn
import Derived.Tactics
import Derived.Deep.Cut
import Derived.Shelf.Strings.SlTrimAscii
import Derived.Maps.OwnIn
import Derived.Maps.AppendAt
import Derived.Laws.OwnMore
import Derived.Laws.IdiomCopy
import Derived.Lib.SliceRun
import Derived.WideKeyPair
import Derived.Deep.RegionHeld3
import Derived.Laws.EntriesVeiled
import Derived.LoopTactic
import Derived.Stop.RegionWithIn
import Derived.Lib.AppendStr
import Derived.Deep.CutBlock
import Derived.Laws.Cover3
import Derived.Lib.ItoaNum
import Derived.Deep.DeepCutAuto
import Derived.Laws.Externs
import Derived.ControlIn
import Derived.IntWalk
import Derived.Laws.MakeOwn
import Derived.Deep.AppendLies
import Derived.Deep.Onto
import Derived.Lib.AppendZerosOnto
import Derived.Laws.IdiomStrings
import Derived.Shelf.Bytes.SlSmallAll
import Derived.Laws.RangeAny
import Derived.ChangeKeysEq
import Derived.Deep.RegionHeld
import Derived.Defers
import Derived.Recover
import Derived.RegionTactic
import Derived.ChangeAlike
import Derived.WalkMore
import Derived.Sort.CutIn
import Derived.BigRegionIn
import Derived.Deep.AppendSrc
import Derived.Lib.SlBytesConst
import Derived.Deep.Slices
import Derived.ChangeSame
import Derived.LaidMore
import Derived.LaidHandle
import Derived.WideShapes
import Derived.MakeChecks
set_option linter.all false
namespace Go.Proofs.YtjmgalpkbkcmkaaGreatDoor
open Go.RowKit Go.Proofs.Tryz
open Go renaming TypeId->WR,cell_of_row->Uc,World->UN,Value->UV,frozen_of_row->VQ
open Go.RowKit renaming Hid->VK
open Option renaming none->U8,some->Ts
def P0{n:Nat}{w:UN}:Below n w w:=Below.refl _ _
def P1{α:Sort _}{q:Prop}(a:α)(k:∀x,a=x->q):q:=k a rfl
def P3{p0 p1 p2 q:Prop}(hp0:p0)(hp1:p1)(hp2:p2)(k:VK p0->VK p1->VK p2->q):q:=
 k hp0 hp1 hp2
def P4{p0 p1 q:Prop}(hp0:p0)(hp1:p1)(k:VK p0->VK p1->q):q:=
 k hp0 hp1
def P5{p0 p1 p2 p3 q:Prop}(hp0:p0)(hp1:p1)(hp2:p2)(hp3:p3)(k:VK p0->VK p1->VK p2->VK p3->q):q:=
 k hp0 hp1 hp2 hp3
def P2{P:Program}{f:FuncId}{a:Array UV}{w:UN}{R:UN->Prop}{E:Ending}{Q:Ending->UN->Prop}(c:Calls P f a w fun e W=>e=E/\R W)(k:∀W,R W->Q E W):Calls P f a w Q:=c.mono fun e W h=>h.1▸k W h.2
def P7:(∀{α:Type}{l:List α}{i:Nat}{a:α},l.toArray.setIfInBounds i a=(l.set i a).toArray)/\(∀{α:Type}{l:List α}{a b:α}{n:Nat},(a::l).set (n+1) b=a::l.set n b)/\(∀{α:Type}{l:List α}{a b:α},(a::l).set 0 b=b::l):=
 by simp
def P8{p0 p1 p2 p3 p4 p5 p6 p7 q:Prop}(hp0:p0)(hp1:p1)(hp2:p2)(hp3:p3)(hp4:p4)(hp5:p5)(hp6:p6)(hp7:p7)(k:VK p0->VK p1->VK p2->VK p3->VK p4->VK p5->VK p6->VK p7->q):q:=
 k hp0 hp1 hp2 hp3 hp4 hp5 hp6 hp7
def P9{p0 p1 p2 p3 p4 p5 q:Prop}(hp0:p0)(hp1:p1)(hp2:p2)(hp3:p3)(hp4:p4)(hp5:p5)(k:VK p0->VK p1->VK p2->VK p3->VK p4->VK p5->q):q:=
 k hp0 hp1 hp2 hp3 hp4 hp5
def PC{p0 p1 p2 p3 p4 q:Prop}(hp0:p0)(hp1:p1)(hp2:p2)(hp3:p3)(hp4:p4)(k:VK p0->VK p1->VK p2->VK p3->VK p4->q):q:=
 k hp0 hp1 hp2 hp3 hp4
def PD:(∀{α:Type}{a b:α}{l:List α},a∈b::l↔a=b\/a∈l)/\(∀{α:Type}{a:α},¬a∈([]:List α))/\(∀p:Prop,(p\/False)=p):=
 by simp
def PF(w:UN)(B:Nat){q:Prop}(v0 v1 v2:UV)(k:∀V,((w.setCell ⟨B,0,U8⟩ v0).setCell ⟨B,1,U8⟩ v1).setCell ⟨B,2,U8⟩ v2=V->q):q:=k _ rfl
def PG{p0 p1 p2 p3 p4 p5 p6 q:Prop}(hp0:p0)(hp1:p1)(hp2:p2)(hp3:p3)(hp4:p4)(hp5:p5)(hp6:p6)(k:VK p0->VK p1->VK p2->VK p3->VK p4->VK p5->VK p6->q):q:=
 k hp0 hp1 hp2 hp3 hp4 hp5 hp6
def PH{p0 p1 p2 p3 p4 p5 p6 p7 p8 p9 q:Prop}(hp0:p0)(hp1:p1)(hp2:p2)(hp3:p3)(hp4:p4)(hp5:p5)(hp6:p6)(hp7:p7)(hp8:p8)(hp9:p9)(k:VK p0->VK p1->VK p2->VK p3->VK p4->VK p5->VK p6->VK p7->VK p8->VK p9->q):q:=
 k hp0 hp1 hp2 hp3 hp4 hp5 hp6 hp7 hp8 hp9
def PI(w:UN)(B:Nat){q:Prop}(v0 v1:UV)(k:∀V,(w.setCell ⟨B,0,U8⟩ v0).setCell ⟨B,1,U8⟩ v1=V->q):q:=k _ rfl
def PJ{p0 p1 p2 p3 p4 p5 p6 p7 p8 q:Prop}(hp0:p0)(hp1:p1)(hp2:p2)(hp3:p3)(hp4:p4)(hp5:p5)(hp6:p6)(hp7:p7)(hp8:p8)(k:VK p0->VK p1->VK p2->VK p3->VK p4->VK p5->VK p6->VK p7->VK p8->q):q:=
 k hp0 hp1 hp2 hp3 hp4 hp5 hp6 hp7 hp8
def PK{w:UN}{g:Nat}{cs:Array UV}{t:WR}{fr:Nat×Nat}{q:Prop}(h:w.heap[g]?=Ts (.cells cs t fr))(k:w.cell? ⟨g,0,U8⟩=cs[0]?->w.cell? ⟨g,1,U8⟩=cs[1]?->w.cell? ⟨g,2,U8⟩=cs[2]?->q):q:=
 k (Uc w g 0 cs t fr h) (Uc w g 1 cs t fr h) (Uc w g 2 cs t fr h)
def PL{w:UN}{g:Nat}{cs:Array UV}{t:WR}{q:Prop}(h:w.heap[g]?=Ts (.cells cs t (0,0)))(k:w.frozen? ⟨g,0,U8⟩=false->w.frozen? ⟨g,1,U8⟩=false->w.frozen? ⟨g,2,U8⟩=false->q):q:=
 k (VQ w g 0 cs t h) (VQ w g 1 cs t h) (VQ w g 2 cs t h)
def PM{w:UN}{g:Nat}{cs:Array UV}{t:WR}{fr:Nat×Nat}{q:Prop}(h:w.heap[g]?=Ts (.cells cs t fr))(k:w.cell? ⟨g,0,U8⟩=cs[0]?->w.cell? ⟨g,1,U8⟩=cs[1]?->q):q:=
 k (Uc w g 0 cs t fr h) (Uc w g 1 cs t fr h)
def PO{w:UN}{g:Nat}{cs:Array UV}{t:WR}{q:Prop}(h:w.heap[g]?=Ts (.cells cs t (0,0)))(k:w.frozen? ⟨g,0,U8⟩=false->w.frozen? ⟨g,1,U8⟩=false->q):q:=
 k (VQ w g 0 cs t h) (VQ w g 1 cs t h)
def PP{w W:UN}{o:Obj}{D:Nat}(h:w.alloc o=W)(hd:w.heap.size=D):W.heap[D]?=Ts o:=by rw[<-h,<-hd];exact World.alloc_heap_new _ _
def PQ(w:UN)(B:Nat){q:Prop}(v0 v1 v2 v3:UV)(k:∀V,(((w.setCell ⟨B,0,U8⟩ v0).setCell ⟨B,1,U8⟩ v1).setCell ⟨B,2,U8⟩ v2).setCell ⟨B,3,U8⟩ v3=V->q):q:=k _ rfl
def PR{w:UN}{g:Nat}{cs:Array UV}{t:WR}{fr:Nat×Nat}{q:Prop}(h:w.heap[g]?=Ts (.cells cs t fr))(k:w.cell? ⟨g,0,U8⟩=cs[0]?->w.cell? ⟨g,1,U8⟩=cs[1]?->w.cell? ⟨g,2,U8⟩=cs[2]?->w.cell? ⟨g,3,U8⟩=cs[3]?->q):q:=
 k (Uc w g 0 cs t fr h) (Uc w g 1 cs t fr h) (Uc w g 2 cs t fr h) (Uc w g 3 cs t fr h)
def PS{w:UN}{g:Nat}{cs:Array UV}{t:WR}{q:Prop}(h:w.heap[g]?=Ts (.cells cs t (0,0)))(k:w.frozen? ⟨g,0,U8⟩=false->w.frozen? ⟨g,1,U8⟩=false->w.frozen? ⟨g,2,U8⟩=false->w.frozen? ⟨g,3,U8⟩=false->q):q:=
 k (VQ w g 0 cs t h) (VQ w g 1 cs t h) (VQ w g 2 cs t h) (VQ w g 3 cs t h)
def PT(w:UN)(B:Nat){q:Prop}(v0 v1 v2 v3 v4 v5 v6 v7 v8 v9 v10 v11 v12:UV)(k:∀V,((((((((((((w.setCell ⟨B,0,U8⟩ v0).setCell ⟨B,1,U8⟩ v1).setCell ⟨B,2,U8⟩ v2).setCell ⟨B,3,U8⟩ v3).setCell ⟨B,4,U8⟩ v4).setCell ⟨B,5,U8⟩ v5).setCell ⟨B,6,U8⟩ v6).setCell ⟨B,7,U8⟩ v7).setCell ⟨B,8,U8⟩ v8).setCell ⟨B,9,U8⟩ v9).setCell ⟨B,10,U8⟩ v10).setCell ⟨B,11,U8⟩ v11).setCell ⟨B,12,U8⟩ v12=V->q):q:=k _ rfl
def PU:(∀{α:Type}{l:List α}{i:Nat}{a:α},l.toArray.setIfInBounds i a=(l.set i a).toArray)/\(∀{α:Type}{l:List α}{a b:α}{n:Nat},(a::l).set (n+1) b=a::l.set n b)/\(∀{α:Type}{l:List α}{a b:α},(a::l).set 0 b=b::l):=
 by simp
def PV:(∀{α:Type}{x:α}{l:List α}{d:α}{n:Nat},(x::l).getD (n+1) d=l.getD n d)/\(∀{α:Type}{x:α}{l:List α}{d:α},(x::l).getD 0 d=x)/\(∀{α:Type}{l:List α}{i:Nat}{a:α},l.toArray.setIfInBounds i a=(l.set i a).toArray)/\(∀{α:Type}{l:List α}{a b:α}{n:Nat},(a::l).set (n+1) b=a::l.set n b)/\(∀{α:Type}{l:List α}{a b:α},(a::l).set 0 b=b::l):=
 by simp
def PW:(∀{α:Type}{x:α}{l:List α}{d:α}{n:Nat},(x::l).getD (n+1) d=l.getD n d)/\(∀{α:Type}{x:α}{l:List α}{d:α},(x::l).getD 0 d=x):=
 by simp
def PX{w:UN}{g:Nat}{cs:Array UV}{t:WR}{fr:Nat×Nat}{q:Prop}(h:w.heap[g]?=Ts (.cells cs t fr))(k:w.cell? ⟨g,0,U8⟩=cs[0]?->w.cell? ⟨g,1,U8⟩=cs[1]?->w.cell? ⟨g,2,U8⟩=cs[2]?->w.cell? ⟨g,3,U8⟩=cs[3]?->w.cell? ⟨g,4,U8⟩=cs[4]?->w.cell? ⟨g,5,U8⟩=cs[5]?->w.cell? ⟨g,6,U8⟩=cs[6]?->q):q:=
 k (Uc w g 0 cs t fr h) (Uc w g 1 cs t fr h) (Uc w g 2 cs t fr h) (Uc w g 3 cs t fr h) (Uc w g 4 cs t fr h) (Uc w g 5 cs t fr h) (Uc w g 6 cs t fr h)
def PY{w:UN}{g:Nat}{cs:Array UV}{t:WR}{q:Prop}(h:w.heap[g]?=Ts (.cells cs t (0,0)))(k:w.frozen? ⟨g,0,U8⟩=false->w.frozen? ⟨g,1,U8⟩=false->w.frozen? ⟨g,2,U8⟩=false->w.frozen? ⟨g,3,U8⟩=false->w.frozen? ⟨g,4,U8⟩=false->w.frozen? ⟨g,5,U8⟩=false->w.frozen? ⟨g,6,U8⟩=false->q):q:=
 k (VQ w g 0 cs t h) (VQ w g 1 cs t h) (VQ w g 2 cs t h) (VQ w g 3 cs t h) (VQ w g 4 cs t h) (VQ w g 5 cs t h) (VQ w g 6 cs t h)
def PZ{w:UN}{g:Nat}{cs:Array UV}{t:WR}{fr:Nat×Nat}{q:Prop}(h:w.heap[g]?=Ts (.cells cs t fr))(k:w.cell? ⟨g,5,U8⟩=cs[5]?->w.cell? ⟨g,6,U8⟩=cs[6]?->q):q:=
 k (Uc w g 5 cs t fr h) (Uc w g 6 cs t fr h)
def Pa{w:UN}{g:Nat}{cs:Array UV}{t:WR}{q:Prop}(h:w.heap[g]?=Ts (.cells cs t (0,0)))(k:w.frozen? ⟨g,5,U8⟩=false->w.frozen? ⟨g,6,U8⟩=false->q):q:=
 k (VQ w g 5 cs t h) (VQ w g 6 cs t h)
def Pb{w:UN}{g:Nat}{cs:Array UV}{t:WR}{fr:Nat×Nat}{q:Prop}(h:w.heap[g]?=Ts (.cells cs t fr))(k:w.cell? ⟨g,0,U8⟩=cs[0]?->w.cell? ⟨g,1,U8⟩=cs[1]?->w.cell? ⟨g,2,U8⟩=cs[2]?->w.cell? ⟨g,3,U8⟩=cs[3]?->w.cell? ⟨g,4,U8⟩=cs[4]?->w.cell? ⟨g,5,U8⟩=cs[5]?->w.cell? ⟨g,6,U8⟩=cs[6]?->w.cell? ⟨g,7,U8⟩=cs[7]?->w.cell? ⟨g,8,U8⟩=cs[8]?->w.cell? ⟨g,9,U8⟩=cs[9]?->w.cell? ⟨g,10,U8⟩=cs[10]?->w.cell? ⟨g,11,U8⟩=cs[11]?->w.cell? ⟨g,12,U8⟩=cs[12]?->q):q:=
 k (Uc w g 0 cs t fr h) (Uc w g 1 cs t fr h) (Uc w g 2 cs t fr h) (Uc w g 3 cs t fr h) (Uc w g 4 cs t fr h) (Uc w g 5 cs t fr h) (Uc w g 6 cs t fr h) (Uc w g 7 cs t fr h) (Uc w g 8 cs t fr h) (Uc w g 9 cs t fr h) (Uc w g 10 cs t fr h) (Uc w g 11 cs t fr h) (Uc w g 12 cs t fr h)
def Pc(w:UN)(B:Nat){q:Prop}(v0 v1 v2 v3 v4 v5 v6:UV)(k:∀V,((((((w.setCell ⟨B,0,U8⟩ v0).setCell ⟨B,1,U8⟩ v1).setCell ⟨B,2,U8⟩ v2).setCell ⟨B,3,U8⟩ v3).setCell ⟨B,4,U8⟩ v4).setCell ⟨B,5,U8⟩ v5).setCell ⟨B,6,U8⟩ v6=V->q):q:=k _ rfl
def Pd{w:UN}{g:Nat}{cs:Array UV}{t:WR}{fr:Nat×Nat}{q:Prop}(h:w.heap[g]?=Ts (.cells cs t fr))(k:w.cell? ⟨g,0,U8⟩=cs[0]?->w.cell? ⟨g,1,U8⟩=cs[1]?->w.cell? ⟨g,2,U8⟩=cs[2]?->w.cell? ⟨g,3,U8⟩=cs[3]?->w.cell? ⟨g,4,U8⟩=cs[4]?->w.cell? ⟨g,5,U8⟩=cs[5]?->q):q:=
 k (Uc w g 0 cs t fr h) (Uc w g 1 cs t fr h) (Uc w g 2 cs t fr h) (Uc w g 3 cs t fr h) (Uc w g 4 cs t fr h) (Uc w g 5 cs t fr h)
def Pe(w:UN)(B:Nat){q:Prop}(v0 v1 v2 v3 v4 v5:UV)(k:∀V,(((((w.setCell ⟨B,0,U8⟩ v0).setCell ⟨B,1,U8⟩ v1).setCell ⟨B,2,U8⟩ v2).setCell ⟨B,3,U8⟩ v3).setCell ⟨B,4,U8⟩ v4).setCell ⟨B,5,U8⟩ v5=V->q):q:=k _ rfl
def Pf{w:UN}{g:Nat}{cs:Array UV}{t:WR}{q:Prop}(h:w.heap[g]?=Ts (.cells cs t (0,0)))(k:w.frozen? ⟨g,0,U8⟩=false->w.frozen? ⟨g,1,U8⟩=false->w.frozen? ⟨g,2,U8⟩=false->w.frozen? ⟨g,3,U8⟩=false->w.frozen? ⟨g,4,U8⟩=false->w.frozen? ⟨g,5,U8⟩=false->q):q:=
 k (VQ w g 0 cs t h) (VQ w g 1 cs t h) (VQ w g 2 cs t h) (VQ w g 3 cs t h) (VQ w g 4 cs t h) (VQ w g 5 cs t h)
abbrev zz:UV:=Value.slice U8 0 0
def Pg{p}(h:p:=by kernel_rfl):p:=h
def Ph{p}(h:p:=by omega):p:=h
def Pi{p}(h:p:=by decide):p:=h
def Pj{p}(h:p:=by decide+kernel):p:=h
def Pk{p}(h:p:=by rw[<-d,<-C];simp[go_sem]):p:=h
def Pm{p}(h:p:=by simp):p:=h
def Pn{p}(h:p:=by rw[<-d,<-C];have:=World.alloc_heap_new (w.alloc (Obj.cells #[Value.int IntKind.i64 c.serial,Value.string (aL c.issuer),Value.string (aL c.subject),ag c.key,Value.slice x.na c.names.length x.nc,Value.int IntKind.i64 c.from_,Value.int IntKind.i64 c.until_,Value.bool c.ca,Value.int IntKind.i64 c.depth,Value.slice x.pa c.permit.length x.pc,Value.slice x.ra c.proms.length x.rc,ag c.sig.e,ag c.sig.s] 97)) (Obj.cells #[Value.int IntKind.i64 0,zz,zz] 245);rwa[World.size_alloc]at this):p:=h
def Po{p}(h:p:=by rw[<-d,<-hb];simp[go_sem]):p:=h
def Pp{p}(h:p:=by simp;omega):p:=h
def Pq{p}(h:p:=by rw[<-d];exact af P0 _):p:=h
def Pr{p}(h:p:=by unfold maxLen;omega):p:=h
def Ps{p}(h:p:=by rw[Z.out];rfl):p:=h
def Pt{p}(h:p:=by go_num):p:=h
def Pu{p}(h:p:=by simp[Value.oneCell']):p:=h
def Pv{p}(h:p:=by simp[iy,results,results210,go_sem,q0,q1,q2]):p:=h
def Pw{p}(h:p:=by rw[<-d];simp[go_sem]):p:=h
def Px{p}(h:p:=by unfold Addr.add;split<;>simp_all):p:=h
def Py{p}(h:p:=by rw[List.length_drop];omega):p:=h
def Pz{p}(h:p:=by rw[<-d];exact af (af P0 _) _):p:=h
def Q4{p}(h:p:=by simp[results,results250,go_sem]):p:=h
def Q5{p}(h:p:=by have m:j=U:=Q;exact⟨by omega,fun e=>by have:=HOB.out j e;omega⟩):p:=h
def Q6{p}(h:p:=by simp[Value.oneCell',ag]):p:=h
def Q7{p}(h:p:=by rw[t.out,List.map_append];exact ownsRow_setCell_below (ownsRow_setCell_below (ee U C) (show w.heap.size+1+1<f.heap.size by omega) _) (show w.heap.size+1+1<f.heap.size by omega) _):p:=h
def Q8{p}(h:p:=by rfl):p:=h
def Q9{p}(h:p:=by rw[World.size_alloc];omega):p:=h
def QA{p}(h:p:=by rw[<-T];exact af P0 _):p:=h
def QB{p}(h:p:=by have:=HDK.out;omega):p:=h
def QC{p}(h:p:=by congr 1;apply propext;omega):p:=h
def QD{p}(h:p:=by rw[List.length_take];omega):p:=h
def QE{p}(h:p:=by simp[results,results11,go_sem,q0,q1]):p:=h
def QG{p}(h:p:=by simp only[List.length_cons,List.length_nil];omega):p:=h
def QH{p}(h:p:=by rw[u.out];exact Nat.le_refl _):p:=h
def QI{p}(h:p:=by rw[<-hV];exact(Fr.setCell (S:=fun k=>k=D) O ⟨D,0,none⟩ _ rfl).trans (Fr.drew _ _)):p:=h
def QJ{p}(h:p:=by simpa using h):p:=h
def QK{p}(h:p:=by rintro(h|h|h)<;>first|exact h|omega):p:=h
def QL{p}(h:p:=by rw[<-Y,<-L];exact ai (World.alloc_heap_new t _) (af P0 _)):p:=h
def QN{p}(h:p:=by simp only[List.length_append,List.length_cons,List.length_nil,HN.out,u.out];omega):p:=h
def QQ{p}(h:p:=by rw[<-Y];exact af P0 _):p:=h
def QO{p}(h:p:=by simp[results,results44,go_sem,q0,q1]):p:=h
def QP{p}(h:p:=by simp[results,results99,go_sem,q0,q1]):p:=h
def QR{p}(h:p:=by have:=J 0 _ rfl;rwa[Nat.add_zero]at this):p:=h
def QS{p}(h:p:=by simp[Fence.wide]):p:=h
def QT{p}(h:p:=by rw[HL.out];exact Nat.le_refl _):p:=h
def QU{p}(h:p:=by rw[<-hV];exact(heap_setCell_same O D 0 _ _ _ b).trans (by simp)):p:=h
def QW{p}(h:p:=by rw[gu (by omega) (by omega)];omega):p:=h
def QX{p}(h:p:=by simp at h):p:=h
def QY{p}(h:p:=by simp[results,results210,go_sem,q0,q1,q2]):p:=h
def QV{p}(h:p:=by rintro w w'⟨L,h1⟩F;exact⟨ai L F,h1.trans (Fr.of_ext F)⟩):p:=h
def QZ{p}(h:p:=by rintro w w'⟨L,h1⟩G;exact⟨ai L G,h1.trans (Fr.of_ext G)⟩):p:=h
def Qb{p}(h:p:=by simp[results,results182,go_sem,q0,q1]):p:=h
def Qc{p}(h:p:=by rw[<-d,World.size_alloc,World.size_alloc,C]):p:=h
def Qd{p}(h:p:=by simp[results,results46,go_sem,q0,q1]):p:=h
def Qe{p}(h:p:=by have:=HDG.out;omega):p:=h
def Qg{p}(h:p:=by show name.toArray.size<=maxLen;rw[List.size_toArray];have:=HNL.out;unfold maxLen;omega):p:=h
def Qa{p}(h:p:=by rw[<-HP.out];unfold jG;rw[if_neg (by rw[S.out];decide)]):p:=h
def Qh{p}(h:p:=by have e':i=D:=e;omega):p:=h
def Qi{p}(h:p:=by rw[<-T,<-C];exact(Below.heap_alloc _ _ _ (by simp)).trans (World.alloc_heap_new _ _)):p:=h
def Qj{p}(h:p:=by rcases ah6 hi with rfl|rfl|rfl|rfl<;>rfl):p:=h
def Qk{p}(h:p:=by rintro k(h|h)<;>(have:=HDD.out;have:=HZ.out;omega)):p:=h
def Qf{p}(h:p:=by simp[fl,z.out,B.out,F.out,K.out,M.out,X.out,HX7.out,HX8.out,HX9.out,HX10.out]):p:=h
def Qm{p}(h:p:=by rw[List.length_take,List.length_drop,HT.out];omega):p:=h
def Qn{p}(h:p:=by rw[List.length_drop,List.length_drop,HT.out];omega):p:=h
def Ql{p}(h:p:=by rw[t.out,List.map_append];exact ee U C):p:=h
def Vf{p}(h:p:=by first|rfl|(rw[T.out];rfl)):p:=h
def Qr{p}(h:p:=by have:=HBL.out;omega):p:=h
def Qs{p}(h:p:=by simp[results,results118,go_sem,q0,q1,q2,q3]):p:=h
def Qt{p}(h:p:=by have:=R.out p Y;have:=HZ.out;rintro(h|h)<;>omega):p:=h
def Vi{p}(h:p:=by rw[<-P,<-u];simp[go_sem]):p:=h
def Xr{p}(h:p:=by simp[results,results28,go_sem,q0,q1,q2,q3,q4,q5,r0,r1,r2,r3,r4,r5]):p:=h
def Qv{p}(h:p:=by have:=HOB.out j e;omega):p:=h
def Qw{p}(h:p:=by simp[results,results64,go_sem,q0,q1,q2]):p:=h
def Qx{p}(h:p:=by rw[<-d,World.size_alloc,C]):p:=h
def Qy{p}(h:p:=by have h1:=o.1;have h2:=o.2;have A:=HD.out;exact⟨by omega,by omega,h2⟩):p:=h
def Qz{p}(h:p:=by have:=HSE.out;have e':i=E:=e;omega):p:=h
def Xf{p}(h:p:=by rw[<-Y,<-C];simp[go_sem]):p:=h
def R5{p}(h:p:=by rw[<-Q,<-g];simp[go_sem]):p:=h
def R7{p}(h:p:=by rw[<-T,<-g];simp[go_sem]):p:=h
def R8{p}(h:p:=by rw[<-m,<-K];simp[go_sem]):p:=h
def R9{p}(h:p:=by have:=run_endLoop (P:=P) F (by rw[y];simp);rw[y]at this;exact this):p:=h
def ZH{p}(h:p:=by have:=run_endLoop (P:=P) H (by rw[q];simp);rw[q]at this;exact this):p:=h
def RC{p}(h:p:=by rw[cL];omega):p:=h
def Vj{p}(h:p:=by rintro rfl;obtain⟨_,_,_,e⟩:=d _ _ L;cases e):p:=h
def RF{p}(h:p:=by rw[HLI.out];omega):p:=h
def Qo{p}(h:p:=by simp[results,results34,go_sem,q0,q1,q2,Y,P,W,Q,X,V,N,E,I,A]):p:=h
def RH{p}(h:p:=by cases e):p:=h
def RI{p}(h:p:=by rw[List.length_take,List.length_drop];omega):p:=h
def RJ{p}(h:p:=by rw[<-HV6.out];simp[World.setCell]):p:=h
def RK{p}(h:p:=by have:=CDL.out;omega):p:=h
def Qq{p}(h:p:=by have:=Z.out;have e:i=m:=hi;omega):p:=h
def RM{p}(h:p:=by simpa using hi):p:=h
def RO{p}(h:p:=by rw[Nat.add_assoc];exact J):p:=h
def RP{p}(h:p:=by rw[List.length_take,List.length_drop,Nat.min_eq_left (by omega)]):p:=h
def RQ{p}(h:p:=by rw[aI];omega):p:=h
def RS{p}(h:p:=by rw[<-T];exact af (af P0 _) _):p:=h
def RT{p}(h:p:=by unfold cF;rw[List.length_append,List.length_append,aI,aT];omega):p:=h
def RU{p}(h:p:=by rw[U.out,HGG.out,show((K-g:Nat):Int)=(K:Int)-(g:Int) by omega]):p:=h
def RV{p}(h:p:=by rintro w w'⟨L,h1⟩hE;exact⟨ai L hE,h1.trans (Fr.of_ext hE)⟩):p:=h
def RW{p}(h:p:=by have:=HZ.out;omega):p:=h
def Re{p}(h:p:=by rw[B.out];rfl):p:=h
def RY{p}(h:p:=by rintro k(h|h|h)<;>first|exact h.elim|(have:=HDD.out;omega)):p:=h
def RZ{p}(h:p:=by rw[<-o];exact((HB.set0 _).set1 _).set2 _):p:=h
def Ra{p}(h:p:=by rw[List.drop_take,List.take_take,Nat.min_eq_left (by omega)]):p:=h
def Qu{p}(h:p:=by simp[results,results12,go_sem,q0,q1,q2,R,N,Q,P,r0,r1]):p:=h
def Rc{p}(h:p:=by rw[<-Y];exact af (af P0 _) _):p:=h
def Rd{p}(h:p:=by simpa using d.resolve_left c1):p:=h
def RA{p}(h:p:=by rw[fv t.out,c.out,r];rfl):p:=h
def Rf{p}(h:p:=by rw[h];decide):p:=h
def RD{p}(h:p:=by rw[l.out];exact mP.no (by decide) j.2):p:=h
def RG{p}(h:p:=by have m:i=U:=e;omega):p:=h
def RL{p}(h:p:=by have m:D=U:=e;omega):p:=h
def RX{p}(h:p:=by rw[R.out];exact mP.no (by decide) l.2):p:=h
def Rb{p}(h:p:=by simp[results,results9,go_sem,q0,q1,q2,V,S,U,T,r0,r1]):p:=h
def Rq{p}(h:p:=by rw[<-d];exact(((Boxed.new _ _ _).alloc _).alloc _).alloc _):p:=h
def Rr{p}(h:p:=by simp[results,results13,go_sem,q0,q1,q2,q3,q4,q5,q6]):p:=h
def Rt{p}(h:p:=by simp[results,results14,go_sem,q0,q1,q2,q3,q4,q5,q6]):p:=h
def Ru{p}(h:p:=by first|assumption|exact ap _|exact P0):p:=h
def Rv{p}(h:p:=by have:=H_10_0.out;have e':i=g:=hi;omega):p:=h
def Rw{p}(h:p:=by cases h):p:=h
def Vs{p}(h:p:=by subst e;exact u.out.symm.trans (eh L)):p:=h
def S3{p}(h:p:=by simp[jl,X.out,HX2.out,HX3.out,HX4.out,HX5.out,HX6.out]):p:=h
def S4{p}(h:p:=by simp[results,results49,go_sem]):p:=h
def Rg{p}(h:p:=by simp[results,results16,go_sem,q0,q1,q2,q3,T,q5,U]):p:=h
def S7{p}(h:p:=by first|exact ap _|exact P0):p:=h
def Y4{p}(h:p:=by show Option.map _ (iD (.mk C b l))=none;rw[E.out];rfl):p:=h
def Y5{p}(h:p:=by show Option.map _ (cZ (.mk C b l))=none;rw[E.out];rfl):p:=h
def Y6{p}(h:p:=by show Option.map _ (ij (.mk C b l))=none;rw[E.out];rfl):p:=h
def Y7{p}(h:p:=by show Option.map _ (bO (.mk C b l))=none;rw[E.out];rfl):p:=h
def S8{p}(h:p:=by rw[HT.out];omega):p:=h
def S9{p}(h:p:=by show(0:Nat)<=_;decide):p:=h
def SD{p}(h:p:=by rw[<-H];unfold bk;rw[List.length_append];exact HLL.out):p:=h
def SE{p}(h:p:=by rw[dY];exact Nat.le_refl _):p:=h
def SC{p}(h:p:=by have:=M.out;omega):p:=h
def Y8{p}(h:p:=by show Option.map _ (iD (.mk C b l))=_;rw[E.out];rfl):p:=h
def Y9{p}(h:p:=by show Option.map _ (cZ (.mk C b l))=_;rw[E.out];rfl):p:=h
def YA{p}(h:p:=by show Option.map _ (ij (.mk C b l))=_;rw[E.out];rfl):p:=h
def YC{p}(h:p:=by show Option.map _ (bO (.mk C b l))=_;rw[E.out];rfl):p:=h
def SF{p}(h:p:=by rw[fX];trivial):p:=h
def Rh{p}(h:p:=by rw[E.out];exact Nat.not_lt.1 fun h=>c3 (HR3.2 h)):p:=h
def SG{p}(h:p:=by rw[<-d];simp[Builtin.zeroCells,Value.cells];omega):p:=h
def Ri{p}(h:p:=by rw[<-S.out,<-T.out,s.out,F.out];rfl):p:=h
def SJ{p}(h:p:=by rw[NP.out];exact Nat.le_refl _):p:=h
def SK{p}(h:p:=by rw[bC,Nat.mul_one];exact u.out):p:=h
def Rj{p}(h:p:=by have e':E=D:=e;have:=Z.out;omega):p:=h
def Rn{p}(h:p:=by have:=E.out;omega):p:=h
def SN{p}(h:p:=by rw[show P++[lab]++d=P++lab::d by simp];exact g):p:=h
def SP{p}(h:p:=by rw[h.len];exact Nat.le_refl _):p:=h
def SQ{p}(h:p:=by simp[results,results152,go_sem,q0,q1,q2]):p:=h
def SS{p}(h:p:=by unfold lY;rw[List.take_zero,List.foldl_nil];rfl):p:=h
def ST{p}(h:p:=by rw[U.out];unfold maxLen;omega):p:=h
def SU{p}(h:p:=by rw[<-Y];exact bH _ _ _):p:=h
def SY{p}(h:p:=by rw[J,Nat.succ_mul];omega):p:=h
def Sa{p}(h:p:=by rw[afJ (by omega) (by omega)];omega):p:=h
def Sb{p}(h:p:=by rw[List.length_drop];exact z):p:=h
def Sc{p}(h:p:=by rw[List.take_take,Nat.min_eq_left (by omega)]):p:=h
def Wy{p}(h:p:=by rw[<-Int.natCast_mul,gu (by omega) (by omega)]):p:=h
def Sd{p}(h:p:=by rw[<-T,<-C];simp[go_sem]):p:=h
def Se{p}(h:p:=by rw[<-Y];exact setRow_heap T (D+5) _ _ _ _ HQ):p:=h
def Sf{p}(h:p:=by rw[<-Y];exact setRow_heap t (D+5) _ _ _ _ HQ):p:=h
def Sh{p}(h:p:=by rw[HTK.out,List.any_append,HKW.out];simp[hsb]):p:=h
def Si{p}(h:p:=by rw[beq_eq_false_iff_ne];omega):p:=h
def Sj{p}(h:p:=by simp[fy,aI];omega):p:=h
def Sk{p}(h:p:=by simp[results,results113,go_sem,q0,q1]):p:=h
def Sn{p}(h:p:=by simp[results,results246,go_sem,q0,q1]):p:=h
def So{p}(h:p:=by unfold A8;rw[if_neg (by rw[s.out];decide)]):p:=h
def Rk{p}(h:p:=by obtain⟨la,m,k,Q,rfl,_⟩:=X;exact⟨_,_,_,rfl⟩):p:=h
def Sp{p}(h:p:=by simp[results,results101,go_sem,q0,q1]):p:=h
def Vz{p}(h:p:=by have:=T.out;omega):p:=h
def Wz{p}(h:p:=by obtain⟨p,_,rfl⟩:=List.mem_map.1 U;exact b p):p:=h
def X3{p}(h:p:=by rw[<-r];exact setRow_heap I (D+6) _ _ _ _ E):p:=h
def X4{p}(h:p:=by rw[<-A];exact setRow_heap I (D+6) _ _ _ _ G):p:=h
def Sq{p}(h:p:=by rw[List.length_append];omega):p:=h
def Rl{p}(h:p:=by rw[t.out];exact D.out):p:=h
def Ss{p}(h:p:=by simp[World.cell?,r17]):p:=h
def WA{p}(h:p:=by unfold bS;rw[List.length_map];exact f.out):p:=h
def X5{p}(h:p:=by rw[<-d,<-C];exact(Boxed.new _ _ _).alloc _):p:=h
def Sv{p}(h:p:=by rw[HGL.out,hkb];rfl):p:=h
def Sw{p}(h:p:=by simp[results,results48,go_sem,q0,q1]):p:=h
def Sx{p}(h:p:=by have E:i=D+1:=e;omega):p:=h
def Sy{p}(h:p:=by simp[results,results57,go_sem,q0,q1]):p:=h
def Sz{p}(h:p:=by show(0:Nat)<_;decide):p:=h
def T2{p}(h:p:=by show(1:Nat)<=_;decide):p:=h
def T3{p}(h:p:=by rw[Nat.mul_one]at J;exact J):p:=h
def Rm{p}(h:p:=by rw[L.out,<-HPE.out,S.out];rfl):p:=h
def X6{p}(h:p:=by rw[<-d];exact af (af (af (af P0 _) _) _) _):p:=h
def T4{p}(h:p:=by simp[World.cell?,h5]):p:=h
def X7{p}(h:p:=by simp[results,results19,go_sem,q0,q1]):p:=h
def T5{p}(h:p:=by simp[World.cell?,h1]):p:=h
def X8{p}(h:p:=by rw[K _ (List.mem_cons_self ..)];exact Q):p:=h
def XA{p}(h:p:=by simp[results,results238,go_sem,C]):p:=h
def XB{p}(h:p:=by simp[results,results191,go_sem,J]):p:=h
def XC{p}(h:p:=by have:=HBZ.out;have:=HEW.out.size;omega):p:=h
def T6{p}(h:p:=by have:=HBZ.out;omega):p:=h
def XD{p}(h:p:=by have:=hEd.size;have:=I6.out.size;omega):p:=h
def XE{p}(h:p:=by simp only[List.length_cons]at hi;omega):p:=h
def XG{p}(h:p:=by rw[<-T,<-C];exact World.alloc_heap_new _ _):p:=h
def XH{p}(h:p:=by rw[List.length_drop];have:=l.out;omega):p:=h
def XI{p}(h:p:=by rw[<-E];exact setRow_heap I C _ _ _ _ K):p:=h
def T7{p}(h:p:=by rw[<-hW3,<-hFB];simp[go_sem]):p:=h
def T9{p}(h:p:=by simp[World.cell?,c]):p:=h
def XJ{p}(h:p:=by rw[Int.natCast_mul,Int.natCast_pow];rfl):p:=h
def XK{p}(h:p:=by simp[results,results131,go_sem]):p:=h
def XL{p}(h:p:=by have:=HB.out;rw[N]at this;simpa using this):p:=h
def TC{p}(h:p:=by rw[cL];rfl):p:=h
def TD{p}(h:p:=by have:=hS _ x;omega):p:=h
def WC{p}(h:p:=by rw[A.out,<-s.out]):p:=h
def Rx{p}(h:p:=by rw[t.out];exact(D.set0 false).set1 k):p:=h
def XN{p}(h:p:=by rw[<-m];exact Nat.mod_lt _ (by decide)):p:=h
def XO{p}(h:p:=by rw[<-U];exact Nat.mod_lt _ (by decide)):p:=h
def TF{p}(h:p:=by simp at this;omega):p:=h
def Ro{p}(h:p:=by rw[S.out];decide):p:=h
def YM{p}(h:p:=by show Option.map _ (bO _)=_;rw[hz];rfl):p:=h
def XP{p}(h:p:=by rw[List.length_map,HA.out];exact huc1):p:=h
def TG{p}(h:p:=by rintro(h|h|h)<;>omega):p:=h
def Rz{p}(h:p:=by simpa using f):p:=h
def XQ{p}(h:p:=by simp[results,results238,go_sem]):p:=h
def Ry{p}(h:p:=by have:=T.out;rw[F]at this;exact this):p:=h
def S0{p}(h:p:=by rw[cf];exact List.mem_cons_self ..):p:=h
def S1{p}(h:p:=by rw[Nat.mod_eq_of_lt y.out];exact H):p:=h
def ZY{p}(h:p:=by rw[N.out];push_cast;first|rfl|go_num):p:=h
def YP{p}(h:p:=by show Option.map _ (cZ _)=_;rw[j];rfl):p:=h
def TH{p}(h:p:=by rw[ix.2 K]at c;cases c):p:=h
def XV{p}(h:p:=by rw[<-T];exact af (af (af P0 _) _) _):p:=h
def S5{p}(h:p:=by have:=U.out;omega):p:=h
def XW{p}(h:p:=by rw[UInt8.lt_iff_toNat_lt];exact h):p:=h
def TI{p}(h:p:=by rw[<-r];exact bH _ _ _):p:=h
def Vg{p}(h:p:=by have:=G.out;omega):p:=h
def Za{p}(h:p:=by have:=H.out;have e':i=D+1:=hi;omega):p:=h
def XZ{p}(h:p:=by have:=HQGB.out;have e:i=H:=hi;omega):p:=h
def Xa{p}(h:p:=by intro e;rw[e]at hnl;simp at hnl):p:=h
def YR{p}(h:p:=by rw[List.length_cons,L.out];omega):p:=h
def Xc{p}(h:p:=by funext i;unfold pE;simp[List.getD]):p:=h
def SH{p}(h:p:=by have:=ld cf hi (u i j f) f;omega):p:=h
def Xe{p}(h:p:=by rw[<-HSI.out,<-HSX.out];rfl):p:=h
def TL{p}(h:p:=by have:=H.out.cb;omega):p:=h
def SL{p}(h:p:=by rw[<-j,<-z];simp[go_sem]):p:=h
def Xh{p}(h:p:=by rw[<-c,<-C];simp[go_sem]):p:=h
def Xi{p}(h:p:=by rw[<-o,<-C];simp[go_sem]):p:=h
def Zab{p}(h:p:=by have:=o.1;omega):p:=h
def Zac{p}(h:p:=by rw[HNN.out];exact Nat.le_refl _):p:=h
def Zft{p}(h:p:=by have:=a0.out;have e:i=D:=hi;omega):p:=h
def Zae{p}(h:p:=by rw[HM.out];exact Nat.le_refl _):p:=h
def Zaf{p}(h:p:=by rintro k rfl;have:=U.out;omega):p:=h
def Zag{p}(h:p:=by rw[bK]at m;exact m.1):p:=h
def Zah{p}(h:p:=by rw[HY.out];exact Nat.le_refl _):p:=h
def Zai{p}(h:p:=by rw[HN.out];exact Nat.le_refl _):p:=h
def Zaj{p}(h:p:=by have E:D+1=D:=e;omega):p:=h
def Zak{p}(h:p:=by rw[B.out];exact Nat.le_refl _):p:=h
def Zfn{p}(h:p:=by simpa using M):p:=h
def Zal{p}(h:p:=by rw[l.out];exact Nat.le_refl _):p:=h
def Zfu{p}(h:p:=by rw[V.out];exact Nat.le_refl _):p:=h
def Zdt{p}(h:p:=by rw[N.out,HAL.out];exact HO2.out):p:=h
def Zao{p}(h:p:=by rw[HLI.out];exact Nat.le_refl _):p:=h
def Zap{p}(h:p:=by rw[HS0.out];exact Nat.le_refl _):p:=h
def Zaq{p}(h:p:=by rw[List.length_append,hl];rfl):p:=h
def Zar{p}(h:p:=by simp[e]):p:=h
def Zfv{p}(h:p:=by rw[E.out];exact HR3.out.1 c3):p:=h
def Zas{p}(h:p:=by rw[aW z,List.map_append];rfl):p:=h
def Zat{p}(h:p:=by simp[results,results35]):p:=h
def Zav{p}(h:p:=by rw[<-E];simp[go_sem]):p:=h
def Zaw{p}(h:p:=by rw[aT];omega):p:=h
def Zay{p}(h:p:=by have:=l.out;omega):p:=h
def Zaz{p}(h:p:=by simp[go_sem]):p:=h
def Za0{p}(h:p:=by have E:i=D:=e;omega):p:=h
def Za1{p}(h:p:=by have E:k=D:=e;omega):p:=h
def Za3{p}(h:p:=by simpa using o):p:=h
def Za4{p}(h:p:=by first|rfl|trivial):p:=h
def Za6{p}(h:p:=by show¬g=B+1;omega):p:=h
def Za9{p}(h:p:=by rw[HLRS.out];omega):p:=h
def Zba{p}(h:p:=by show¬G=D+1;omega):p:=h
def Zbb{p}(h:p:=by rw[HCF.out];simp):p:=h
def Zbc{p}(h:p:=by rw[h.check];simp):p:=h
def Zfw{p}(h:p:=by rw[L.out];rfl):p:=h
def Zbd{p}(h:p:=by rw[j];omega):p:=h
def Zbe{p}(h:p:=by trivial):p:=h
def Zbf{p}(h:p:=by rw[<-d];simp):p:=h
def Zbg{p}(h:p:=by rw[b.out.dx];rfl):p:=h
def Zbh{p}(h:p:=by rw[b.out.dw];rfl):p:=h
def Zbi{p}(h:p:=by intro p x;cases x):p:=h
def Zfx{p}(h:p:=by rw[H.out];omega):p:=h
def Zbk{p}(h:p:=by unfold vf;decide):p:=h
def Zbl{p}(h:p:=by unfold Cz;decide):p:=h
def Zbm{p}(h:p:=by first|rfl|go_num):p:=h
def Zbn{p}(h:p:=by dsimp only;omega):p:=h
def Zbo{p}(h:p:=by assumption):p:=h
def Zbp{p}(h:p:=by unfold lJ;omega):p:=h
def Zax{p}(h:p:=by rw[d.out]):p:=h
def Zbq{p}(h:p:=by cases x):p:=h
def Zbr{p}(h:p:=by have:=o.2;omega):p:=h
def Zbs{p}(h:p:=by simpa using g):p:=h
def Zbt{p}(h:p:=by simp[o]):p:=h
def Zbu{p}(h:p:=by simpa using h1):p:=h
def Zbv{p}(h:p:=by show 0<_;omega):p:=h
def Zdb{p}(h:p:=by simpa using t):p:=h
def Zdc{p}(h:p:=by simpa using X):p:=h
def Zdd{p}(h:p:=by simpa using c):p:=h
def Zbw{p}(h:p:=by cases hp):p:=h
def Zbx{p}(h:p:=by simp[c]):p:=h
def Zby{p}(h:p:=by rw[h1];rfl):p:=h
def Zbz{p}(h:p:=by cases o):p:=h
def Zb0{p}(h:p:=by cases z):p:=h
def Zb1{p}(h:p:=by cases m):p:=h
def SM{p}(h:p:=by
 go_upto_region 1 with fail;try rw[d]
 try rw[C]
 by_cases o:t=tag
 .have m:=Lib.hid o;subst o;go_wp2_with fail;refine P2 (c f B) fun S q=>have s:=Lib.hid (aa B q);have P:=ae E q;have U:=ae r q;have Q:=ae G q;?_;cases K:br 8 y with
  |false=>
   have p:=Lib.hid K;go_wp2;go_ret2
   exact⟨_,71,rfl,s,.inr (.inl ⟨rfl,p,rfl,rfl⟩)⟩
  |true=>
   have p:=Lib.hid K;go_wp2_with fail;refine(J Zbe p S s).mono ?_;rintro e I⟨u,rfl,L,l⟩;refine P4 (aa s l) L fun A Z=>?_;go_wp2;go_ret2
   exact⟨_,0,rfl,A,.inr (.inr ⟨rfl,p,Z,rfl⟩)⟩
 .have m:=Lib.hid o;have zs:(t !=tag)=true:=Zbt;go_wp2;go_ret2
  exact⟨_,72,rfl,B,.inl ⟨m,rfl,rfl⟩⟩):p:=h
def TT{p}(h:p:=by
 repeat
  (first|refine az rfl rfl rfl rfl ?_|refine aF rfl rfl rfl rfl ?_|refine aw rfl ?_|refine aj rfl rfl rfl rfl rfl ?_|((first|refine av (v:=?_) rfl rfl (fun hb b l=>?_) ?_|refine ar (v:=?_) rfl rfl rfl (fun c hb b l=>?_) ?_|refine ax (v:=?_) rfl (fun b l=>?_) ?_);rotate_left;(focus(subst l;unfold ak;go_simp;first|exact aD rfl))))
  simp only[Act.put,P7]
 refine aA fun b g=>?_;subst g;go_wp2;go_ret;exact⟨rfl,rfl⟩):p:=h
def TU{p}(h:p:=by
 have hr1:=b.out;have hset:=bx hr1 hDw Id (Value.int IntKind.i64 0) (zz) (zz);refine PF O D (Value.int IntKind.i64 0) (zz) (zz) fun V hV=>?_;rw[hV]at hset;refine P4 hset hV fun HST HV=>PK hr1 fun e0 e1 e2=>PL hr1 fun g0 g1 g2=>?_;clear hr1 hset hV;go_wp2_with fail;rw[HV.out];exact PK HST.1 fun q0 q1 q2=>bodyPost_ret (v:=Value.tuple #[iy,zz,Value.int IntKind.i64 70]) Pv rfl (lH.no HG HST.2)):p:=h
def TV{p}(h:p:=by
 go_simp;try with_reducible rfl):p:=h
def SO{p}(h:p:=by
 have s:=Lib.hid (show aq f t from QA);have M:=(s.block D (Array.getElem?_eq_some_iff.1 l).1).trans l;have E:=bx M y (aa B s) (Value.int IntKind.i64 1) (Value.slice (some ⟨f.heap.size,0,none⟩) 1 1) (zz);refine PF t D (Value.int IntKind.i64 1) (Value.slice (some ⟨f.heap.size,0,none⟩) 1 1) (zz) fun I Y=>?_;rw[Y]at E;refine P4 E Y fun j g=>PK M fun G am F=>PL M fun A g1 g2=>have r:Hid (D<f.heap.size):=Lib.hid (Array.getElem?_eq_some_iff.1 l).1;?_;rw[T];clear T Y;go_wp2_with fail;rw[g.out];refine PK j.1 fun q0 q1 q2=>bodyPost_ret (v:=Value.agg #[Value.int IntKind.i64 1,Value.slice (some ⟨f.heap.size,0,none⟩) 1 1,zz]) SQ rfl ⟨⟨1,some ⟨f.heap.size,0,none⟩,1,1,none,0,0⟩,rfl,?_,j.2⟩;intro H p;rw[bK];obtain⟨a,c,z,_,_,hb⟩:=q.out;cases z;refine⟨rfl,rfl,Nat.le_refl _,by unfold maxLen;simp,?_,rfl,Nat.le_refl _,Nat.zero_le _,SF⟩;intro i x m;obtain⟨b,off,h1,u⟩:=hb i x m;cases h1;refine⟨_,_,rfl,?_⟩;have R:=jm u;have o:I.heap.size=t.heap.size:=by rw[<-g.out];simp[World.setCell]
 rw[World.cell?_of_block (p _ ⟨B.size,by rw[o];exact R⟩),<-g.out];have zs:D≠f.heap.size:=Nat.ne_of_lt r;rw[World.cell?_setCell_far _ _ _ _ zs,World.cell?_setCell_far _ _ _ _ zs,World.cell?_setCell_far _ _ _ _ zs];exact u):p:=h
def SV{p}(h:p:=by
 rw[q]at c1;have s:Hid ((r.keyMin==0&&r.lifeMax==0&&r.most==0&&r.window==0)=mU r):=Lib.hid (by rw[<-s.out,q];rfl);go_upto_region 13 with fail;refine aG (fun y=>y=x) rfl ?_;repeat
  (first|refine az rfl rfl rfl rfl ?_|refine aF rfl rfl rfl rfl ?_|refine aw rfl ?_|refine aj rfl rfl rfl rfl rfl ?_|((first|refine av (v:=?_) rfl rfl (fun hb g l=>?_) ?_|refine ar (v:=?_) rfl rfl rfl (fun u hb g l=>?_) ?_|refine ax (v:=?_) rfl (fun g l=>?_) ?_);rotate_left;(focus(subst l;unfold ak;go_simp;first|exact aD rfl))))
  simp only[Act.put,P7]
 refine aA fun y U=>?_;subst U;go_upto_region 14 with fail;refine aG (fun x=>aq y x) P0 ?_;repeat
  (first|refine az rfl rfl rfl rfl ?_|refine aF rfl rfl rfl rfl ?_|refine aw rfl ?_|refine aj rfl rfl rfl rfl rfl ?_|((first|refine av (v:=?_) rfl rfl (fun hb g l=>?_) ?_|refine ar (v:=?_) rfl rfl rfl (fun u hb g l=>?_) ?_|refine ax (v:=?_) rfl (fun g l=>?_) ?_);rotate_left;(focus(have Y:=ae c0 l;have O:=ae c2 l;unfold ak;go_simp;first|exact aD l|(refine(oY _ _ M).mono ?_;rintro e t⟨rfl,D⟩;exact aH (aa l D))|(refine(iN _ _ _ _).mono ?_;rintro e t⟨rfl,rfl⟩;exact aH l)))))
  simp only[Act.put,P7]
 refine aA fun x U=>?_;go_wp2;go_ret;exact⟨bV WC,aa E U⟩):p:=h
def Sm{p}(h:p:=by
 have L:Hid (P=⟨0,0⟩):=Lib.hid Qa;have p:=bz HR6 hDw HE06 (Value.int IntKind.i64 0) (Value.int IntKind.u64 0);refine PI A (D+1+1+1+1) (Value.int IntKind.i64 0) (Value.int IntKind.u64 0) fun W7 J=>?_;rw[J]at p;refine P4 J p fun HW7 j=>PM q fun e0 am=>PO q fun g0 g1=>?_;clear J p q;go_wp2_with fail;rw[HW7.out];exact PM j.1 fun q0 q1=>bodyPost_ret (v:=Value.tuple #[Value.agg #[Value.int IntKind.i64 0,Value.int IntKind.u64 0],Value.int IntKind.i64 60]) QO rfl ⟨Rm,j.2⟩):p:=h
def TZ{p}(h:p:=by
 rw[hV]at hset;refine P4 hset hV fun HST HV=>PK hr1 fun e0 e1 e2=>PL hr1 fun g0 g1 g2=>?_;clear hr1 hset hV;go_wp2_with fail;rw[HV.out];exact PK HST.1 fun q0 q1 q2=>bodyPost_ret (v:=Value.tuple #[iy,zz,Value.int IntKind.i64 71]) Pv rfl (lH.no HG HST.2)):p:=h
def WM{p}(h:p:=by
 go_wp2_with fail;rw[l.out];have q0:=g.out;have q1:=b.out;exact bodyPost_ret (v:=Value.tuple #[Value.agg #[Value.int IntKind.i64 0,ag 0],Value.int IntKind.i64 1]) QE rfl ⟨rfl,j.2⟩):p:=h
def Sr{p}(h:p:=by
 obtain⟨k,o,rfl,f,g⟩:=hrel;refine P4 g f fun ys c=>?_;by_cases R:k<n
 .obtain⟨x,m⟩:=ay u R;have z:=Lib.hid (G.does x (List.mem_of_getElem? m));obtain⟨b,off,rfl,C,E,A⟩:=(H.ext ys) k x m;have t:=Lib.hid m;go_wp2_with fail;refine P2 (z _ (ys)) fun J D=>have q:=Lib.hid (aa ys D);?_;cases r:p x with
  |true=>
   have Z:=Lib.hid (kW t r c);go_wp2;go_ret;exact⟨Ps,q⟩
  |false=>
   have s:=Lib.hid (show(l.take (k+1)).all (fun x=> !p x)=true from RA);go_wp2;go_roundw
   case rel=>exact⟨k+1,Ph,Pt,s,q⟩
   case measure=>simp[intOf];omega
 .obtain rfl:k=n:=by omega
  rw[List.take_of_length_le (l:=l) (i:=k) QH]at c;have Z:=Lib.hid (lr c);go_wp2;go_ret;exact⟨Ps,ys⟩):p:=h
def Su{p}(h:p:=by
 go_upto_region 14 with fail;refine aG (fun y=>aq x y) P0 ?_;repeat
  (first|refine az rfl rfl rfl rfl ?_|refine aF rfl rfl rfl rfl ?_|refine aw rfl ?_|refine aj rfl rfl rfl rfl rfl ?_|((first|refine av (v:=?_) rfl rfl (fun hb g l=>?_) ?_|refine ar (v:=?_) rfl rfl rfl (fun u hb g l=>?_) ?_|refine ax (v:=?_) rfl (fun g l=>?_) ?_);rotate_left;(focus(have Y:=ae c0 l;have O:=ae c2 l;unfold ak;go_simp;first|exact aD l|(refine(oY _ _ M).mono ?_;rintro e t⟨rfl,D⟩;exact aH (aa l D))|(refine(iN _ _ _ _).mono ?_;rintro e t⟨rfl,rfl⟩;exact aH l)))))
  simp only[Act.put,P7]
 refine aA fun y U=>?_;go_wp2;go_ret;exact⟨bV WC,aa E U⟩):p:=h
def Td{p}(h:p:=by
 unfold ak;go_simp;exact⟨rfl,P0⟩):p:=h
def T8{p}(h:p:=by
 go_upto_region 1 with fail;try rw[d]
 try rw[C]
 have z0:=ae Q (Below.refl _ f);have V:=ae u (Below.refl _ f);have X:=ae R (Below.refl _ f);have z3:=ae E (Below.refl _ f);have z4:=ae S (Below.refl _ f);have z5:=ae J (Below.refl _ f);have Y:=ae z (Below.refl _ f);have Z:=ae y (Below.refl _ f);have U:=ae L (Below.refl _ f);have z9:=ae A (Below.refl _ f);have N:=ae l (Below.refl _ f);have O:=ae j (Below.refl _ f);have K:=ae m (Below.refl _ f);go_wp2_with fail;refine(T f B).mono ?_;rintro e t⟨v,rfl,o,b,q⟩;refine P5 (aa B q) o b B.out.size fun F I r P=>?_;go_wp2;go_ret2
 exact⟨v,rfl,fun h=>jV (I h) P,r,F⟩):p:=h
def TA{p}(h:p:=by
 rw[E.out,Z.out,HRN.out]at c;replace c:=Lib.hid c
 have t5:decide ((4294967296:Int)<=(g:Int))=false:=Pp;by_cases c1:4294967296<=q
 .have t4:decide ((4294967296:Int)<=(q:Int))=true:=by simp;omega
  have k4:=A.out;have k5:=o.out;go_wp2;go_roundw
  case rel=>exact⟨D,g,rfl,rfl,trivial,c⟩
  case measure=>simp[intOf];omega
 .have t4:decide ((4294967296:Int)<=(q:Int))=false:=by simp;omega
  have t6:decide (n<p)=true:=Rd;have k1:=t.out;have k2:=I.out;have k3:=O.out;have k4:=A.out;have k5:=o.out;go_wp2;go_roundw
  case rel=>exact⟨D,g,rfl,rfl,trivial,c⟩
  case measure=>simp[intOf];omega):p:=h
def TK{p}(h:p:=by
 have d:Hid (lG (f::t)=Value.tuple #[Value.int IntKind.i64 0,Value.int IntKind.i64 0,Value.int IntKind.i64 71]):=Lib.hid (Z.trans (if_pos Ph));go_wp2;exact bodyPost_ret (v:=Value.tuple #[Value.int IntKind.i64 0,Value.int IntKind.i64 0,Value.int IntKind.i64 71]) Q4 rfl ⟨Zax,ys⟩):p:=h
def Tf{p}(h:p:=by
 go_wp2;go_ret;exact⟨rfl,P0⟩):p:=h
def TB{p}(h:p:=by
 rw[Nat.add_zero]at c;refine P1 w.heap.size fun D C=>P1 (w.alloc (Obj.cells #[Value.int IntKind.i64 1,Value.slice (some ⟨g,o,none⟩) bl bc,Value.slice la ll lc] 245)) fun f d=>have B:=Lib.hid (show aq w f from Pq);have I:f.cell? ⟨D,1,none⟩=some (Value.slice (some ⟨g,o,none⟩) bl bc):=Pk;have z3:=ae c B;have q:bl=1:=r;have E:1<=bc:=m;?_;subst q;clear r m j s A z y p;go_enter func256,ntmps256;go_upto_region 1 with fail;try rw[d]
 try rw[C]
 clear d C;go_wp2;go_ret;exact⟨_,rfl,rfl,B⟩):p:=h
def TE{p}(h:p:=by
 have he:=ac hz;subst he;clear ac H;have j:=Lib.hid (cu d (Value.int IntKind.i64 0) (Value.int IntKind.u64 0) (Value.bool false) (Value.bool false) (zz) (zz) (zz));have EX:=Lib.hid (E.trans (j.2.below E.size (fun i hi=>Qq)));refine PX d fun z0 z1 z2 z3 z4 z5 z6=>PY d fun fz0 fz1 fz2 fz3 fz4 fz5 fz6=>have HZ:=Lib.hid hz;?_;clear hz;go_wp2;go_meet
 exact⟨kk,did,rfl,QB,aa RXR EX,ai RRS EX,RSC.ext EX,ROW.ext EX,fun _=>HON.out,fun h=>absurd h HZ⟩):p:=h
def TJ{p}(h:p:=by
 rw[Z.out]at c;replace c:=Lib.hid c
 have t5:decide ((4294967296:Int)<=(g:Int))=true:=Pp;by_cases c1:4294967296<=q
 .have t4:decide ((4294967296:Int)<=(q:Int))=true:=by simp;omega
  have k4:=A.out;have k5:=o.out;go_wp2_with fail;rw[c.out];go_meet
  exact⟨rfl,rfl⟩
 .have t4:decide ((4294967296:Int)<=(q:Int))=false:=by simp;omega
  have t6:decide (n<p)=true:=Rd;have k1:=t.out;have k2:=I.out;have k3:=O.out;have k4:=A.out;have k5:=o.out;go_wp2_with fail;rw[c.out];go_meet
  exact⟨rfl,rfl⟩):p:=h
def Tj{p}(h:p:=by
 clear hK;simp only[aK,Act.put,PV];have HL:=Lib.hid hl;clear hd hl;unfold ak;go_simp;exact⟨⟨_,rfl,HK0.size,World.alloc_heap_new _ _⟩,af P0 _⟩):p:=h
def TM{p}(h:p:=by
 have F:Hid (A8 b=(0,0)):=Lib.hid So;have E:=bz q H ys (Value.int IntKind.u64 0) (Value.int IntKind.u64 0);refine PI wr D (Value.int IntKind.u64 0) (Value.int IntKind.u64 0) fun I Y=>?_;rw[Y]at E;refine P4 E Y fun l G=>?_;clear Y;go_wp2_with fail;rw[G.out];exact PM l.1 fun q0 q1=>bodyPost_ret (v:=Value.tuple #[Value.agg #[Value.int IntKind.u64 0,Value.int IntKind.u64 0],Value.int IntKind.i64 71]) Qb rfl ⟨Ri,l.2⟩):p:=h
def TN{p}(h:p:=by
 obtain rfl:k=n:=by omega
 rw[List.take_of_length_le (l:=l) (i:=k) QH]at c;have Z:=Lib.hid (lr c);go_wp2;go_ret;exact⟨Ps,ys⟩):p:=h
def Yf{p}(h:p:=by
 go_upto_region 1 with fail;try rw[d]
 try rw[C]
 go_wp2_with fail;refine(c f B).mono ?_;rintro e G⟨u,k,rfl,q,r⟩;refine P4 (aa B q) r fun s Z=>?_;go_wp2;go_ret2
 exact⟨u,k,rfl,s,Z⟩):p:=h
def TP{p}(h:p:=by
 have hgf:(g==0)=false:=by simpa using S
 clear S;go_upto_region 46 with fail;go_wp2_with fail;refine P2 HCK fun O V=>?_;go_wp2_with fail;refine⟨⟨rfl,rfl,rfl,rfl,rfl,rfl,rfl,rfl,k+1,Ph,Pt,s,did2,⟨da,dc,Value.slice ua s.store.safe.length uc,Value.slice va s.store.opn.length vc⟩,CN2,CL2,aa CE9 V,ai CGS V,CSC.ext V,COW.ext V⟩,?_⟩;show n-((k:Int)+1).toNat<n-(k:Int).toNat
 omega):p:=h
def Tp{p}(h:p:=by
 go_enter func250,ntmps250;go_wp2;exact bodyPost_ret (v:=Value.tuple #[Value.int IntKind.i64 0,Value.int IntKind.i64 0,Value.int IntKind.i64 70]) Q4 rfl ⟨rfl,P0⟩):p:=h
def Tr{p}(h:p:=by
 go_wp2;go_ret;exact⟨rfl,rfl⟩):p:=h
def TS{p}(h:p:=by
 have ys:=Lib.hid g;go_wp2;go_ret;exact⟨rfl,ys⟩):p:=h
def TO{p}(h:p:=by
 go_enter func65,ntmps65
 go_wp2_with (first
  |(go_at_call 128;refine P2 (qE l a cap n _ g c b u) fun B q=>?_;rw[f.out];have s:=Lib.hid q)
  |(go_at_call 129;refine(wF l a cap n _ g c b (u.ext s) z y).mono ?_;rintro e G⟨v,rfl,⟨ca,cc,rfl,_,_,_⟩,D⟩;rw[A.out];have F:=Lib.hid (aa s D)))
 go_ret;exact⟨eu Z.symm,F⟩):p:=h
def Tu{p}(h:p:=by
 go_wp2_with fail;refine⟨⟨rfl,rfl,rfl,rfl,rfl,rfl,rfl,rfl,k+1,Ph,Pt,s,ab,⟨da,dc,Value.slice ua s.store.safe.length uc,Value.slice va s.store.opn.length vc⟩,HON,QB,aa RXR EX,ai RRS EX,RSC.ext EX,ROW.ext EX⟩,?_⟩;show n-((k:Int)+1).toNat<n-(k:Int).toNat
 omega):p:=h
def Tv{p}(h:p:=by
 dsimp only;rw[if_neg];rintro⟨h1,c⟩;rcases h with h|h
 .exact h h1
 .rw[h]at c;cases c):p:=h
def Zq{p}(h:p:=by
 go_wp2_with fail;refine(dV _).mono ?_;rintro e V⟨rfl,rfl⟩;unfold dK;go_wp2;exact⟨rfl,bD.none rfl (Fr.refl _ _)⟩):p:=h
def Tw{p}(h:p:=by
 exact⟨none,0,rfl,Nat.le_refl _,Nat.zero_le _,cr.nil _ _ _ _⟩):p:=h
def Tx{p}(h:p:=by
 simp only[Bool.or_eq_true,Bool.not_eq_true']at N;rcases N with h|h<;>rw[h]<;>simp):p:=h
def Ty{p}(h:p:=by
 unfold aN;go_simp;refine HP.out _ _ ⟨⟨j.1,HK1.trans j.2⟩,trivial,TR.go Bt⟩):p:=h
def Tb{p}(h:p:=by
 have c:=Lib.hid (HA.done n1 (fun h=>d (B.1 h)));have t4:decide ((4294967296:Int)<=(q:Int))=false:=Pp;have t6:decide (n<p)=false:=Pp;have k1:=t.out;have k2:=I.out;have k3:=O.out;go_wp2_with fail;rw[c.out];go_meet
 exact⟨rfl,rfl⟩):p:=h
def Tz{p}(h:p:=by
 obtain⟨z,c1,c2⟩:=keep m _ y (old _ _ h1) b1;rcases c2 with rfl|rfl
 .refine⟨m,_,old _ _ h1,E,?_,d⟩;have e:g[m]=y:=by rw[l]at b1;simpa using b1
  simp only[e];exact b2.trans A
 .exact⟨m,z,old _ _ h1,c1,b2.trans A,d⟩):p:=h
def U2{p}(h:p:=by
 obtain⟨z,c1,c2⟩:=keep m _ y (old _ _ h1) b1;rcases c2 with rfl|rfl
 .exfalso;have:=old _ _ h1;rw[o]at this;exact s q j C (yA (by simpa using this.symm) (N.trans r.symm))
 .exact⟨m,z,old _ _ h1,c1,b2.trans A,d⟩):p:=h
def U3{p}(h:p:=by
 simp only[Program.fieldsOf,underlying68];have f:=fun w=>re 9997 a.body b.body w;go_simp;obtain⟨a1,a2,a3⟩:=a;obtain⟨b1,b2,d⟩:=b;dsimp only;by_cases h1:a1=b1<;>by_cases c:a2=b2<;>by_cases A:a3=d<;>simp[h1,c,A]):p:=h
def U5{p}(h:p:=by
 go_wp2;go_ret;exact⟨_,rfl,World.ownsRow_nil _ _ _ _,P0⟩):p:=h
def U6{p}(h:p:=by
 have e:n*256|||x=n*256+x:=by
  have:=Nat.shiftLeft_add_eq_or_of_lt (i:=8) (b:=x) Ph n;rw[Nat.shiftLeft_eq]at this;exact this.symm
 rw[e]at h;rw[show((n:Int)*256)=((n*256:Nat):Int)from Ph];exact h):p:=h
def U7{p}(h:p:=by
 go_wp2
 go_ret;exact⟨rfl,rfl⟩):p:=h
def TQ{p}(h:p:=by
 have Z:=Lib.hid (kW t r c);go_wp2;go_ret;exact⟨Ps,q⟩):p:=h
def UA{p}(h:p:=by
 go_wp2_with fail
 .go_meet
  exact⟨rfl,aiP,rfl,Pi⟩
 .go_meet
  exact⟨rfl,nm1,rfl,hnm1⟩):p:=h
def TW{p}(h:p:=by
 rw[o];go_wp2_with fail;exact PM j.1 fun q0 q1=>bodyPost_ret (v:=Value.tuple #[Value.agg #[zz,zz],Value.int IntKind.i64 1]) Qd rfl RD):p:=h
def U9{p}(h:p:=by
 rw[show(nK d).length=4 from rfl,show(Value.agg #[Value.int IntKind.i64 0,Value.int IntKind.i64 0,Value.int IntKind.u64 0,Value.int IntKind.u64 0]).cells.size=4 from rfl];omega):p:=h
def UD{p}(h:p:=by
 go_wp2_with fail
 .go_meet
  exact⟨rfl,abV,rfl,Pi⟩
 .go_meet
  exact⟨rfl,OM,rfl,Pi⟩):p:=h
def U4{p}(h:p:=by
 go_wp2;go_ret;exact⟨Ps,F⟩):p:=h
def UC{p}(h:p:=by
 have:=key (l.length-k);rwa[show k+(l.length-k)=l.length from Ph,List.take_length]at this):p:=h
def TX{p}(h:p:=by
 have ac:=Lib.hid (aa Id u);obtain⟨A,hA⟩:∃A,(S.any fun p=> !br j p.1)=A:=⟨_,rfl⟩;rw[hA]at J⊢;go_wp2;go_ret;exact⟨by rw[G.out,<-J.out];rfl,ac⟩):p:=h
def UF{p}(h:p:=by
 show n-((k:Int)+1).toNat<n-(k:Int).toNat
 omega):p:=h
def UG{p}(h:p:=by
 go_wp2;go_ret2
 exact⟨rfl,rfl⟩):p:=h
def UI{p}(h:p:=by
 go_wp2;go_ret;exact⟨Ps,Id⟩):p:=h
def Tc{p}(h:p:=by
 go_wp2;go_ret;exact⟨Ps,ys⟩):p:=h
def UJ{p}(h:p:=by
 simp only[fY,Prod.mk.injEq]at h;obtain⟨⟨rfl,rfl,rfl⟩,rfl⟩:=h;rfl):p:=h
def UL{p}(h:p:=by
 obtain⟨h1,c⟩:=h;refine⟨h1,?_⟩;rcases c with c|⟨g,cap,b,c,A,f⟩
 .exact .inl c
 .exact .inr ⟨g,cap,b,c,Nat.le_trans hb A,f⟩):p:=h
def UM{p}(h:p:=by
 rw[BitVec.ofInt_natCast,BitVec.toNat_ofNat];exact Nat.mod_eq_of_lt Ph):p:=h
def Z6{p}(h:p:=by
 go_wp2_with fail;refine(dV _).mono ?_;rintro e w3⟨rfl,rfl⟩;unfold dK;go_wp2;exact⟨rfl,bD.none Y7 (Fr.of_ext F)⟩):p:=h
def UP{p}(h:p:=by
 unfold World.cell? at h;rcases Nat.lt_or_ge p.block w.heap.size with h1|h1
 .exact h1
 .rw[Array.getElem?_eq_none h1]at h;cases h):p:=h
def Z7{p}(h:p:=by
 go_wp2_with fail;refine(dV _).mono ?_;rintro e U⟨rfl,rfl⟩;unfold dK;go_wp2;exact⟨rfl,bD.none Y4 (Fr.of_ext F)⟩):p:=h
def Z8{p}(h:p:=by
 go_wp2_with fail;refine(dV _).mono ?_;rintro e U⟨rfl,rfl⟩;unfold dK;go_wp2;exact⟨rfl,bD.none Y5 (Fr.of_ext F)⟩):p:=h
def Z9{p}(h:p:=by
 go_wp2_with fail;refine(dV _).mono ?_;rintro e U⟨rfl,rfl⟩;unfold dK;go_wp2;exact⟨rfl,bD.none Y6 (Fr.of_ext F)⟩):p:=h
def Tk{p}(h:p:=by
 go_wp2_with fail;refine(dV _).mono ?_;rintro e I⟨rfl,rfl⟩;unfold dK;go_wp2;exact⟨rfl,bD.none p (Fr.of_ext s)⟩):p:=h
def UR{p}(h:p:=by
 go_wp2_with fail;try rw[Exit.noGoto_ret]
 go_ret;exact⟨Ps,f⟩):p:=h
def UQ{p}(h:p:=by
 rw[<-decide_not];congr 1;rw[UInt8.le_iff_toNat_le];simp;omega):p:=h
def US{p}(h:p:=by
 refine ax (by unfold Region.wanted;rw[f]) (fun w l=>?_) z;unfold ak execOp;simp only[g,J,m];cases b<;>exact⟨rfl,l⟩):p:=h
def TY{p}(h:p:=by
 exact((Fr.of_ext (S:=fun _=>False) h1).onto HF3 (fun i hi e=>by have e':D+1<=i:=e;omega)).ext (fun _ _ h=>h)):p:=h
def Ub{p}(h:p:=by
 rintro v w b⟨a,c,h1,f⟩d;exact⟨a,c,h1,f.ext d⟩):p:=h
def Ta{p}(h:p:=by
 gi_wp2_with fail
 try rw[Exit.noGoto_normal]
 go_end0
 exact⟨⟨_,rfl⟩,.inl (by rw[T.out];exact G.out)⟩):p:=h
def Te{p}(h:p:=by
 gi_wp2_with fail
 try rw[Exit.noGoto_normal]
 go_end0
 exact⟨⟨_,rfl⟩,.inl (by rw[u.out];exact A.out)⟩):p:=h
def Ug{p}(h:p:=by
 have HL:=Lib.hid hl;clear hd hl;unfold ak;go_simp;exact⟨⟨_,rfl,World.alloc_heap_new _ _⟩,af P0 _⟩):p:=h
def To{p}(h:p:=by
 obtain rfl:L=k:=by omega
 rw[List.take_of_length_le QT]at P;go_wp2;go_ret;exact⟨_,rfl,P,ys⟩):p:=h
def Ue{p}(h:p:=by
 go_wp2;go_ret;exact⟨by rw[b.out];rfl,Id⟩):p:=h
def Uf{p}(h:p:=by
 unfold DataW.trod at h;rw[b]at h;split at h<;>simp_all):p:=h
def Um{p}(h:p:=by
 go_upto_region 1 with fail;try rw[d]
 try rw[C]
 go_wp2;go_ret;exact⟨bV (IM _ _),B⟩):p:=h
def Ul{p}(h:p:=by
 subst e;rw[o]at h1;cases h1;rw[E]at c;cases c;exact⟨p,i,.inr ⟨rfl,rfl⟩,r,rfl,A.symm⟩):p:=h
def Uk{p}(h:p:=by
 unfold aN;go_simp;refine HP.out _ _ ⟨⟨j.1,(Fr.of_ext HK0).trans j.2⟩,trivial,TR.go Bt⟩):p:=h
def Ui{p}(h:p:=by
 exact Nat.le_trans (hb _) Pi):p:=h
def Tg{p}(h:p:=by
 exact⟨Vf,M _ _ (.inl rfl) P (Boxed.set _ q)⟩):p:=h
def Zy{p}(h:p:=by
 have h:gX s.data.toList=true:=by assumption
 go_ret3
 exact⟨by rw[l.out h,aiM];rfl,g⟩):p:=h
def Un{p}(h:p:=by
 rintro e w5⟨rfl,y⟩;exact⟨_,rfl,rfl,y⟩):p:=h
def Wv{p}(h:p:=by
 rintro r W'⟨rfl,y⟩;exact⟨rfl,aa b y⟩):p:=h
def Th{p}(h:p:=by
 refine aA fun y u=>have C:=Lib.hid (aa A u);?_;go_wp2;go_ret;exact⟨Re,C⟩):p:=h
def Uq{p}(h:p:=by
 rw[List.take_of_length_le Ph]at b⊢;exact b):p:=h
def Xl{p}(h:p:=by
 have:=ng (l:=c.proms.map fZ) (K:=1000) fun y U=>Wz;rw[List.length_map]at this;omega):p:=h
def Us{p}(h:p:=by
 rcases(h q).1 N with h1|⟨h1,c,A⟩
 .exact .inl h1
 .exact .inr ⟨h1,c,.inl A⟩):p:=h
def Ur{p}(h:p:=by
 dsimp only;rw[if_pos ⟨h1,c⟩]):p:=h
def Uu{p}(h:p:=by
 refine(A w l).mono ?_;rintro u b⟨rfl,h⟩;exact⟨rfl,.inr ⟨.inr rfl,h⟩⟩):p:=h
def Uw{p}(h:p:=by
 rcases c with c|c
 .exact .inl c
 .exact .inr ⟨c.1,List.mem_append_left _ c.2⟩):p:=h
def Ut{p}(h:p:=by
 exact⟨q,k,.inl C,g1,g2,g3⟩):p:=h
def Ux{p}(h:p:=by
 go_wp2;go_end0
 exact⟨rfl,rfl⟩):p:=h
def Zb3{p}(h:p:=by
 subst D;go_enter func50,ntmps50;go_wp2;go_ret;exact⟨rfl,j⟩):p:=h
def Zb4{p}(h:p:=by
 rename_i e;rw[e];exact H _ _ h):p:=h
def Zb5{p}(h:p:=by
 exact Nat.lt_of_lt_of_le h (Nat.le_trans (Nat.pow_le_pow_right Pi this) Pi)):p:=h
def Zfy{p}(h:p:=by
 exact⟨Vf,M _ _ Pm P (Boxed.set _ q)⟩):p:=h
def Ze9{p}(h:p:=by
 go_wp2;go_ret;exact⟨rfl,ys⟩):p:=h
def Zdi{p}(h:p:=by
 subst q;rw[List.getD_eq_getElem?_getD,List.getElem?_set_self Ph];exact h.1):p:=h
def Zb8{p}(h:p:=by
 simp only[ne_eq,Option.some.injEq];omega):p:=h
def Zb9{p}(h:p:=by
 go_wp2;exact⟨rfl,rfl,rfl⟩):p:=h
def Zca{p}(h:p:=by
 obtain⟨rfl,rfl,F⟩:=hrel;go_wp2;go_ret;exact⟨_,rfl,SS,F⟩):p:=h
def Zfa{p}(h:p:=by
 go_wp2;go_ret;exact⟨Ps,d⟩):p:=h
def Zfb{p}(h:p:=by
 have ys:=Lib.hid g;go_wp2;go_ret;exact⟨rfl,aa (af P0 _) ys⟩):p:=h
def Zcc{p}(h:p:=by
 rw[List.getElem?_append_left (List.getElem?_eq_some_iff.1 K).1];exact K):p:=h
def Zce{p}(h:p:=by
 rw[List.drop_append_of_le_length Ph,List.take_append_of_le_length Py]):p:=h
def Zfz{p}(h:p:=by
 rw[L.out];exact⟨k+1,Ph,Pt,by rw[Q.out,HK.out];exact t.out.1,t.2⟩):p:=h
def Zfk{p}(h:p:=by
 rw[zs];go_wp2_with fail;try rw[Exit.noGoto_ret]
 go_ret;exact⟨Ps,J⟩):p:=h
def Zch{p}(h:p:=by
 have:=hn r (List.mem_of_getElem? o) p x;rw[K]at this;cases this):p:=h
def Zci{p}(h:p:=by
 rwa[List.take_of_length_le Ph]at h):p:=h
def Zcj{p}(h:p:=by
 unfold World.cell?;rw[u];rcases j with _|_|_|_|_|_|_|j<;>simp[ag]):p:=h
def Zck{p}(h:p:=by
 unfold ak;go_simp;exact hG _ _ ⟨_,rfl,Aj cq f HCX⟩ (af P0 _)):p:=h
def Zcl{p}(h:p:=by
 rw[List.map_append,List.sum_append];exact Nat.le_add_right _ _):p:=h
def Zcm{p}(h:p:=by
 simpa [List.append_assoc]using h4):p:=h
def Zcn{p}(h:p:=by
 unfold ak;go_simp;exact⟨rfl,j⟩):p:=h
def Zco{p}(h:p:=by
 rw[List.getD_eq_getElem?_getD,List.getElem?_set_self Ph];rfl):p:=h
def Zfe{p}(h:p:=by
 rw[zs];go_wp2;go_ret;exact⟨by rw[p.out];rfl,z⟩):p:=h
def Zcp{p}(h:p:=by
 simp only[PD]at U;rcases U with rfl|rfl
 .exact f
 .exact N):p:=h
def Zcq{p}(h:p:=by
 go_ret;exact⟨eu Z.symm,rfl⟩):p:=h
def Zcr{p}(h:p:=by
 have F:=Lib.hid D;go_wp2;go_ret;exact⟨rfl,F⟩):p:=h
def Zcs{p}(h:p:=by
 rw[Nat.div_lt_iff_lt_mul b,Nat.mul_comm 4294967296];omega):p:=h
def Zct{p}(h:p:=by
 rw[Array.getElem?_eq_none RC,Array.getElem?_eq_none Pp]):p:=h
def Zcu{p}(h:p:=by
 rw[Array.getElem?_eq_none RC,Array.getElem?_eq_none RC]):p:=h
def Zcv{p}(h:p:=by
 refine⟨?_,?_,?_⟩<;>(unfold World.cell?;rw[h];rfl)):p:=h
def Zfl{p}(h:p:=by
 rw[t5];clear N t5;go_wp2;go_ret;exact⟨Ps,I⟩):p:=h
def Zcx{p}(h:p:=by
 unfold World.cell?;rw[u];rcases j with _|_|j<;>simp[ag]):p:=h
def Zcy{p}(h:p:=by
 rintro⟨⟨h1,c⟩,A⟩;exact⟨⟨h1,Ph⟩,A⟩):p:=h
def Zcz{p}(h:p:=by
 rintro e w5⟨rfl,hE5⟩;exact⟨_,rfl,rfl,hE5⟩):p:=h
namespace Tryz
end Tryz
end Go.Proofs.YtjmgalpkbkcmkaaGreatDoor
