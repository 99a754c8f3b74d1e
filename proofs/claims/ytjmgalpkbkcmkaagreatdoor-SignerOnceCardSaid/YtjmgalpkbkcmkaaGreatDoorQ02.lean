import Derived.Test.YtjmgalpkbkcmkaaGreatDoorQ01
set_option maxRecDepth 100000
set_option maxHeartbeats 16000000
set_option linter.all false
namespace Go.Proofs
open Go.Proofs.YtjmgalpkbkcmkaaGreatDoor
open Go renaming World->UN,Calls->VB
open Go.Ending renaming returned->UO
open Go.IntKind renaming u64->Tt,u8->Uy,i64->Tl
open Go.Lib renaming bitLen->Yd
open Go.Proofs.Tryz renaming prog->UB
open Go.Shelf renaming Ren->Y3
open Go.Value renaming string->UH,tuple->UW,int->Ti,bool->U1,slice->Tm
open Option renaming none->U8,some->Ts
open Go.Shelf
def Tryz.lays160_ren:Y3:=⟨fun|160=>266|232=>289|231=>288|227=>290|234=>292|233=>291|236=>294|235=>293|228=>308|271=>310|151=>309|197=>305|120=>320|152=>319|260=>313|137=>323|119=>324|224=>316|225=>315|217=>314|266=>321|n=>n,fun|9=>9|4=>4|3=>3|5=>5|117=>388|116=>387|0=>0|124=>391|21=>21|105=>399|46=>277|119=>410|139=>413|138=>412|n=>n,fun|3=>4|4=>5|n=>n⟩
theorem Tryz.lays160:Go.Proofs.Lays.n160 UB Tryz.lays160_ren:={
 mixed:=Pg
 f119:=Tryz.func324.trans (congrArg Ts Pg)
 f120:=Tryz.func320.trans (congrArg Ts Pg)
 f137:=Tryz.func323.trans (congrArg Ts Pg)
 f151:=Tryz.func309.trans (congrArg Ts Pg)
 f152:=Tryz.func319.trans (congrArg Ts Pg)
 f160:=Tryz.func266.trans (congrArg Ts Pg)
 f197:=Tryz.func305.trans (congrArg Ts Pg)
 f217:=Tryz.func314.trans (congrArg Ts Pg)
 f224:=Tryz.func316.trans (congrArg Ts Pg)
 f225:=Tryz.func315.trans (congrArg Ts Pg)
 f227:=Tryz.func290.trans (congrArg Ts Pg)
 f228:=Tryz.func308.trans (congrArg Ts Pg)
 f231:=Tryz.func288.trans (congrArg Ts Pg)
 f232:=Tryz.func289.trans (congrArg Ts Pg)
 f233:=Tryz.func291.trans (congrArg Ts Pg)
 f234:=Tryz.func292.trans (congrArg Ts Pg)
 f235:=Tryz.func293.trans (congrArg Ts Pg)
 f236:=Tryz.func294.trans (congrArg Ts Pg)
 f260:=Tryz.func313.trans (congrArg Ts Pg)
 f266:=Tryz.func321.trans (congrArg Ts Pg)
 f271:=Tryz.func310.trans (congrArg Ts Pg)
 t0:=Tryz.underlying0
 a0:=Tryz.isAgg0
 z0:=Tryz.sizeOf0
 v0:=Tryz.zeroValue0
 t3:=Tryz.underlying3
 a3:=Tryz.isAgg3
 z3:=Tryz.sizeOf3
 v3:=Tryz.zeroValue3
 t4:=Tryz.underlying4
 a4:=Tryz.isAgg4
 z4:=Tryz.sizeOf4
 v4:=Tryz.zeroValue4
 t5:=Tryz.underlying5
 a5:=Tryz.isAgg5
 z5:=Tryz.sizeOf5
 v5:=Tryz.zeroValue5
 t9:=Tryz.underlying9
 a9:=Tryz.isAgg9
 z9:=Tryz.sizeOf9
 v9:=Tryz.zeroValue9
 t21:=Tryz.underlying21
 a21:=Tryz.isAgg21
 z21:=Tryz.sizeOf21
 v21:=Tryz.zeroValue21
 t46:=Tryz.underlying277
 a46:=Tryz.isAgg277
 z46:=Tryz.sizeOf277
 v46:=Tryz.zeroValue277
 t105:=Tryz.underlying399
 a105:=Tryz.isAgg399
 z105:=Tryz.sizeOf399
 v105:=Tryz.zeroValue399
 t116:=Tryz.underlying387
 a116:=Tryz.isAgg387
 z116:=Tryz.sizeOf387
 t117:=Tryz.underlying388
 a117:=Tryz.isAgg388
 z117:=Tryz.sizeOf388
 v117:=Tryz.zeroValue388
 t119:=Tryz.underlying410
 a119:=Tryz.isAgg410
 z119:=Tryz.sizeOf410
 t124:=Tryz.underlying391
 a124:=Tryz.isAgg391
 z124:=Tryz.sizeOf391
 v124:=Tryz.zeroValue391
 t138:=Tryz.underlying412
 a138:=Tryz.isAgg412
 z138:=Tryz.sizeOf412
 v138:=Tryz.zeroValue412
 t139:=Tryz.underlying413
 a139:=Tryz.isAgg413
 z139:=Tryz.sizeOf413
 v139:=Tryz.zeroValue413
 g3:=Pg
 g4:=Pg}
def Tryz.lays125_ren:Y3:=⟨fun|125=>236|128=>275|129=>240|n=>n,fun|46=>277|3=>3|51=>373|53=>30|4=>4|5=>5|9=>9|n=>n,fun|n=>n⟩
theorem Tryz.lays125:Go.Proofs.Lays.n125 UB Tryz.lays125_ren:={
 mixed:=Pg
 f125:=Tryz.func236.trans (congrArg Ts Pg)
 f128:=Tryz.func275.trans (congrArg Ts Pg)
 f129:=Tryz.func240.trans (congrArg Ts Pg)
 t3:=Tryz.underlying3
 a3:=Tryz.isAgg3
 z3:=Tryz.sizeOf3
 v3:=Tryz.zeroValue3
 t4:=Tryz.underlying4
 a4:=Tryz.isAgg4
 z4:=Tryz.sizeOf4
 v4:=Tryz.zeroValue4
 t5:=Tryz.underlying5
 a5:=Tryz.isAgg5
 z5:=Tryz.sizeOf5
 v5:=Tryz.zeroValue5
 t9:=Tryz.underlying9
 a9:=Tryz.isAgg9
 z9:=Tryz.sizeOf9
 v9:=Tryz.zeroValue9
 t46:=Tryz.underlying277
 a46:=Tryz.isAgg277
 z46:=Tryz.sizeOf277
 v46:=Tryz.zeroValue277
 t51:=Tryz.underlying373
 a51:=Tryz.isAgg373
 z51:=Tryz.sizeOf373
 v51:=Tryz.zeroValue373
 t53:=Tryz.underlying30
 a53:=Tryz.isAgg30
 z53:=Tryz.sizeOf30
 v53:=Tryz.zeroValue30}
theorem Tryz.bits_Len(x:Int)(w:UN)(L:0<=x)(h1:x<=18446744073709551615):
  VB UB 236 #[Ti Tt x] w fun e b=>e=UO (Ti Tl (Yd x.toNat))/\b=w:=Any.bits_Len Tryz.lays125 x w L h1
def Tryz.lays134_ren:Y3:=⟨fun|134=>200|129=>240|n=>n,fun|53=>30|3=>3|4=>4|46=>277|5=>5|9=>9|n=>n,fun|n=>n⟩
theorem Tryz.lays134:Go.Proofs.Lays.n134 UB Tryz.lays134_ren:={
 mixed:=Pg
 f129:=Tryz.func240.trans (congrArg Ts Pg)
 f134:=Tryz.func200.trans (congrArg Ts Pg)
 t3:=Tryz.underlying3
 a3:=Tryz.isAgg3
 z3:=Tryz.sizeOf3
 v3:=Tryz.zeroValue3
 t4:=Tryz.underlying4
 a4:=Tryz.isAgg4
 z4:=Tryz.sizeOf4
 v4:=Tryz.zeroValue4
 t5:=Tryz.underlying5
 a5:=Tryz.isAgg5
 z5:=Tryz.sizeOf5
 v5:=Tryz.zeroValue5
 t9:=Tryz.underlying9
 a9:=Tryz.isAgg9
 z9:=Tryz.sizeOf9
 v9:=Tryz.zeroValue9
 t46:=Tryz.underlying277
 a46:=Tryz.isAgg277
 z46:=Tryz.sizeOf277
 v46:=Tryz.zeroValue277
 t53:=Tryz.underlying30
 a53:=Tryz.isAgg30
 z53:=Tryz.sizeOf30
 v53:=Tryz.zeroValue30}
theorem Tryz.bits_LeadingZeros64(x:Int)(w:UN)(L:0<=x)(h1:x<=18446744073709551615):
  VB UB 200 #[Ti Tt x] w fun e b=>e=UO (Ti Tl (64-(Yd x.toNat:Int)))/\b=w:=Any.bits_LeadingZeros64 Tryz.lays134 x w L h1
def Tryz.lays103_ren:Y3:=⟨fun|103=>66|210=>130|206=>196|n=>n,fun|9=>9|4=>4|24=>153|3=>3|n=>n,fun|n=>n⟩
theorem Tryz.lays103:Go.Proofs.Lays.n103 UB Tryz.lays103_ren:={
 mixed:=Pg
 f103:=Tryz.func66.trans (congrArg Ts Pg)
 f206:=Tryz.func196.trans (congrArg Ts Pg)
 f210:=Tryz.func130.trans (congrArg Ts Pg)
 t3:=Tryz.underlying3
 a3:=Tryz.isAgg3
 z3:=Tryz.sizeOf3
 v3:=Tryz.zeroValue3
 t4:=Tryz.underlying4
 a4:=Tryz.isAgg4
 z4:=Tryz.sizeOf4
 v4:=Tryz.zeroValue4
 t9:=Tryz.underlying9
 a9:=Tryz.isAgg9
 z9:=Tryz.sizeOf9
 v9:=Tryz.zeroValue9
 t24:=Tryz.underlying153
 a24:=Tryz.isAgg153
 z24:=Tryz.sizeOf153
 v24:=Tryz.zeroValue153}
open Go.RowKit in
theorem Tryz.strings_CutPrefix (s p:ByteArray) (w:UN):
  VB UB 66 #[UH s,UH p] w fun e b=>e=UO (UW #[UH ⟨(Lib.trimPrefix s.data.toList p.data.toList).toArray⟩,U1 (Lib.hasPrefix s.data.toList p.data.toList)])/\b=w:=Any.strings_CutPrefix Tryz.lays103 s p w
def Tryz.lays129_ren:Y3:=⟨fun|129=>240|n=>n,fun|53=>30|3=>3|4=>4|46=>277|5=>5|9=>9|n=>n,fun|n=>n⟩
theorem Tryz.lays129:Go.Proofs.Lays.n129 UB Tryz.lays129_ren:={
 mixed:=Pg
 f129:=Tryz.func240.trans (congrArg Ts Pg)
 t3:=Tryz.underlying3
 a3:=Tryz.isAgg3
 z3:=Tryz.sizeOf3
 v3:=Tryz.zeroValue3
 t4:=Tryz.underlying4
 a4:=Tryz.isAgg4
 z4:=Tryz.sizeOf4
 v4:=Tryz.zeroValue4
 t5:=Tryz.underlying5
 a5:=Tryz.isAgg5
 z5:=Tryz.sizeOf5
 v5:=Tryz.zeroValue5
 t9:=Tryz.underlying9
 a9:=Tryz.isAgg9
 z9:=Tryz.sizeOf9
 v9:=Tryz.zeroValue9
 t46:=Tryz.underlying277
 a46:=Tryz.isAgg277
 z46:=Tryz.sizeOf277
 v46:=Tryz.zeroValue277
 t53:=Tryz.underlying30
 a53:=Tryz.isAgg30
 z53:=Tryz.sizeOf30
 v53:=Tryz.zeroValue30}
theorem Tryz.bits_Len64(x:Int)(w:UN)(L:0<=x)(h1:x<=18446744073709551615):
  VB UB 240 #[Ti Tt x] w fun e b=>e=UO (Ti Tl (Yd x.toNat))/\b=w:=Any.bits_Len64 Tryz.lays129 x w L h1
def Tryz.lays143_ren:Y3:=⟨fun|143=>281|219=>306|217=>314|225=>315|224=>316|267=>317|266=>321|314=>322|n=>n,fun|9=>9|3=>3|4=>4|5=>5|46=>277|146=>414|51=>373|n=>n,fun|1=>3|n=>n⟩
theorem Tryz.lays143:Go.Proofs.Lays.n143 UB Tryz.lays143_ren:={
 mixed:=Pg
 f143:=Tryz.func281.trans (congrArg Ts Pg)
 f217:=Tryz.func314.trans (congrArg Ts Pg)
 f219:=Tryz.func306.trans (congrArg Ts Pg)
 f224:=Tryz.func316.trans (congrArg Ts Pg)
 f225:=Tryz.func315.trans (congrArg Ts Pg)
 f266:=Tryz.func321.trans (congrArg Ts Pg)
 f267:=Tryz.func317.trans (congrArg Ts Pg)
 f314:=Tryz.func322.trans (congrArg Ts Pg)
 t3:=Tryz.underlying3
 a3:=Tryz.isAgg3
 z3:=Tryz.sizeOf3
 v3:=Tryz.zeroValue3
 t4:=Tryz.underlying4
 a4:=Tryz.isAgg4
 z4:=Tryz.sizeOf4
 v4:=Tryz.zeroValue4
 t5:=Tryz.underlying5
 a5:=Tryz.isAgg5
 z5:=Tryz.sizeOf5
 v5:=Tryz.zeroValue5
 t9:=Tryz.underlying9
 a9:=Tryz.isAgg9
 z9:=Tryz.sizeOf9
 v9:=Tryz.zeroValue9
 t46:=Tryz.underlying277
 a46:=Tryz.isAgg277
 z46:=Tryz.sizeOf277
 v46:=Tryz.zeroValue277
 t51:=Tryz.underlying373
 a51:=Tryz.isAgg373
 z51:=Tryz.sizeOf373
 v51:=Tryz.zeroValue373
 t146:=Tryz.underlying414
 a146:=Tryz.isAgg414
 z146:=Tryz.sizeOf414
 v146:=Tryz.zeroValue414
 g1:=Pg}
open Go.RowKit Go.Lib in
theorem Tryz.strings_Index_one (s:ByteArray) (c:UInt8) (w:UN):
  VB UB 281 #[UH s,UH ⟨#[c]⟩] w fun e b=>e=UO (Ti Tl (Lib.indexByte s.data.toList c))/\b=w:=Any.strings_Index_one Tryz.lays143 s c w
def Tryz.lays138_ren:Y3:=⟨fun|138=>277|195=>300|218=>301|143=>281|219=>306|217=>314|225=>315|224=>316|267=>317|266=>321|314=>322|n=>n,fun|9=>9|3=>3|4=>4|5=>5|0=>0|46=>277|146=>414|51=>373|n=>n,fun|1=>3|n=>n⟩
theorem Tryz.lays138:Go.Proofs.Lays.n138 UB Tryz.lays138_ren:={
 mixed:=Pg
 f138:=Tryz.func277.trans (congrArg Ts Pg)
 f143:=Tryz.func281.trans (congrArg Ts Pg)
 f195:=Tryz.func300.trans (congrArg Ts Pg)
 f217:=Tryz.func314.trans (congrArg Ts Pg)
 f218:=Tryz.func301.trans (congrArg Ts Pg)
 f219:=Tryz.func306.trans (congrArg Ts Pg)
 f224:=Tryz.func316.trans (congrArg Ts Pg)
 f225:=Tryz.func315.trans (congrArg Ts Pg)
 f266:=Tryz.func321.trans (congrArg Ts Pg)
 f267:=Tryz.func317.trans (congrArg Ts Pg)
 f314:=Tryz.func322.trans (congrArg Ts Pg)
 t0:=Tryz.underlying0
 a0:=Tryz.isAgg0
 z0:=Tryz.sizeOf0
 v0:=Tryz.zeroValue0
 t3:=Tryz.underlying3
 a3:=Tryz.isAgg3
 z3:=Tryz.sizeOf3
 v3:=Tryz.zeroValue3
 t4:=Tryz.underlying4
 a4:=Tryz.isAgg4
 z4:=Tryz.sizeOf4
 v4:=Tryz.zeroValue4
 t5:=Tryz.underlying5
 a5:=Tryz.isAgg5
 z5:=Tryz.sizeOf5
 v5:=Tryz.zeroValue5
 t9:=Tryz.underlying9
 a9:=Tryz.isAgg9
 z9:=Tryz.sizeOf9
 v9:=Tryz.zeroValue9
 t46:=Tryz.underlying277
 a46:=Tryz.isAgg277
 z46:=Tryz.sizeOf277
 v46:=Tryz.zeroValue277
 t51:=Tryz.underlying373
 a51:=Tryz.isAgg373
 z51:=Tryz.sizeOf373
 v51:=Tryz.zeroValue373
 t146:=Tryz.underlying414
 a146:=Tryz.isAgg414
 z146:=Tryz.sizeOf414
 v146:=Tryz.zeroValue414
 g1:=Pg}
open Go.RowKit Go.Lib in
theorem Tryz.strings_Count_one (s:ByteArray) (c:UInt8) (w:UN):
  VB UB 277 #[UH s,UH ⟨#[c]⟩] w fun e b=>e=UO (Ti Tl (Lib.countByte s.data.toList c))/\b=w:=Any.strings_Count_one Tryz.lays138 s c w
def Tryz.laysM219_ren:Y3:=⟨fun|219=>306|217=>314|225=>315|224=>316|267=>317|266=>321|314=>322|n=>n,fun|9=>9|3=>3|4=>4|5=>5|46=>277|146=>414|51=>373|n=>n,fun|1=>3|n=>n⟩
theorem Tryz.laysM219:Go.Proofs.LaysM.n219 UB Tryz.laysM219_ren:={
 mixed:=Pg
 f217:=Tryz.func314.trans (congrArg Ts Pg)
 f219:=Tryz.func306.trans (congrArg Ts Pg)
 f224:=Tryz.func316.trans (congrArg Ts Pg)
 f225:=Tryz.func315.trans (congrArg Ts Pg)
 f266:=Tryz.func321.trans (congrArg Ts Pg)
 f267:=Tryz.func317.trans (congrArg Ts Pg)
 f314:=Tryz.func322.trans (congrArg Ts Pg)
 t3:=Tryz.underlying3
 a3:=Tryz.isAgg3
 z3:=Tryz.sizeOf3
 v3:=Tryz.zeroValue3
 t4:=Tryz.underlying4
 a4:=Tryz.isAgg4
 z4:=Tryz.sizeOf4
 v4:=Tryz.zeroValue4
 t5:=Tryz.underlying5
 a5:=Tryz.isAgg5
 z5:=Tryz.sizeOf5
 v5:=Tryz.zeroValue5
 t9:=Tryz.underlying9
 a9:=Tryz.isAgg9
 z9:=Tryz.sizeOf9
 v9:=Tryz.zeroValue9
 t46:=Tryz.underlying277
 a46:=Tryz.isAgg277
 z46:=Tryz.sizeOf277
 v46:=Tryz.zeroValue277
 t51:=Tryz.underlying373
 a51:=Tryz.isAgg373
 z51:=Tryz.sizeOf373
 v51:=Tryz.zeroValue373
 t146:=Tryz.underlying414
 a146:=Tryz.isAgg414
 z146:=Tryz.sizeOf414
 v146:=Tryz.zeroValue414
 g1:=Pg
 i3:=Pg
 i4:=Pg
 i5:=Pg
 i9:=Pg
 i46:=Pg
 i51:=Pg
 i146:=Pg
 m1:=Pg
 s1_3:=fun w h=>Go.Proofs.cell_of_shapedOpen_int (zero:=#[Ti Tl 0]) (t:=3) h (of_decide_eq_true Pg) Pg rfl Pg Pg Tryz.underlying3}
def Tryz.laysGw17_ren:Y3:=⟨fun|17=>284|15=>307|20=>318|n=>n,fun|9=>9|23=>378|4=>4|3=>3|0=>0|21=>21|n=>n,fun|n=>n⟩
theorem Tryz.laysGw17:Go.Proofs.LaysGw.n17 UB Tryz.laysGw17_ren:={
 mixed:=Pg
 f15:=Tryz.func307.trans (congrArg Ts Pg)
 f17:=Tryz.func284.trans (congrArg Ts Pg)
 f20:=Tryz.func318.trans (congrArg Ts Pg)
 t0:=Tryz.underlying0
 a0:=Tryz.isAgg0
 z0:=Tryz.sizeOf0
 v0:=Tryz.zeroValue0
 i0:=Pg
 t3:=Tryz.underlying3
 a3:=Tryz.isAgg3
 z3:=Tryz.sizeOf3
 v3:=Tryz.zeroValue3
 i3:=Pg
 t4:=Tryz.underlying4
 a4:=Tryz.isAgg4
 z4:=Tryz.sizeOf4
 v4:=Tryz.zeroValue4
 i4:=Pg
 t9:=Tryz.underlying9
 a9:=Tryz.isAgg9
 z9:=Tryz.sizeOf9
 v9:=Tryz.zeroValue9
 i9:=Pg
 t21:=Tryz.underlying21
 a21:=Tryz.isAgg21
 z21:=Tryz.sizeOf21
 v21:=Tryz.zeroValue21
 i21:=Pg
 t23:=Tryz.underlying378
 a23:=Tryz.isAgg378
 z23:=Tryz.sizeOf378
 v23:=Tryz.zeroValue378
 i23:=Pg}
open Go.RowKit Go.Lib in
theorem Tryz.strings_ContainsFunc (g:Nat) (c:Array Value) (d:∀args w,(callFunc g args).run UB w= .ok (.enter g args) w) (p:Nat->Bool) (s:ByteArray) (w:UN) (x:PredAt UB g c encR p w):
  VB UB 284 #[UH s,.func (.func g) #[] c] w fun e b=>e=UO (U1 (decide (0<=Lib.idxFunc p true s)))/\Below w.heap.size w b:=Any.strings_ContainsFunc Tryz.laysGw17 g c d p s w x
def Tryz.lays146_ren:Y3:=⟨fun|146=>199|221=>239|268=>280|138=>277|143=>281|195=>300|197=>305|218=>301|219=>306|260=>313|217=>314|225=>315|224=>316|267=>317|266=>321|314=>322|n=>n,fun|9=>9|31=>73|3=>3|4=>4|0=>0|105=>399|21=>21|5=>5|46=>277|119=>410|139=>413|138=>412|146=>414|51=>373|n=>n,fun|1=>3|3=>4|4=>5|n=>n⟩
theorem Tryz.lays146:Go.Proofs.Lays.n146 UB Tryz.lays146_ren:={
 mixed:=Pg
 f138:=Tryz.func277.trans (congrArg Ts Pg)
 f143:=Tryz.func281.trans (congrArg Ts Pg)
 f146:=Tryz.func199.trans (congrArg Ts Pg)
 f195:=Tryz.func300.trans (congrArg Ts Pg)
 f197:=Tryz.func305.trans (congrArg Ts Pg)
 f217:=Tryz.func314.trans (congrArg Ts Pg)
 f218:=Tryz.func301.trans (congrArg Ts Pg)
 f219:=Tryz.func306.trans (congrArg Ts Pg)
 f221:=Tryz.func239.trans (congrArg Ts Pg)
 f224:=Tryz.func316.trans (congrArg Ts Pg)
 f225:=Tryz.func315.trans (congrArg Ts Pg)
 f260:=Tryz.func313.trans (congrArg Ts Pg)
 f266:=Tryz.func321.trans (congrArg Ts Pg)
 f267:=Tryz.func317.trans (congrArg Ts Pg)
 f268:=Tryz.func280.trans (congrArg Ts Pg)
 f314:=Tryz.func322.trans (congrArg Ts Pg)
 t0:=Tryz.underlying0
 a0:=Tryz.isAgg0
 z0:=Tryz.sizeOf0
 v0:=Tryz.zeroValue0
 t3:=Tryz.underlying3
 a3:=Tryz.isAgg3
 z3:=Tryz.sizeOf3
 v3:=Tryz.zeroValue3
 t4:=Tryz.underlying4
 a4:=Tryz.isAgg4
 z4:=Tryz.sizeOf4
 v4:=Tryz.zeroValue4
 t5:=Tryz.underlying5
 a5:=Tryz.isAgg5
 z5:=Tryz.sizeOf5
 v5:=Tryz.zeroValue5
 t9:=Tryz.underlying9
 a9:=Tryz.isAgg9
 z9:=Tryz.sizeOf9
 v9:=Tryz.zeroValue9
 t21:=Tryz.underlying21
 a21:=Tryz.isAgg21
 z21:=Tryz.sizeOf21
 v21:=Tryz.zeroValue21
 t31:=Tryz.underlying73
 a31:=Tryz.isAgg73
 z31:=Tryz.sizeOf73
 v31:=Tryz.zeroValue73
 t46:=Tryz.underlying277
 a46:=Tryz.isAgg277
 z46:=Tryz.sizeOf277
 v46:=Tryz.zeroValue277
 t51:=Tryz.underlying373
 a51:=Tryz.isAgg373
 z51:=Tryz.sizeOf373
 v51:=Tryz.zeroValue373
 t105:=Tryz.underlying399
 a105:=Tryz.isAgg399
 z105:=Tryz.sizeOf399
 v105:=Tryz.zeroValue399
 t119:=Tryz.underlying410
 a119:=Tryz.isAgg410
 z119:=Tryz.sizeOf410
 t138:=Tryz.underlying412
 a138:=Tryz.isAgg412
 z138:=Tryz.sizeOf412
 v138:=Tryz.zeroValue412
 t139:=Tryz.underlying413
 a139:=Tryz.isAgg413
 z139:=Tryz.sizeOf413
 v139:=Tryz.zeroValue413
 t146:=Tryz.underlying414
 a146:=Tryz.isAgg414
 z146:=Tryz.sizeOf414
 v146:=Tryz.zeroValue414
 g1:=Pg
 g3:=Pg
 g4:=Pg}
open Go.RowKit Go.Lib in
theorem Tryz.strings_Split (s c:ByteArray) (m:Int) (w:UN) (z:s.size<4294967281) (K:w.cell? ⟨3,0,U8⟩=Ts (Ti Tl m)) (h1:1<=c.size):
  VB UB 199 #[UH s,UH c] w fun e b=>
   e=UO (Tm (Ts ⟨w.heap.size,0,U8⟩) (Lib.countB s c+1) (Lib.countB s c+1))/\b=w.alloc (Obj.cells ((Lib.splitB c 0 (Lib.countB s c) s).map UH).toArray 9):=Any.strings_Split Tryz.lays146 Pg s c m w z K h1
def Tryz.lays264_ren:Y3:=⟨fun|264=>136|n=>n,fun|53=>30|46=>277|n=>n,fun|n=>n⟩
theorem Tryz.lays264:Go.Proofs.Lays.n264 UB Tryz.lays264_ren:={
 mixed:=Pg
 f264:=Tryz.func136.trans (congrArg Ts Pg)
 t46:=Tryz.underlying277
 a46:=Tryz.isAgg277
 z46:=Tryz.sizeOf277
 v46:=Tryz.zeroValue277
 t53:=Tryz.underlying30
 a53:=Tryz.isAgg30
 z53:=Tryz.sizeOf30
 v53:=Tryz.zeroValue30}
open Go.RowKit Go.Lib in
theorem Tryz.bits_Mul64 (x y:Nat) (m:x<18446744073709551616) (U:y<18446744073709551616) (w:UN):
  VB UB 136 #[Ti Tt x,Ti Tt y] w fun e b=>e=UO (UW #[Ti Tt ((x*y/18446744073709551616:Nat):Int),Ti Tt ((x*y%18446744073709551616:Nat):Int)])/\b=w:=Any.bits_Mul64 Tryz.lays264 x y m U w
def Tryz.lays110_ren:Y3:=⟨fun|110=>232|109=>265|n=>n,fun|31=>73|9=>9|4=>4|3=>3|0=>0|n=>n,fun|n=>n⟩
theorem Tryz.lays110:Go.Proofs.Lays.n110 UB Tryz.lays110_ren:={
 mixed:=Pg
 f109:=Tryz.func265.trans (congrArg Ts Pg)
 f110:=Tryz.func232.trans (congrArg Ts Pg)
 t0:=Tryz.underlying0
 a0:=Tryz.isAgg0
 z0:=Tryz.sizeOf0
 v0:=Tryz.zeroValue0
 t3:=Tryz.underlying3
 a3:=Tryz.isAgg3
 z3:=Tryz.sizeOf3
 v3:=Tryz.zeroValue3
 t4:=Tryz.underlying4
 a4:=Tryz.isAgg4
 z4:=Tryz.sizeOf4
 v4:=Tryz.zeroValue4
 t9:=Tryz.underlying9
 a9:=Tryz.isAgg9
 z9:=Tryz.sizeOf9
 v9:=Tryz.zeroValue9
 t31:=Tryz.underlying73
 a31:=Tryz.isAgg73
 z31:=Tryz.sizeOf73
 v31:=Tryz.zeroValue73}
open Go.Lib in
theorem Tryz.slices_Contains_string (b off n c:Nat) (d:List ByteArray) (x:ByteArray) (w:UN) (g:n<=d.length) (f:n<=9223372036854775807) (J:∀j,j<d.length->w.cell? ⟨b,off+j,U8⟩=Ts (UH (d.getD j ByteArray.empty))):
  VB UB 232 #[Tm (Ts ⟨b,off,U8⟩) n c,UH x] w fun e l=>e=UO (U1 (Lib.containsS (d.take n) x))/\l=w:=Any.slices_Contains_string Tryz.lays110 b off n c d x w g f J
def Tryz.lays111_ren:Y3:=⟨fun|111=>229|n=>n,fun|28=>84|3=>3|4=>4|0=>0|n=>n,fun|n=>n⟩
theorem Tryz.lays111:Go.Proofs.Lays.n111 UB Tryz.lays111_ren:={
 mixed:=Pg
 f111:=Tryz.func229.trans (congrArg Ts Pg)
 t0:=Tryz.underlying0
 a0:=Tryz.isAgg0
 z0:=Tryz.sizeOf0
 v0:=Tryz.zeroValue0
 t3:=Tryz.underlying3
 a3:=Tryz.isAgg3
 z3:=Tryz.sizeOf3
 v3:=Tryz.zeroValue3
 t4:=Tryz.underlying4
 a4:=Tryz.isAgg4
 z4:=Tryz.sizeOf4
 v4:=Tryz.zeroValue4
 t28:=Tryz.underlying84
 a28:=Tryz.isAgg84
 z28:=Tryz.sizeOf84
 v28:=Tryz.zeroValue84}
open Go.RowKit Go.Lib in
theorem Tryz.slices_Equal_int (b1 o1 n c b2 o2 m d:Nat) (g l:List Int) (w:UN) (s:n<=g.length) (U:m<=l.length) (o:n<=9223372036854775807) (f:m<=9223372036854775807) (p:∀j,j<g.length->w.cell? ⟨b1,o1+j,U8⟩=Ts (Ti Tl (g.getD j 0))) (r:∀j,j<l.length->w.cell? ⟨b2,o2+j,U8⟩=Ts (Ti Tl (l.getD j 0))):
  VB UB 229 #[Tm (Ts ⟨b1,o1,U8⟩) n c,Tm (Ts ⟨b2,o2,U8⟩) m d] w fun e b=>e=UO (U1 (g.take n==l.take m))/\∃q,b=w.drewN q:=Any.slices_Equal_int Tryz.lays111 b1 o1 n c b2 o2 m d g l w s U o f p r
open Go.RowKit Go.Lib in
theorem Tryz.slices_Equal_int_empty (a1 a2:Option Addr) (c m d:Nat) (w:UN) (f:m<=9223372036854775807):
  VB UB 229 #[Tm a1 0 c,Tm a2 m d] w fun e b=>e=UO (U1 (decide (m=0)))/\b=w:=Any.slices_Equal_int_empty Tryz.lays111 a1 a2 c m d w f
open Go.RowKit Go.Lib in
theorem Tryz.slices_Equal_int_lens (a1 a2:Option Addr) (n c m d:Nat) (w:UN) (f:n≠m):
  VB UB 229 #[Tm a1 n c,Tm a2 m d] w fun e b=>e=UO (U1 false)/\b=w:=Any.slices_Equal_int_lens Tryz.lays111 a1 a2 n c m d w f
def Tryz.laysSlK4_ren:Y3:=⟨fun|4=>89|n=>n,fun|22=>37|4=>4|5=>5|n=>n,fun|n=>n⟩
theorem Tryz.laysSlK4:Go.Proofs.SlLaysK.n4 UB Tryz.laysSlK4_ren:={
 mixed:=Pg
 f4:=Tryz.func89.trans (congrArg Ts Pg)
 t4:=Tryz.underlying4
 a4:=Tryz.isAgg4
 z4:=Tryz.sizeOf4
 v4:=Tryz.zeroValue4
 t22:=Tryz.underlying37
 a22:=Tryz.isAgg37
 z22:=Tryz.sizeOf37
 v22:=Tryz.zeroValue37
 t5:=Tryz.underlying5
 i5:=Pg}
open Go.RowKit Go.Lib in
theorem Tryz.bytes_Clone_at (a:Addr) (n c:Nat) (f:List Int) (w:UN) (m:f.length=n) (d:n<=140737488355328) (J:∀i,i<n->w.cell? (a.add i)=Ts (Ti Uy (f.getD i 0))):
  VB UB 89 #[Tm (Ts a) n c] w fun e b=>∃g,e=UO g/\b.ownsRow w.heap.size 5 1 g n (f.map (Ti Uy))/\g≠Tm U8 0 0/\Below w.heap.size w b:=Any.bytes_Clone_at Tryz.laysSlK4 a n c f w m d J
open Go.RowKit Go.Lib in
theorem Tryz.bytes_Clone_nil (n c:Nat) (w:UN):
  VB UB 89 #[Tm U8 n c] w fun e b=>e=UO (Tm U8 0 0)/\b=w:=Any.bytes_Clone_nil Tryz.laysSlK4 n c w
def Tryz.laysSlF06_f193_ren:Y3:=⟨fun|6=>193|15=>236|14=>235|28=>275|29=>240|20=>267|21=>268|22=>269|23=>270|24=>271|25=>272|26=>273|27=>274|46=>295|47=>296|48=>297|49=>298|50=>299|57=>311|n=>n,fun|22=>224|24=>289|25=>292|3=>3|39=>277|0=>0|53=>373|55=>30|4=>4|46=>367|45=>366|50=>158|5=>5|9=>9|66=>392|70=>395|76=>404|77=>405|n=>n,fun|n=>n⟩
theorem Tryz.laysSlF06_f193:Go.Proofs.SlLaysF0.n6 UB Tryz.laysSlF06_f193_ren:={
 mixed:=Pg
 f6:=⟨Tryz.f193.name,Pi,Tryz.func193.trans (congrArg Ts Pg)⟩
 f14:=⟨Tryz.f235.name,Pi,Tryz.func235.trans (congrArg Ts Pg)⟩
 f15:=Tryz.func236.trans (congrArg Ts Pg)
 f20:=⟨Tryz.f267.name,Pi,Tryz.func267.trans (congrArg Ts Pg)⟩
 f21:=⟨Tryz.f268.name,Pi,Tryz.func268.trans (congrArg Ts Pg)⟩
 f22:=⟨Tryz.f269.name,Pi,Tryz.func269.trans (congrArg Ts Pg)⟩
 f23:=⟨Tryz.f270.name,Pi,Tryz.func270.trans (congrArg Ts Pg)⟩
 f24:=⟨Tryz.f271.name,Pi,Tryz.func271.trans (congrArg Ts Pg)⟩
 f25:=⟨Tryz.f272.name,Pi,Tryz.func272.trans (congrArg Ts Pg)⟩
 f26:=⟨Tryz.f273.name,Pi,Tryz.func273.trans (congrArg Ts Pg)⟩
 f27:=⟨Tryz.f274.name,Pi,Tryz.func274.trans (congrArg Ts Pg)⟩
 f28:=Tryz.func275.trans (congrArg Ts Pg)
 f29:=Tryz.func240.trans (congrArg Ts Pg)
 f46:=⟨Tryz.f295.name,Pi,Tryz.func295.trans (congrArg Ts Pg)⟩
 f47:=Tryz.func296.trans (congrArg Ts Pg)
 f48:=Tryz.func297.trans (congrArg Ts Pg)
 f49:=⟨Tryz.f298.name,Pi,Tryz.func298.trans (congrArg Ts Pg)⟩
 f50:=⟨Tryz.f299.name,Pi,Tryz.func299.trans (congrArg Ts Pg)⟩
 f57:=⟨Tryz.f311.name,Pi,Tryz.func311.trans (congrArg Ts Pg)⟩
 t0:=Tryz.underlying0
 a0:=Tryz.isAgg0
 z0:=Tryz.sizeOf0
 v0:=Tryz.zeroValue0
 t3:=Tryz.underlying3
 a3:=Tryz.isAgg3
 z3:=Tryz.sizeOf3
 v3:=Tryz.zeroValue3
 t4:=Tryz.underlying4
 a4:=Tryz.isAgg4
 z4:=Tryz.sizeOf4
 v4:=Tryz.zeroValue4
 t5:=Tryz.underlying5
 a5:=Tryz.isAgg5
 z5:=Tryz.sizeOf5
 v5:=Tryz.zeroValue5
 t9:=Tryz.underlying9
 a9:=Tryz.isAgg9
 z9:=Tryz.sizeOf9
 v9:=Tryz.zeroValue9
 t22:=Tryz.underlying224
 a22:=Tryz.isAgg224
 z22:=Tryz.sizeOf224
 v22:=Tryz.zeroValue224
 t25:=Tryz.underlying292
 a25:=Tryz.isAgg292
 z25:=Tryz.sizeOf292
 v25:=Tryz.zeroValue292
 t39:=Tryz.underlying277
 a39:=Tryz.isAgg277
 z39:=Tryz.sizeOf277
 v39:=Tryz.zeroValue277
 t45:=Tryz.underlying366
 a45:=Tryz.isAgg366
 z45:=Tryz.sizeOf366
 v45:=Tryz.zeroValue366
 t46:=Tryz.underlying367
 a46:=Tryz.isAgg367
 z46:=Tryz.sizeOf367
 v46:=Tryz.zeroValue367
 t50:=Tryz.underlying158
 a50:=Tryz.isAgg158
 z50:=Tryz.sizeOf158
 v50:=Tryz.zeroValue158
 t53:=Tryz.underlying373
 a53:=Tryz.isAgg373
 z53:=Tryz.sizeOf373
 v53:=Tryz.zeroValue373
 t55:=Tryz.underlying30
 a55:=Tryz.isAgg30
 z55:=Tryz.sizeOf30
 v55:=Tryz.zeroValue30
 t66:=Tryz.underlying392
 a66:=Tryz.isAgg392
 z66:=Tryz.sizeOf392
 v66:=Tryz.zeroValue392
 t70:=Tryz.underlying395
 a70:=Tryz.isAgg395
 z70:=Tryz.sizeOf395
 v70:=Tryz.zeroValue395
 t76:=Tryz.underlying404
 a76:=Tryz.isAgg404
 z76:=Tryz.sizeOf404
 v76:=Tryz.zeroValue404
 t77:=Tryz.underlying405
 a77:=Tryz.isAgg405
 z77:=Tryz.sizeOf405
 v77:=Tryz.zeroValue405}
open Go.RowKit Go.Lib Go.Sort in
theorem Tryz.slices_SortFunc {α:Type} [Inhabited α] (k:Nat) (u:∀w,(isAgg 289).run UB w= .ok true w) (t:∀w,(Go.sizeOf 289).run UB w= .ok k w) (enc:α->List Value) (o:∀x,(enc x).length=k) (h1:∀x,∀v∈enc x,v.oneCell'=true) (l:α->α->Int) (s:SWO (ltOf l)) (g:Nat) (cb:Array Value) (c off cap:Nat) (d:Array α) (w:UN) (r:∀args w,(callFunc g args).run UB w= .ok (.enter g args) w) (j:CmpLays UB g cb enc k l c off d.size w) (q:HoldsK enc k w c off d) (f:c<w.heap.size) (m:d.size<4611686018427387904):
  VB UB 193 #[Tm (Ts ⟨c,off,U8⟩) d.size cap,.func (.func g) #[] cb] w fun e b=>
   e=UO (UW #[])/\∃p n os,PermIn 0 d.size d p/\SortedIn (ltOf l) 0 d.size p/\b=sortWorldK enc k w c off n p os:=AnyQ.slices_SortFunc Tryz.laysSlF06_f193 k u t enc o h1 l s g cb c off cap d w r j q f m
def Tryz.laysnb115_ren:Y3:=⟨fun|115=>87|n=>n,fun|37=>37|4=>4|9=>9|5=>5|n=>n,fun|n=>n⟩
theorem Tryz.laysnb115:Go.Proofs.Lays.nb115 UB Tryz.laysnb115_ren:={
 mixed:=Pg
 f115:=Tryz.func87.trans (congrArg Ts Pg)
 t4:=Tryz.underlying4
 a4:=Tryz.isAgg4
 z4:=Tryz.sizeOf4
 v4:=Tryz.zeroValue4
 t9:=Tryz.underlying9
 a9:=Tryz.isAgg9
 z9:=Tryz.sizeOf9
 v9:=Tryz.zeroValue9
 t37:=Tryz.underlying37
 a37:=Tryz.isAgg37
 z37:=Tryz.sizeOf37
 v37:=Tryz.zeroValue37
 t5:=Tryz.underlying5
 a5:=Tryz.isAgg5
 z5:=Tryz.sizeOf5
 v5:=Tryz.zeroValue5}
theorem Tryz.bytes_Equal_all(p1 p2:Option Addr)(n c m d:Nat)(f g:List Int)(w:UN)(l:f.length=n)(U:g.length=m)(h1:Lib.BytesIn w p1 n f)(j:Lib.BytesIn w p2 m g):
  VB UB 87 #[Tm p1 n c,Tm p2 m d] w fun e b=>e=UO (U1 (Lib.bytesOf f==Lib.bytesOf g))/\b=w:=Any.bytes_Equal_all Tryz.laysnb115 p1 p2 n c m d f g w l U h1 j
end Go.Proofs
