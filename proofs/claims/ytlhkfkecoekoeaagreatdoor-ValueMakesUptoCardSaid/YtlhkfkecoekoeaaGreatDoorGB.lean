/- Part B of the proof: conditions, facts of the program, rules. No condition beyond those that each theorem names. -/
import Derived.Test.YtlhkfkecoekoeaaGreatDoorGA
import Derived.Recover
import Derived.Shelf.Small.Strs
import Derived.Shelf.Strconv.Itoa1
import Derived.Shelf.LaysM
import Derived.Shelf.Strconv.Itoa2
import Derived.Ground.MpProg
import Derived.Shelf.Pu.ParseUintPublic10
import Derived.Shelf.Strings.Search1
import Derived.Ground.SlsfProg
import Derived.Shelf.SlSortCmp.Insertion
import Derived.Shelf.SlSortCmp.InsertionK
import Derived.Shelf.SlSortCmp.SiftDownK
import Derived.Shelf.SlSortCmp.HeapSortK
import Derived.Shelf.SlSortCmp.MedianK
import Derived.Shelf.SlSortCmp.PivotK
import Derived.Shelf.SlSortCmp.ReverseRangeK
import Derived.Shelf.SlSortCmp.PartialInsertionK
import Derived.Shelf.SlSortCmp.PartitionEqualK
import Derived.Shelf.SlSortCmp.PartitionK
import Derived.Shelf.SlSortCmp.PdqK
import Derived.Shelf.SlSortCmp.WholeK
import Derived.Shelf.SlSortCmp.Insertion1
import Derived.Shelf.SlSortCmp.NoneTotal
import Derived.Test.YtlhkfkecoekoeaaGreatDoorProg
import Derived.Lib.AppendIntMem
import Derived.Lib.ItoaMem
set_option linter.unusedVariables false
set_option linter.unusedSimpArgs false
set_option maxHeartbeats 1000000
set_option maxRecDepth 100000
namespace Go.Vc
def Rr(a:Bool)(Q:Int->Prop):Prop:=
 Q 1
def Rs(a:Int)(Q:Int->Prop):Prop:=
 Q 2
def Rg(a:Aa)(Q:Int->Prop):Prop:=
 Q 3
def RA(a:Aa)(Q:Int->Prop):Prop:=
 Q 4
def Qy(a:Val)(Q:Int->Prop):Prop:=
 Q 5
def QF(a:Val)(Q:Int->Prop):Prop:=
 Q 6
def Rj(x:Val)(Q:Int->Prop):Prop:=
 match x with
 |.nil=>False
 |.truth t=>Rr t Q
 |.num n=>Rs n Q
 |.text s=>Rg s Q
 |.atom s=>RA s Q
 |.set l h=>Qy (.set l h) Q
 |.fn k v h=>QF (.fn k v h) Q
def KZ(a:Bool)(Q:Int->Prop):Prop:=
 Q 1
def LC(a:Int)(Q:Int->Prop):Prop:=
 Q 1
def Lq(a:Aa)(Q:Int->Prop):Prop:=
 Q 1
def Lk(a:Aa)(Q:Int->Prop):Prop:=
 Q 1
def LM(a:Val)(Q:Int->Prop):Prop:=
 a.isSet=true/\
 (I64 (a.setH)->
 Q (a.setH))
def LF(a:Val)(Q:Int->Prop):Prop:=
 a.isFn=true/\
 (I64 (a.fnH)->
 Q (a.fnH))
def LB(x:Val)(Q:Int->Prop):Prop:=
 match x with
 |.nil=>False
 |.truth t=>KZ t Q
 |.num n=>LC n Q
 |.text s=>Lq s Q
 |.atom s=>Lk s Q
 |.set l h=>LM (.set l h) Q
 |.fn k v h=>LF (.fn k v h) Q
def Nr(a:Val)(Q:Int->Prop):Prop:=
 (a.isNil=true->
 Q 0)/\
 (a.isNil=false->
 Rj a fun b=>
 Q b)
def Eb(a:Val)(Q:Int->Prop):Prop:=
 (a.isNil=true->
 Q 1)/\
 (a.isNil=false->
 LB a fun b=>
 Q b)
def NB(a:List UInt8)(b:Bool)(Q:(List UInt8)->Prop):Prop:=
 (b=true->
 AY (a.length+([116,114,117,101]:Aa).length) 1/\
 Q (a++[116,114,117,101]))/\
 (b=false->
 AY (a.length+([102,97,108,115,101]:Aa).length) 1/\
 Q (a++[102,97,108,115,101]))
def Pb(b:List UInt8)(a:Bool)(Q:(List UInt8)->Prop):Prop:=
 NB b a fun c=>
 Q c
def PA(b:List UInt8)(a:Int)(d:Int)(Q:(List UInt8)->Prop):Prop:=
 Am (σ:=(List UInt8)×Int) (fun(e,g)=>
 Pt e g d fun f=>
 Q f) fun c=>
 (a<0->
 AY (b.length+([u8 45]).length) 1/\
 c ((b++([u8 45])),(IntKind.u64.wrap (-(IntKind.u64.wrap a)))))/\
 (¬(a<0)->
 c (b,(IntKind.u64.wrap a)))
def Ng(b:List UInt8)(c:Int)(a:Int)(Q:(List UInt8)->Prop):Prop:=
 PA b c a fun d=>
 Q d
def Wf(c:Bool)(a:List UInt8)(Q:(List UInt8)->Prop):Prop:=
 Pb a c fun b=>
 Q b
def Vk(b:Int)(a:List UInt8)(Q:(List UInt8)->Prop):Prop:=
 Ng a b 10 fun c=>
 Q c
def Vt(b:Aa)(a:List UInt8)(Q:(List UInt8)->Prop):Prop:=
 AY (a.length+([u8 34]).length) 1/\
 AY ((a++([u8 34])).length+b.length) 1/\
 AY (((a++([u8 34]))++b).length+([u8 34]).length) 1/\
 Q (((a++([u8 34]))++b)++([u8 34]))
def Wm(a:Aa)(b:List UInt8)(Q:(List UInt8)->Prop):Prop:=
 AY (b.length+a.length) 1/\
 Q (b++a)
def Nl(G:Val->(List UInt8)->((List UInt8)->Prop)->Prop)(c:List UInt8)(b:Int)(a:Val)(Q:(List UInt8)->Prop):Prop:=
 a.isSet=true/\
 In b (a.setL)/\
 G (ix (a.setL) b) c fun d=>
 Q d
def Nz(G:Val->(List UInt8)->((List UInt8)->Prop)->Prop)(c:List UInt8)(b:Int)(a:Val)(Q:(List UInt8)->Prop):Prop:=
 a.isFn=true/\
 In b (a.fnV)/\
 G (ix (a.fnV) b) c fun d=>
 Q d
def Nj(G:Val->(List UInt8)->((List UInt8)->Prop)->Prop)(d:List UInt8)(b:Int)(a:Val)(Q:(List UInt8)->Prop):Prop:=
 a.isFn=true/\
 In b (a.fnV)/\
 a.isFn=true/\
 In b (a.fnK)/\
 G (ix (a.fnK) b) d fun c=>
 AY (c.length+([58,32]:Aa).length) 1/\
 G (ix (a.fnV) b) (c++[58,32]) fun e=>
 Q e
def KW(G:Val->(List UInt8)->((List UInt8)->Prop)->Prop)(e:List UInt8)(d:Int)(g:Val)(Q:(List UInt8)->Prop):Prop:=
 Ay (σ:=(List UInt8)×Int) (e,0) fun(b,a)i=>
 (a<d->
 Am (σ:=(List UInt8)) (fun f=>
 Nl G f a g fun h=>
 I64 (a+1)/\
 i (h,(a+1))) fun c=>
 (0<a->
 AY (b.length+([44,32]:Aa).length) 1/\
 c (b++[44,32]))/\
 (¬(0<a)->
 c b))/\
 (¬(a<d)->
 Q b)
def Jw(G:Val->(List UInt8)->((List UInt8)->Prop)->Prop)(e:List UInt8)(d:Int)(g:Val)(Q:(List UInt8)->Prop):Prop:=
 Ay (σ:=(List UInt8)×Int) (e,0) fun(b,a)i=>
 (a<d->
 Am (σ:=(List UInt8)) (fun f=>
 Nz G f a g fun h=>
 I64 (a+1)/\
 i (h,(a+1))) fun c=>
 (0<a->
 AY (b.length+([44,32]:Aa).length) 1/\
 c (b++[44,32]))/\
 (¬(0<a)->
 c b))/\
 (¬(a<d)->
 Q b)
def Jy(G:Val->(List UInt8)->((List UInt8)->Prop)->Prop)(e:List UInt8)(d:Int)(g:Val)(Q:(List UInt8)->Prop):Prop:=
 Ay (σ:=(List UInt8)×Int) (e,0) fun(b,a)i=>
 (a<d->
 Am (σ:=(List UInt8)) (fun f=>
 Nj G f a g fun h=>
 I64 (a+1)/\
 i (h,(a+1))) fun c=>
 (0<a->
 AY (b.length+([44,32]:Aa).length) 1/\
 c (b++[44,32]))/\
 (¬(0<a)->
 c b))/\
 (¬(a<d)->
 Q b)
def Fo(b:List Val)(Q:Bool->Prop):Prop:=
 (Len b->
 Ay (σ:=Int) 0 fun a e=>
 (a<(b.length:Int)->
 In a b/\
 Am (σ:=Bool) (fun d=>
 (d=true->
 Q false)/\
 (d=false->
 I64 (a+1)/\
 e (a+1))) fun c=>
 ((!((ix b a).isNum))=true->
 c true)/\
 ((!((ix b a).isNum))=false->
 I64 (a+1)/\
 c (decide ((ix b a).numD≠(a+1)))))/\
 (¬(a<(b.length:Int))->
 Q true))
def VM(G:Val->(List UInt8)->((List UInt8)->Prop)->Prop)(a:Val)(b:List UInt8)(Q:(List UInt8)->Prop):Prop:=
 AY (b.length+([u8 123]).length) 1/\
 a.isSet=true/\
 (Len (a.setL)->
 KW G (b++([u8 123])) ((a.setL).length:Int) a fun c=>
 AY (c.length+([u8 125]).length) 1/\
 Q (c++([u8 125])))
def Vo(G:Val->(List UInt8)->((List UInt8)->Prop)->Prop)(a:Val)(b:List UInt8)(Q:(List UInt8)->Prop):Prop:=
 a.isFn=true/\
 Fo (a.fnK) fun c=>
 (c=true->
 AY (b.length+([60,60]:Aa).length) 1/\
 a.isFn=true/\
 (Len (a.fnV)->
 Jw G (b++[60,60]) ((a.fnV).length:Int) a fun d=>
 AY (d.length+([62,62]:Aa).length) 1/\
 Q (d++[62,62])))/\
 (c=false->
 AY (b.length+([u8 91]).length) 1/\
 a.isFn=true/\
 (Len (a.fnK)->
 Jy G (b++([u8 91])) ((a.fnK).length:Int) a fun e=>
 AY (e.length+([u8 93]).length) 1/\
 Q (e++([u8 93]))))
def Vw(G:Val->Aa->(Aa->Prop)->Prop)(x:Val)(b:Aa)(Q:Aa->Prop):Prop:=
 match x with
 |.nil=>False
 |.truth t=>Wf t b Q
 |.num n=>Vk n b Q
 |.text s=>Vt s b Q
 |.atom s=>Wm s b Q
 |.set l h=>VM G (.set l h) b Q
 |.fn k v h=>Vo G (.fn k v h) b Q
def Ko:Nat->Val->(List UInt8)->((List UInt8)->Prop)->Prop
 |0,_,_,_=>False
 |m0+1,b,a,Q=>
 (b.isNil=true->
 AY (a.length+([110,105,108]:Aa).length) 1/\
 Q (a++[110,105,108]))/\
 (b.isNil=false->
 Vw (Ko m0) b a fun c=>
 Q c)
def NN(b:Val)(Q:Aa->Prop):Prop:=
 ∃mf,Ko mf b ([]:List UInt8) fun a=>
 Q a
def Mw(a:Int)(Q:Bool->Prop):Prop:=
 Q (decide (a≠a))
def JX(a:Int)(Q:Bool->Prop):Prop:=
 Q (decide (a≠a))
def Kn(a:Aa)(Q:Bool->Prop):Prop:=
 Q (decide (a≠a))
def Kp(a:Aa)(Q:Bool->Prop):Prop:=
 Q (decide (a≠a))
def Oe(a:Int)(b:Int)(Q:Int->Prop):Prop:=
 Mw a fun d=>
 Mw b fun c=>
 (d=true->
 (c=true->
 Q 0)/\
 (c=false->
 Q (-1)))/\
 (d=false->
 (c=true->
 Q 1)/\
 (c=false->
 (a<b->
 Q (-1))/\
 (¬(a<b)->
 (b<a->
 Q 1)/\
 (¬(b<a)->
 Q 0))))
def Qm(a:Int)(b:Int)(Q:Int->Prop):Prop:=
 JX a fun d=>
 JX b fun c=>
 (d=true->
 (c=true->
 Q 0)/\
 (c=false->
 Q (-1)))/\
 (d=false->
 (c=true->
 Q 1)/\
 (c=false->
 (a<b->
 Q (-1))/\
 (¬(a<b)->
 (b<a->
 Q 1)/\
 (¬(b<a)->
 Q 0))))
def RM(a:Aa)(b:Aa)(Q:Int->Prop):Prop:=
 Kn a fun d=>
 Kn b fun c=>
 (d=true->
 (c=true->
 Q 0)/\
 (c=false->
 Q (-1)))/\
 (d=false->
 (c=true->
 Q 1)/\
 (c=false->
 ((MJ a b)=true->
 Q (-1))/\
 ((MJ a b)=false->
 ((!(MJ a b||decide (a=b)))=true->
 Q 1)/\
 ((!(MJ a b||decide (a=b)))=false->
 Q 0))))
def Qq(a:Aa)(b:Aa)(Q:Int->Prop):Prop:=
 Kp a fun d=>
 Kp b fun c=>
 (d=true->
 (c=true->
 Q 0)/\
 (c=false->
 Q (-1)))/\
 (d=false->
 (c=true->
 Q 1)/\
 (c=false->
 ((MJ a b)=true->
 Q (-1))/\
 ((MJ a b)=false->
 ((!(MJ a b||decide (a=b)))=true->
 Q 1)/\
 ((!(MJ a b||decide (a=b)))=false->
 Q 0))))
def Qv(b:LI)(Q:Int->Prop):Prop:=
 (Len b->
 Ay (σ:=Int) 0 fun a c=>
 (a<(b.length:Int)->
 In a b/\
 (I64 (ix b a)->
 ((ix b a)≠0->
 Q (ix b a))/\
 (¬((ix b a)≠0)->
 I64 (a+1)/\
 c (a+1))))/\
 (¬(a<(b.length:Int))->
 Q 0))
def Gq(G:Val->Val->(Int->Prop)->Prop)(b:List Val)(c:List Val)(Q:Int->Prop):Prop:=
 (Len b->
 Ay (σ:=Int) 0 fun a e=>
 (a<(b.length:Int)->
 In a b/\
 (Len c->
 ((c.length:Int)<=a->
 Q 1)/\
 (¬((c.length:Int)<=a)->
 In a c/\
 G (ix b a) (ix c a) fun d=>
 (d≠0->
 Q d)/\
 (¬(d≠0)->
 I64 (a+1)/\
 e (a+1)))))/\
 (¬(a<(b.length:Int))->
 (Len b->
 (Len c->
 ((b.length:Int)<(c.length:Int)->
 Q (-1))/\
 (¬((b.length:Int)<(c.length:Int))->
 Q 0)))))
def FV(G:Val->Val->(Int->Prop)->Prop)(a:List Val)(b:List Val)(Q:Int->Prop):Prop:=
 (Len a->
 (Len b->
 Oe (a.length:Int) (b.length:Int) fun c=>
 (c≠0->
 Q c)/\
 (¬(c≠0)->
 Gq G a b fun d=>
 Q d)))
def BF:Nat->Val->Val->(Int->Prop)->Prop
 |0,_,_,_=>False
 |m0+1,a,b,Q=>
 Nr a fun f=>
 Nr b fun j=>
 Oe f j fun c=>
 Am (σ:=Bool) (fun e=>
 (e=true->
 Q c)/\
 (e=false->
 (a.isTruth=true->
 b.isTruth=true/\
 ((a.truthD==b.truthD)=true->
 Q 0)/\
 ((a.truthD==b.truthD)=false->
 (b.truthD=true->
 Q (-1))/\
 (b.truthD=false->
 Q 1)))/\
 (a.isTruth=false->
 (a.isNum=true->
 b.isNum=true/\
 Qm a.numD b.numD fun k=>
 Q k)/\
 (a.isNum=false->
 (a.isText=true->
 b.isText=true/\
 RM a.textD b.textD fun l=>
 Q l)/\
 (a.isText=false->
 (a.isAtom=true->
 b.isAtom=true/\
 Qq a.atomD b.atomD fun m=>
 Q m)/\
 (a.isAtom=false->
 (a.isSet=true->
 a.isSet=true/\
 b.isSet=true/\
 b.isSet=true/\
 FV (BF m0) (a.setL) (b.setL) fun n=>
 Q n)/\
 (a.isSet=false->
 (a.isFn=true->
 b.isFn=true/\
 a.isFn=true/\
 b.isFn=true/\
 a.isFn=true/\
 b.isFn=true/\
 FV (BF m0) (a.fnK) (b.fnK) fun g=>
 FV (BF m0) (a.fnV) (b.fnV) fun h=>
 Qv ([g,h]) fun i=>
 Q i)/\
 (a.isFn=false->
 Q 0)))))))) fun d=>
 (c≠0->
 d true)/\
 (¬(c≠0)->
 d a.isNil)
def CK(a:Bool)(Q:Val->Prop):Prop:=
 Q (Val.truth a)
def BN(a:Int)(Q:Val->Prop):Prop:=
 Q (Val.num a)
def ZP(a:Aa)(Q:Val->Prop):Prop:=
 Q (Val.text a)
def UA(a:Aa)(Q:Val->Prop):Prop:=
 Q (Val.atom a)
def FP(a:List Val)(Q:Val->Prop):Prop:=
 (Len a->
 Ay (σ:=Int×Int) (1,0) fun(c,b)e=>
 (b<(a.length:Int)->
 In b a/\
 Eb (ix a b) fun d=>
 I64 (c+d)/\
 (1024<(c+d)->
 Q Val.nil)/\
 (¬(1024<(c+d))->
 I64 (b+1)/\
 e ((c+d),(b+1))))/\
 (¬(b<(a.length:Int))->
 Q (Val.set a c)))
def KF(a:Val)(b:Val)(Q:Bool->Prop):Prop:=
 ∃mf,BF mf a b fun c=>
 Q (decide (c=0))
def VW(x:List Val)(Q:List Val->Prop):Prop:=x.length<4611686018427387904/\∃c:Val->Val->Int,
 (∀a∈x,∀b∈x,∃m,BF m a b fun r=>r=c a b)/\(∀a∈x,¬c a a<0)/\(∀a∈x,∀b∈x,∀d∈x,c a b<0->c b d<0->c a d<0)/\(∀a∈x,∀b∈x,∀d∈x,¬c a b<0->¬c b d<0->¬c a d<0)/\
 ∀y,y.Perm x->y.Pairwise (fun a b=>¬c b a<0)->Q y
def JH(d:List Val)(Q:(List Val)->Prop):Prop:=
 (Len d->
 ((d.length:Int)<2->
 Q d)/\
 (¬((d.length:Int)<2)->
 Ay (σ:=Int) 1 fun a l=>
 (Len d->
 (a<(d.length:Int)->
 In a d/\
 I64 (a-1)/\
 In (a-1) d/\
 KF (ix d a) (ix d (a-1)) fun h=>
 (h=true->
 In a d/\
 Ay (σ:=(List Val)×Int×Int) (d,a,1) fun(c,e,b)k=>
 I64 ((c.length:Int)-a)/\
 (b<((c.length:Int)-a)->
 Am (σ:=(List Val)×Int) (fun(j,i)=>
 I64 (b+1)/\
 k (j,i,(b+1))) fun f=>
 (0<=b/\0<=(a+b)/\(a+b)<(c.length:Int))/\
 I64 (b-1)/\
 (0<=(b-1)/\0<=(a+(b-1))/\(a+(b-1))<(c.length:Int))/\
 KF (ix c (a+b)) (ix c (a+(b-1))) fun g=>
 ((!g)=true->
 (0<=b/\0<=(a+b)/\(a+b)<(c.length:Int))/\
 In e c/\
 I64 (e+1)/\
 f ((c.set e.toNat (ix c (a+b))),(e+1)))/\
 ((!g)=false->
 f (c,e)))/\
 (¬(b<((c.length:Int)-a))->
 In e c/\
 (0<=e/\e<=((c.take e.toNat++List.replicate (c.length-e.toNat) Val.nil).length:Int))/\
 Q ((c.take e.toNat++List.replicate (c.length-e.toNat) Val.nil).take e.toNat)))/\
 (h=false->
 I64 (a+1)/\
 l (a+1)))/\
 (¬(a<(d.length:Int))->
 Q d))))
def Fl(b:List Val)(Q:Val->Prop):Prop:=
 VW b fun a=>
 JH a fun c=>
 FP c fun d=>
 Q d
def FD(b:Int)(c:Int)(a:List Val)(Q:Int->Prop):Prop:=
 In b a/\
 In c a/\
 ∃mf,BF mf (ix a b) (ix a c) fun d=>
 Q d
def Mq(k:LI)(d:Int)(g:Int)(j:List Val)(Q:LI->Prop):Prop:=
 I64 (d+1)/\
 Ay (σ:=LI×Int) (k,(d+1)) fun(h,c)m=>
 (c<g->
 Ay (σ:=LI×Int) (h,c) fun(b,a)l=>
 Am (σ:=Bool) (fun i=>
 (i=true->
 I64 (a-1)/\
 I64 (a-1)/\
 In (a-1) b/\
 (I64 (ix b (a-1))->
 In a b/\
 (I64 (ix b a)->
 In a b/\
 In (a-1) (b.set a.toNat (ix b (a-1)))/\
 I64 (a-1)/\
 l (((b.set a.toNat (ix b (a-1))).set (a-1).toNat (ix b a)),(a-1)))))/\
 (i=false->
 I64 (c+1)/\
 m (b,(c+1)))) fun f=>
 (d<a->
 In a b/\
 (I64 (ix b a)->
 I64 (a-1)/\
 In (a-1) b/\
 (I64 (ix b (a-1))->
 ∃(e:Int),FD (ix b a) (ix b (a-1)) j (fun y0=>y0=e)/\I64 e/\
 f (decide (e<0)))))/\
 (¬(d<a)->
 f false))/\
 (¬(c<g)->
 Q h)
def HP(f:LI)(c:Int)(d:Int)(e:Int)(h:List Val)(Q:LI->Prop):Prop:=
 Ay (σ:=LI×Int) (f,0) fun(b,a)g=>
 (a<e->
 I64 (c+a)/\
 I64 (d+a)/\
 I64 (d+a)/\
 In (d+a) b/\
 (I64 (ix b (d+a))->
 I64 (c+a)/\
 In (c+a) b/\
 (I64 (ix b (c+a))->
 In (c+a) b/\
 In (d+a) (b.set (c+a).toNat (ix b (d+a)))/\
 I64 (a+1)/\
 g (((b.set (c+a).toNat (ix b (d+a))).set (d+a).toNat (ix b (c+a))),(a+1)))))/\
 (¬(a<e)->
 Q b)
def MC(l:LI)(f:Int)(b:Int)(g:Int)(d:List Val)(Q:LI->Prop):Prop:=
 I64 (b-f)/\
 I64 (g-b)/\
 Ay (σ:=LI×Int×Int) (l,(b-f),(g-b)) fun(e,a,c)h=>
 (a≠c->
 (c<a->
 I64 (b-a)/\
 HP e (b-a) b c d fun j=>
 I64 (a-c)/\
 h (j,(a-c),c))/\
 (¬(c<a)->
 I64 (b-a)/\
 I64 (b+c)/\
 I64 ((b+c)-a)/\
 HP e (b-a) ((b+c)-a) a d fun k=>
 I64 (c-a)/\
 h (k,a,(c-a))))/\
 (¬(a≠c)->
 I64 (b-a)/\
 HP e (b-a) b a d fun i=>
 Q i)
def CX:Nat->LI->Int->Int->Int->(List Val)->(LI->Prop)->Prop
 |0,_,_,_,_,_,_=>False
 |m0+1,e,a,b,c,o,Q=>
 I64 (b-a)/\
 ((b-a)=1->
 Ay (σ:=Int×Int) (b,c) fun(i,n)x=>
 (i<n->
 I64 (i+n)/\
 In (IntKind.i64.wrap ((IntKind.u64.wrap (i+n))/2)) e/\
 (I64 (ix e (IntKind.i64.wrap ((IntKind.u64.wrap (i+n))/2)))->
 In a e/\
 (I64 (ix e a)->
 FD (ix e (IntKind.i64.wrap ((IntKind.u64.wrap (i+n))/2))) (ix e a) o fun u=>
 (u<0->
 I64 ((IntKind.i64.wrap ((IntKind.u64.wrap (i+n))/2))+1)/\
 x (((IntKind.i64.wrap ((IntKind.u64.wrap (i+n))/2))+1),n))/\
 (¬(u<0)->
 x (i,(IntKind.i64.wrap ((IntKind.u64.wrap (i+n))/2)))))))/\
 (¬(i<n)->
 Ay (σ:=LI×Int) (e,a) fun(k,f)H=>
 I64 (i-1)/\
 (f<(i-1)->
 I64 (f+1)/\
 I64 (f+1)/\
 In (f+1) k/\
 (I64 (ix k (f+1))->
 In f k/\
 (I64 (ix k f)->
 In f k/\
 In (f+1) (k.set f.toNat (ix k (f+1)))/\
 I64 (f+1)/\
 H (((k.set f.toNat (ix k (f+1))).set (f+1).toNat (ix k f)),(f+1)))))/\
 (¬(f<(i-1))->
 Q k)))/\
 (¬((b-a)=1)->
 I64 (c-b)/\
 ((c-b)=1->
 Ay (σ:=Int×Int) (a,b) fun(j,m)A=>
 (j<m->
 I64 (j+m)/\
 In b e/\
 (I64 (ix e b)->
 In (IntKind.i64.wrap ((IntKind.u64.wrap (j+m))/2)) e/\
 (I64 (ix e (IntKind.i64.wrap ((IntKind.u64.wrap (j+m))/2)))->
 FD (ix e b) (ix e (IntKind.i64.wrap ((IntKind.u64.wrap (j+m))/2))) o fun v=>
 (¬(v<0)->
 I64 ((IntKind.i64.wrap ((IntKind.u64.wrap (j+m))/2))+1)/\
 A (((IntKind.i64.wrap ((IntKind.u64.wrap (j+m))/2))+1),m))/\
 (v<0->
 A (j,(IntKind.i64.wrap ((IntKind.u64.wrap (j+m))/2)))))))/\
 (¬(j<m)->
 Ay (σ:=LI×Int) (e,b) fun(l,g)I=>
 (j<g->
 I64 (g-1)/\
 I64 (g-1)/\
 In (g-1) l/\
 (I64 (ix l (g-1))->
 In g l/\
 (I64 (ix l g)->
 In g l/\
 In (g-1) (l.set g.toNat (ix l (g-1)))/\
 I64 (g-1)/\
 I (((l.set g.toNat (ix l (g-1))).set (g-1).toNat (ix l g)),(g-1)))))/\
 (¬(j<g)->
 Q l)))/\
 (¬((c-b)=1)->
 I64 (a+c)/\
 I64 ((IntKind.i64.wrap ((IntKind.u64.wrap (a+c))/2))+b)/\
 Am (σ:=Int×Int) (fun(G,F)=>
 I64 (((IntKind.i64.wrap ((IntKind.u64.wrap (a+c))/2))+b)-1)/\
 Ay (σ:=Int×Int) (G,F) fun(d,h)B=>
 (d<h->
 I64 (d+h)/\
 I64 ((((IntKind.i64.wrap ((IntKind.u64.wrap (a+c))/2))+b)-1)-(IntKind.i64.wrap ((IntKind.u64.wrap (d+h))/2)))/\
 In ((((IntKind.i64.wrap ((IntKind.u64.wrap (a+c))/2))+b)-1)-(IntKind.i64.wrap ((IntKind.u64.wrap (d+h))/2))) e/\
 (I64 (ix e ((((IntKind.i64.wrap ((IntKind.u64.wrap (a+c))/2))+b)-1)-(IntKind.i64.wrap ((IntKind.u64.wrap (d+h))/2))))->
 In (IntKind.i64.wrap ((IntKind.u64.wrap (d+h))/2)) e/\
 (I64 (ix e (IntKind.i64.wrap ((IntKind.u64.wrap (d+h))/2)))->
 FD (ix e ((((IntKind.i64.wrap ((IntKind.u64.wrap (a+c))/2))+b)-1)-(IntKind.i64.wrap ((IntKind.u64.wrap (d+h))/2)))) (ix e (IntKind.i64.wrap ((IntKind.u64.wrap (d+h))/2))) o fun w=>
 (¬(w<0)->
 I64 ((IntKind.i64.wrap ((IntKind.u64.wrap (d+h))/2))+1)/\
 B (((IntKind.i64.wrap ((IntKind.u64.wrap (d+h))/2))+1),h))/\
 (w<0->
 B (d,(IntKind.i64.wrap ((IntKind.u64.wrap (d+h))/2)))))))/\
 (¬(d<h)->
 I64 (((IntKind.i64.wrap ((IntKind.u64.wrap (a+c))/2))+b)-d)/\
 Am (σ:=LI) (fun s=>
 Am (σ:=LI) (fun t=>
 (((IntKind.i64.wrap ((IntKind.u64.wrap (a+c))/2))<(((IntKind.i64.wrap ((IntKind.u64.wrap (a+c))/2))+b)-d))/\((((IntKind.i64.wrap ((IntKind.u64.wrap (a+c))/2))+b)-d)<c)->
 CX m0 t (IntKind.i64.wrap ((IntKind.u64.wrap (a+c))/2)) (((IntKind.i64.wrap ((IntKind.u64.wrap (a+c))/2))+b)-d) c o fun E=>
 Q E)/\
 (¬(((IntKind.i64.wrap ((IntKind.u64.wrap (a+c))/2))<(((IntKind.i64.wrap ((IntKind.u64.wrap (a+c))/2))+b)-d))/\((((IntKind.i64.wrap ((IntKind.u64.wrap (a+c))/2))+b)-d)<c))->
 Q t)) fun r=>
 ((a<d)/\(d<(IntKind.i64.wrap ((IntKind.u64.wrap (a+c))/2)))->
 CX m0 s a d (IntKind.i64.wrap ((IntKind.u64.wrap (a+c))/2)) o fun D=>
 r D)/\
 (¬((a<d)/\(d<(IntKind.i64.wrap ((IntKind.u64.wrap (a+c))/2))))->
 r s)) fun q=>
 ((d<b)/\(b<(((IntKind.i64.wrap ((IntKind.u64.wrap (a+c))/2))+b)-d))->
 MC e d b (((IntKind.i64.wrap ((IntKind.u64.wrap (a+c))/2))+b)-d) o fun C=>
 q C)/\
 (¬((d<b)/\(b<(((IntKind.i64.wrap ((IntKind.u64.wrap (a+c))/2))+b)-d)))->
 q e))) fun p=>
 ((IntKind.i64.wrap ((IntKind.u64.wrap (a+c))/2))<b->
 I64 (((IntKind.i64.wrap ((IntKind.u64.wrap (a+c))/2))+b)-c)/\
 p ((((IntKind.i64.wrap ((IntKind.u64.wrap (a+c))/2))+b)-c),(IntKind.i64.wrap ((IntKind.u64.wrap (a+c))/2))))/\
 (¬((IntKind.i64.wrap ((IntKind.u64.wrap (a+c))/2))<b)->
 p (a,b))))
def Oa(p:LI)(b:Int)(f:List Val)(Q:LI->Prop):Prop:=
 Ay (σ:=LI×Int×Int) (p,0,20) fun(k,i,e)t=>
 (e<=b->
 Mq k i e f fun n=>
 I64 (e+20)/\
 t (n,e,(e+20)))/\
 (¬(e<=b)->
 Mq k i b f fun o=>
 Ay (σ:=LI×Int) (o,20) fun(j,a)r=>
 (a<b->
 I64 (2* a)/\
 Ay (σ:=LI×Int×Int) (j,0,(2* a)) fun(g,c,d)s=>
 (d<=b->
 I64 (c+a)/\
 ∃mf,CX mf g c (c+a) d f fun l=>
 I64 (2* a)/\
 I64 (d+(2* a))/\
 s (l,d,(d+(2* a))))/\
 (¬(d<=b)->
 Am (σ:=LI) (fun q=>
 I64 (a* 2)/\
 r (q,(a* 2))) fun h=>
 I64 (c+a)/\
 ((c+a)<b->
 ∃mf,CX mf g c (c+a) b f fun m=>
 h m)/\
 (¬((c+a)<b)->
 h g)))/\
 (¬(a<b)->
 Q j))
def Ob(a:LI)(c:List Val)(Q:LI->Prop):Prop:=
 (Len a->
 Oa a (a.length:Int) c fun b=>
 Q b)
def CL(c:List Val)(h:List Val)(Q:Val->Prop):Prop:=
 (Len c->
 Xf (c.length:Int) 8/\
 (Len (List.replicate (c.length:Int).toNat (0:Int))->
 Ay (σ:=LI×Int) ((List.replicate (c.length:Int).toNat (0:Int)),(0:Int)) fun(k,d)t=>
 (d<((List.replicate (c.length:Int).toNat (0:Int)).length:Int)->
 In d k/\
 I64 (d+1)/\
 t ((k.set d.toNat d),(d+1)))/\
 (¬(d<((List.replicate (c.length:Int).toNat (0:Int)).length:Int))->
 Ob k c fun b=>
 (Len b->
 Ay (σ:=(List Val)×(List Val)×Int×Int) (([]:List Val),([]:List Val),1,0) fun(i,j,e,a)u=>
 (a<(b.length:Int)->
 Am (σ:=(List Val)×(List Val)×Int) (fun(p,q,r)=>
 I64 (a+1)/\
 u (p,q,r,(a+1))) fun m=>
 In a b/\
 (I64 (ix b a)->
 Am (σ:=Bool) (fun o=>
 (o=true->
 m (i,j,e))/\
 (o=false->
 In (ix b a) c/\
 AY (i.length+([(ix c (ix b a))]).length) 16/\
 In (ix b a) h/\
 AY (j.length+([(ix h (ix b a))]).length) 16/\
 In (ix b a) c/\
 In (ix b a) h/\
 Eb (ix c (ix b a)) fun f=>
 Eb (ix h (ix b a)) fun g=>
 I64 (f+g)/\
 I64 (e+(f+g))/\
 (1024<(e+(f+g))->
 Q Val.nil)/\
 (¬(1024<(e+(f+g)))->
 m ((i++([(ix c (ix b a))])),(j++([(ix h (ix b a))])),(e+(f+g)))))) fun n=>
 (0<a->
 I64 (a-1)/\
 In (a-1) b/\
 (I64 (ix b (a-1))->
 In (ix b (a-1)) c/\
 In (ix b a) c/\
 ∃(s:Nat)(l:Int),BF s (ix c (ix b (a-1))) (ix c (ix b a)) (fun y0=>y0=l)/\I64 l/\
 n (decide (l=0))))/\
 (¬(0<a)->
 n false)))/\
 (¬(a<(b.length:Int))->
 Q (Val.fn i j e))))))
def BQ(b:List Val)(Q:Val->Prop):Prop:=
 (Len b->
 Xf (b.length:Int) 16/\
 (Len (List.replicate (b.length:Int).toNat Val.nil)->
 Ay (σ:=(List Val)×Int) ((List.replicate (b.length:Int).toNat Val.nil),(0:Int)) fun(c,a)f=>
 (a<((List.replicate (b.length:Int).toNat Val.nil).length:Int)->
 I64 (a+1)/\
 BN (a+1) fun d=>
 In a c/\
 I64 (a+1)/\
 f ((c.set a.toNat d),(a+1)))/\
 (¬(a<((List.replicate (b.length:Int).toNat Val.nil).length:Int))->
 CL c b fun e=>
 Q e)))
def Ef(e:Aa)(b:Int)(c:Int)(d:Bool)(a:Int)(E:Int->Int->Prop)(Q:Prop):Prop:=
 E a b
def MW(b:Aa)(f:Int)(h:Int)(i:Bool)(Q:Int->Prop):Prop:=
 Ay (σ:=Int) f fun a g=>
 Am (σ:=Bool) (fun e=>
 (e=true->
 I64 (a+1)/\
 g (a+1))/\
 (e=false->
 Q a)) fun d=>
 Len b/\
 (a<(b.length:Int)->
 In a b/\
 ∃(c:Int),LV [32,9,10] (AS b a) (fun y0=>y0=c)/\I64 c/\
 d (decide (0<=c)))/\
 (¬(a<(b.length:Int))->
 d false)
def PO(b:Aa)(a:Aa)(Q:Bool->Prop):Prop:=
 Am (σ:=Bool) (fun d=>
 Q d) fun c=>
 Len b/\
 Len a/\
 ((a.length:Int)<=(b.length:Int)->
 Len a/\
 (0<=(a.length:Int)/\(a.length:Int)<=(b.length:Int))/\
 c (decide ((b.take (a.length:Int).toNat)=a)))/\
 (¬((a.length:Int)<=(b.length:Int))->
 c false)
def EL(c:Aa)(a:Aa)(Q:Bool->Prop):Prop:=
 PO c a fun b=>
 Q b
def Lz(c:Aa)(g:Int)(e:Int)(f:Bool)(b:Aa)(Q:Bool->Int->Prop):Prop:=
 MW c g e f fun a=>
 (0<=a/\a<=(c.length:Int))/\
 EL (c.drop a.toNat) b fun d=>
 (d=true->
 Len b/\
 I64 (a+(b.length:Int))/\
 Q true (a+(b.length:Int)))/\
 (d=false->
 Q false a)
def ND(e:Aa)(g:Int)(b:Int)(c:Bool)(f:Aa)(E:Int->Int->Prop)(Q:Int->Prop):Prop:=
 Lz e g b c f fun d a=>
 ((!d)=true->
 Ef e a b c 1 E (
 Q a))/\
 ((!d)=false->
 Q a)
def Tu(a:Int)(Q:Bool->Prop):Prop:=
 Q (decide (((((97<=a)/\(a<=122))\/((65<=a)/\(a<=90)))\/((48<=a)/\(a<=57)))\/(a=95)))
def Vb(b:Aa)(c:Int)(h:Int)(i:Bool)(Q:Aa->Prop):Prop:=
 Ay (σ:=Int) c fun a g=>
 Am (σ:=Bool) (fun e=>
 (e=true->
 I64 (a+1)/\
 g (a+1))/\
 (e=false->
 (0<=c/\c<=a/\a<=(b.length:Int))/\
 Q ((b.take a.toNat).drop c.toNat))) fun d=>
 Len b/\
 (a<(b.length:Int)->
 In a b/\
 Tu (AS b a) fun f=>
 d f)/\
 (¬(a<(b.length:Int))->
 d false)
def GP(f:Aa)(g:Int)(e:Int)(b:Bool)(c:Val)(Q:Val->Bool->Prop):Prop:=
 Am (σ:=Bool) (fun d=>
 Q c d) fun a=>
 (b=true->
 a true)/\
 (b=false->
 a c.isNil)
def FC(a:Aa)(Q:Bool->Prop):Prop:=
 Am (σ:=Bool) (fun c=>
 (c=true->
 Q true)/\
 (c=false->
 Q false)) fun b=>
 (a=[109,111,100,117,108,101]->
 b (decide (a=[109,111,100,117,108,101])))/\
 (¬(a=[109,111,100,117,108,101])->
 (a=[99,111,110,115,116,97,110,116]->
 b (decide (a=[99,111,110,115,116,97,110,116])))/\
 (¬(a=[99,111,110,115,116,97,110,116])->
 (a=[97,116,111,109,115]->
 b (decide (a=[97,116,111,109,115])))/\
 (¬(a=[97,116,111,109,115])->
 (a=[115,121,109,109,101,116,114,105,99]->
 b (decide (a=[115,121,109,109,101,116,114,105,99])))/\
 (¬(a=[115,121,109,109,101,116,114,105,99])->
 (a=[118,97,114,105,97,98,108,101]->
 b (decide (a=[118,97,114,105,97,98,108,101])))/\
 (¬(a=[118,97,114,105,97,98,108,101])->
 (a=[100,101,102,105,110,101]->
 b (decide (a=[100,101,102,105,110,101])))/\
 (¬(a=[100,101,102,105,110,101])->
 (a=[105,110,105,116]->
 b (decide (a=[105,110,105,116])))/\
 (¬(a=[105,110,105,116])->
 (a=[97,99,116,105,111,110]->
 b (decide (a=[97,99,116,105,111,110])))/\
 (¬(a=[97,99,116,105,111,110])->
 (a=[102,97,105,114]->
 b (decide (a=[102,97,105,114])))/\
 (¬(a=[102,97,105,114])->
 (a=[119,101,97,107]->
 b (decide (a=[119,101,97,107])))/\
 (¬(a=[119,101,97,107])->
 (a=[115,116,114,111,110,103]->
 b (decide (a=[115,116,114,111,110,103])))/\
 (¬(a=[115,116,114,111,110,103])->
 (a=[105,110,118,97,114,105,97,110,116]->
 b (decide (a=[105,110,118,97,114,105,97,110,116])))/\
 (¬(a=[105,110,118,97,114,105,97,110,116])->
 (a=[112,114,111,112,101,114,116,121]->
 b (decide (a=[112,114,111,112,101,114,116,121])))/\
 (¬(a=[112,114,111,112,101,114,116,121])->
 (a=[97,110,100]->
 b (decide (a=[97,110,100])))/\
 (¬(a=[97,110,100])->
 (a=[111,114]->
 b (decide (a=[111,114])))/\
 (¬(a=[111,114])->
 (a=[110,111,116]->
 b (decide (a=[110,111,116])))/\
 (¬(a=[110,111,116])->
 (a=[105,109,112,108,105,101,115]->
 b (decide (a=[105,109,112,108,105,101,115])))/\
 (¬(a=[105,109,112,108,105,101,115])->
 (a=[105,102,102]->
 b (decide (a=[105,102,102])))/\
 (¬(a=[105,102,102])->
 (a=[105,110]->
 b (decide (a=[105,110])))/\
 (¬(a=[105,110])->
 (a=[117,110,105,111,110]->
 b (decide (a=[117,110,105,111,110])))/\
 (¬(a=[117,110,105,111,110])->
 (a=[105,110,116,101,114]->
 b (decide (a=[105,110,116,101,114])))/\
 (¬(a=[105,110,116,101,114])->
 (a=[109,105,110,117,115]->
 b (decide (a=[109,105,110,117,115])))/\
 (¬(a=[109,105,110,117,115])->
 (a=[115,117,98,115,101,116]->
 b (decide (a=[115,117,98,115,101,116])))/\
 (¬(a=[115,117,98,115,101,116])->
 (a=[112,111,119,101,114,115,101,116]->
 b (decide (a=[112,111,119,101,114,115,101,116])))/\
 (¬(a=[112,111,119,101,114,115,101,116])->
 (a=[102,108,97,116,116,101,110]->
 b (decide (a=[102,108,97,116,116,101,110])))/\
 (¬(a=[102,108,97,116,116,101,110])->
 (a=[100,111,109,97,105,110]->
 b (decide (a=[100,111,109,97,105,110])))/\
 (¬(a=[100,111,109,97,105,110])->
 (a=[117,110,99,104,97,110,103,101,100]->
 b (decide (a=[117,110,99,104,97,110,103,101,100])))/\
 (¬(a=[117,110,99,104,97,110,103,101,100])->
 (a=[101,110,97,98,108,101,100]->
 b (decide (a=[101,110,97,98,108,101,100])))/\
 (¬(a=[101,110,97,98,108,101,100])->
 (a=[97,108,119,97,121,115]->
 b (decide (a=[97,108,119,97,121,115])))/\
 (¬(a=[97,108,119,97,121,115])->
 (a=[101,118,101,110,116,117,97,108,108,121]->
 b (decide (a=[101,118,101,110,116,117,97,108,108,121])))/\
 (¬(a=[101,118,101,110,116,117,97,108,108,121])->
 (a=[117,110,116,105,108]->
 b (decide (a=[117,110,116,105,108])))/\
 (¬(a=[117,110,116,105,108])->
 (a=[108,101,97,100,115,116,111]->
 b (decide (a=[108,101,97,100,115,116,111])))/\
 (¬(a=[108,101,97,100,115,116,111])->
 (a=[99,104,111,111,115,101]->
 b (decide (a=[99,104,111,111,115,101])))/\
 (¬(a=[99,104,111,111,115,101])->
 (a=[97,108,108]->
 b (decide (a=[97,108,108])))/\
 (¬(a=[97,108,108])->
 (a=[115,111,109,101]->
 b (decide (a=[115,111,109,101])))/\
 (¬(a=[115,111,109,101])->
 (a=[101,97,99,104]->
 b (decide (a=[101,97,99,104])))/\
 (¬(a=[101,97,99,104])->
 (a=[116,104,111,115,101]->
 b (decide (a=[116,104,111,115,101])))/\
 (¬(a=[116,104,111,115,101])->
 (a=[102,117,110]->
 b (decide (a=[102,117,110])))/\
 (¬(a=[102,117,110])->
 (a=[105,102]->
 b (decide (a=[105,102])))/\
 (¬(a=[105,102])->
 (a=[116,104,101,110]->
 b (decide (a=[116,104,101,110])))/\
 (¬(a=[116,104,101,110])->
 (a=[101,108,115,101]->
 b (decide (a=[101,108,115,101])))/\
 (¬(a=[101,108,115,101])->
 (a=[108,101,116]->
 b (decide (a=[108,101,116])))/\
 (¬(a=[108,101,116])->
 (a=[110,105,108]->
 b (decide (a=[110,105,108])))/\
 (¬(a=[110,105,108])->
 (a=[116,114,117,101]->
 b (decide (a=[116,114,117,101])))/\
 (¬(a=[116,114,117,101])->
 (a=[102,97,108,115,101]->
 b (decide (a=[102,97,108,115,101])))/\
 (¬(a=[102,97,108,115,101])->
 (a=[115,105,122,101]->
 b (decide (a=[115,105,122,101])))/\
 (¬(a=[115,105,122,101])->
 (a=[108,101,110]->
 b (decide (a=[108,101,110])))/\
 (¬(a=[108,101,110])->
 (a=[104,101,97,100]->
 b (decide (a=[104,101,97,100])))/\
 (¬(a=[104,101,97,100])->
 (a=[116,97,105,108]->
 b (decide (a=[116,97,105,108])))/\
 (¬(a=[116,97,105,108])->
 (a=[97,112,112,101,110,100]->
 b (decide (a=[97,112,112,101,110,100])))/\
 (¬(a=[97,112,112,101,110,100])->
 (a=[118,97,108,117,101,115]->
 b (decide (a=[118,97,108,117,101,115])))/\
 (¬(a=[118,97,108,117,101,115])->
 b (decide (a=[115,101,113,115])))))))))))))))))))))))))))))))))))))))))))))))))))))
def Ku(m:Aa)(g:Int)(j:Int)(k:Bool)(a:Aa)(d:Bool)(E:Int->Int->Prop)(Q:Val->Int->Prop):Prop:=
 Len a/\
 Ay (σ:=Int) 0 fun b r=>
 (b<(a.length:Int)->
 Am (σ:=Unit) (fun _=>
 r (IntKind.i64.wrap (b+1))) fun h=>
 Am (σ:=Bool) (fun n=>
 (n=true->
 Ef m g j k 1 E (
 h ()))/\
 (n=false->
 h ())) fun c=>
 In b a/\
 ((AS a b)<48->
 c true)/\
 (¬((AS a b)<48)->
 In b a/\
 (57<(AS a b)->
 c true)/\
 (¬(57<(AS a b))->
 In 0 a/\
 ((AS a 0)=48->
 (0<b->
 c true)/\
 (¬(0<b)->
 c d))/\
 (¬((AS a 0)=48)->
 c false))))/\
 (¬(b<(a.length:Int))->
 LP a 10 64 fun e l=>
 Am (σ:=Unit) (fun _=>
 Len a/\
 (d=true->
 BN (Hx (IntKind.i64.wrap e)) fun p=>
 Q p (IntKind.i64.wrap ((IntKind.i64.wrap (g+(a.length:Int)))+1)))/\
 (d=false->
 BN (IntKind.i64.wrap e) fun q=>
 Q q (IntKind.i64.wrap (g+(a.length:Int))))) fun i=>
 Am (σ:=Bool) (fun o=>
 (o=true->
 Ef m g j k 5 E (
 i ()))/\
 (o=false->
 i ())) fun f=>
 ((!l)=true->
 f true)/\
 ((!l)=false->
 (9223372036854775807<e->
 (d=true->
 f (!(decide (e=9223372036854775808))))/\
 (d=false->
 f (!false)))/\
 (¬(9223372036854775807<e)->
 f false)))
def KI(b:Aa)(d:Int)(g:Int)(h:Bool)(E:Int->Int->Prop)(Q:Val->Int->Prop):Prop:=
 (0<=d/\d<=(b.length:Int))/\
 Am (σ:=Unit) (fun _=>
 EL (b.drop d.toNat) [45] fun f=>
 Am (σ:=Int) (fun j=>
 Vb b j g h fun a=>
 Am (σ:=Int) (fun e=>
 Am (σ:=Bool) (fun v=>
 (v=true->
 Ku b e g h a f E fun B C=>
 Q B C)/\
 (v=false->
 Am (σ:=Unit) (fun _=>
 (a=[110,105,108]->
 Len a/\
 I64 (e+(a.length:Int))/\
 Q Val.nil (e+(a.length:Int)))/\
 (¬(a=[110,105,108])->
 Am (σ:=Bool) (fun x=>
 (x=true->
 Len a/\
 I64 (e+(a.length:Int))/\
 CK (decide (a=[116,114,117,101])) fun D=>
 Q D (e+(a.length:Int)))/\
 (x=false->
 Am (σ:=Unit) (fun _=>
 Len a/\
 I64 (e+(a.length:Int))/\
 UA a fun F=>
 Q F (e+(a.length:Int))) fun m=>
 FC a fun t=>
 (t=true->
 Ef b e g h 1 E (
 m ()))/\
 (t=false->
 Len a/\
 (16<(a.length:Int)->
 Ef b e g h 5 E (
 m ()))/\
 (¬(16<(a.length:Int))->
 m ())))) fun r=>
 (a=[116,114,117,101]->
 r (decide (a=[116,114,117,101])))/\
 (¬(a=[116,114,117,101])->
 r (decide (a=[102,97,108,115,101]))))) fun q=>
 Am (σ:=Bool) (fun w=>
 (w=true->
 Ef b e g h 1 E (
 q ()))/\
 (w=false->
 q ())) fun l=>
 (a=([]:Aa)->
 l true)/\
 (¬(a=([]:Aa))->
 (f=true->
 l true)/\
 (f=false->
 In 0 a/\
 l (decide ((AS a 0)=95)))))) fun k=>
 (a≠([]:Aa)->
 In 0 a/\
 (48<=(AS a 0)->
 In 0 a/\
 k (decide ((AS a 0)<=57)))/\
 (¬(48<=(AS a 0))->
 k false))/\
 (¬(a≠([]:Aa))->
 k false)) fun p=>
 (f=true->
 I64 (j-1)/\
 p (j-1))/\
 (f=false->
 p j)) fun o=>
 (f=true->
 I64 (d+1)/\
 o (d+1))/\
 (f=false->
 o d)) fun n=>
 EL (b.drop d.toNat) [34] fun s=>
 (s=true->
 I64 (d+1)/\
 Ay (σ:=Int) (d+1) fun c G=>
 Am (σ:=Bool) (fun u=>
 (u=true->
 In c b/\
 ((AS b c)=34->
 I64 (d+1)/\
 (0<=(d+1)/\(d+1)<=c/\c<=(b.length:Int))/\
 I64 (c+1)/\
 ZP ((b.take c.toNat).drop (d+1).toNat) fun A=>
 Q A (c+1))/\
 (¬((AS b c)=34)->
 I64 (c+1)/\
 G (c+1)))/\
 (u=false->
 Ef b d g h 1 E (
 n ()))) fun i=>
 Len b/\
 (c<(b.length:Int)->
 In c b/\
 (32<=(AS b c)->
 In c b/\
 ((AS b c)<=126->
 In c b/\
 i (decide ((AS b c)≠92)))/\
 (¬((AS b c)<=126)->
 i false))/\
 (¬(32<=(AS b c))->
 i false))/\
 (¬(c<(b.length:Int))->
 i false))/\
 (s=false->
 n ())
def Ky(G:Aa->Int->Int->Bool->(Int->Int->Prop)->(Val->Int->Int->Bool->Prop)->Prop)(a:List Val)(h:Aa)(i:Int)(c:Int)(d:Bool)(E:Int->Int->Prop)(Q:(List Val)->Int->Int->Bool->Prop):Prop:=
 G h i c d E fun b e f g=>
 AY (a.length+([b]).length) 16/\
 Q (a++([b])) e f g
def KL(G:Aa->Int->Int->Bool->(Int->Int->Prop)->(Val->Int->Int->Bool->Prop)->Prop)(b:List Val)(a:Aa)(o:Int)(h:Int)(i:Bool)(f:List Val)(E:Int->Int->Prop)(Q:(List Val)->Int->Int->Bool->(List Val)->Prop):Prop:=
 G a o h i E fun c j d e=>
 AY (b.length+([c]).length) 16/\
 ND a j d e [58] E fun k=>
 Ky G f a k d e E fun g l m n=>
 Q (b++([c])) l m n g
def Qc(G:Aa->Int->Int->Bool->(Int->Int->Prop)->(Val->Int->Int->Bool->Prop)->Prop)(b:Aa)(h:Int)(a:Int)(f:Bool)(c:Aa)(k:List Val)(E:Int->Int->Prop)(Q:Int->Int->Bool->(List Val)->Prop):Prop:=
 Am (σ:=Int) (fun g=>
 Len c/\
 I64 (h+(c.length:Int))/\
 Am (σ:=Int×Int×Bool×(List Val)) (fun(r,l,s,t)=>
 I64 (l-1)/\
 Q r (l-1) s t) fun i=>
 Lz b (h+(c.length:Int)) g f c fun n o=>
 ((!n)=true->
 Ky G k b o g f E fun u x A B=>
 Ay (σ:=Int×Int×Bool×(List Val)) (x,A,B,u) fun(v,d,e,m)I=>
 Lz b v d e [44] fun p q=>
 (p=true->
 Ky G m b q d e E fun w C D F=>
 I (C,D,F,w))/\
 (p=false->
 ND b q d e c E fun H=>
 i (H,d,e,m)))/\
 ((!n)=false->
 i (o,g,f,k))) fun j=>
 I64 (a+1)/\
 (24<(a+1)->
 Ef b h (a+1) f 6 E (
 j (a+1)))/\
 (¬(24<(a+1))->
 j (a+1))
def Qg(G:Aa->Int->Int->Bool->(Int->Int->Prop)->(Val->Int->Int->Bool->Prop)->Prop)(c:Aa)(e:Int)(a:Int)(i:Bool)(l:List Val)(p:List Val)(E:Int->Int->Prop)(Q:Int->Int->Bool->(List Val)->(List Val)->Prop):Prop:=
 Am (σ:=Int) (fun q=>
 I64 (e+1)/\
 KL G l c (e+1) q i p E fun r x A B s=>
 Ay (σ:=Int×Int×Bool×(List Val)×(List Val)) (x,A,B,s,r) fun(m,b,d,g,h)C=>
 Lz c m b d [44] fun j k=>
 (j=true->
 KL G h c k b d g E fun n t u v o=>
 C (t,u,v,o,n))/\
 (j=false->
 ND c k b d [93] E fun w=>
 I64 (b-1)/\
 Q w (b-1) d h g)) fun f=>
 I64 (a+1)/\
 (24<(a+1)->
 Ef c e (a+1) i 6 E (
 f (a+1)))/\
 (¬(24<(a+1))->
 f (a+1))
def Fq:Nat->Aa->Int->Int->Bool->(Int->Int->Prop)->(Val->Int->Int->Bool->Prop)->Prop
 |0,_,_,_,_,_,_=>False
 |m0+1,a,I,c,d,E,Q=>
 MW a I c d fun b=>
 (0<=b/\b<=(a.length:Int))/\
 EL (a.drop b.toNat) [123] fun g=>
 (g=true->
 Qc (Fq m0) a b c d [125] ([]:List Val) E fun h i x p=>
 Fl p fun A=>
 GP a h i x A fun B C=>
 Q B h i C)/\
 (g=false->
 EL (a.drop b.toNat) [60,60] fun j=>
 (j=true->
 Qc (Fq m0) a b c d [62,62] ([]:List Val) E fun k l D q=>
 BQ q fun F=>
 GP a k l D F fun G H=>
 Q G k l H)/\
 (j=false->
 EL (a.drop b.toNat) [91] fun m=>
 (m=true->
 Qg (Fq m0) a b c d ([]:List Val) ([]:List Val) E fun e f r n o=>
 CL n o fun s=>
 GP a e f r s fun t u=>
 Q t e f u)/\
 (m=false->
 KI a b c d E fun v w=>
 Q v w c d)))
def Kr(a:Aa)(b:Aa)(Q:Int->Prop):Prop:=
 ((MJ a b)=true->
 Q (-1))/\
 ((MJ a b)=false->
 ((!(MJ a b||decide (a=b)))=true->
 Q 1)/\
 ((!(MJ a b||decide (a=b)))=false->
 Q 0))
def KR(G:RV->RV->(Int->Prop)->Prop)(a:List RV)(c:List RV)(Q:Int->Prop):Prop:=
 (Len a->
 (Len c->
 ((a.length:Int)<(c.length:Int)->
 Q (-1))/\
 (¬((a.length:Int)<(c.length:Int))->
 (Len a->
 (Len c->
 ((c.length:Int)<(a.length:Int)->
 Q 1)/\
 (¬((c.length:Int)<(a.length:Int))->
 Ay (σ:=Int) 0 fun b e=>
 (Len a->
 (b<(a.length:Int)->
 In b a/\
 (I64 (ix a b).k->I64 (ix a b).i->
 In b c/\
 (I64 (ix c b).k->I64 (ix c b).i->
 G (ix a b) (ix c b) fun d=>
 (d≠0->
 Q d)/\
 (¬(d≠0)->
 I64 (b+1)/\
 e (b+1)))))/\
 (¬(b<(a.length:Int))->
 Q 0))))))))
def BX:Nat->RV->RV->(Int->Prop)->Prop
 |0,_,_,_=>False
 |m0+1,a,b,Q=>
 (a.k<b.k->
 Q (-1))/\
 (¬(a.k<b.k)->
 (b.k<a.k->
 Q 1)/\
 (¬(b.k<a.k)->
 (a.i<b.i->
 Q (-1))/\
 (¬(a.i<b.i)->
 (b.i<a.i->
 Q 1)/\
 (¬(b.i<a.i)->
 Kr a.t b.t fun d=>
 Am (σ:=Int) (fun c=>
 Am (σ:=Int) (fun g=>
 Q g) fun f=>
 (c=0->
 KR (BX m0) a.vs b.vs fun j=>
 f j)/\
 (¬(c=0)->
 f c)) fun e=>
 (d=0->
 KR (BX m0) a.ks b.ks fun h=>
 e h)/\
 (¬(d=0)->
 e d)))))
def DU:Nat->RV->(Int->Prop)->Prop
 |0,_,_=>False
 |m0+1,a,Q=>
 Ay (σ:=Int×Int) (1,0) fun(d,b)j=>
 (Len a.ks->
 (b<(a.ks.length:Int)->
 In b a.ks/\
 (I64 (ix a.ks b).k->I64 (ix a.ks b).i->
 DU m0 (ix a.ks b) fun g=>
 I64 (d+g)/\
 I64 (b+1)/\
 j ((d+g),(b+1))))/\
 (¬(b<(a.ks.length:Int))->
 Ay (σ:=Int×Int) (d,0) fun(e,c)h=>
 (Len a.vs->
 (c<(a.vs.length:Int)->
 In c a.vs/\
 (I64 (ix a.vs c).k->I64 (ix a.vs c).i->
 DU m0 (ix a.vs c) fun f=>
 I64 (e+f)/\
 I64 (c+1)/\
 h ((e+f),(c+1))))/\
 (¬(c<(a.vs.length:Int))->
 Q e))))
def FQ(b:RV)(Q:RV->Prop):Prop:=
 ∃mf,DU mf b fun a=>
 (1024<a->
 Q (RV.mk 0 0 [] [] []))/\
 (¬(1024<a)->
 Q b)
def AQ(a:Bool)(Q:RV->Prop):Prop:=
 (a=true->
 Q (RV.mk 1 1 ([]:Aa) ([]:List RV) ([]:List RV)))/\
 (a=false->
 Q (RV.mk 1 0 ([]:Aa) ([]:List RV) ([]:List RV)))
def BU(a:Int)(Q:RV->Prop):Prop:=
 Q (RV.mk 2 a ([]:Aa) ([]:List RV) ([]:List RV))
def DC(c:List RV)(f:RV)(Q:Int->Bool->Prop):Prop:=
 (Len c->
 Ay (σ:=Int×Int) (0,(c.length:Int)) fun(a,b)e=>
 (a<b->
 I64 (a+b)/\
 ((2:Int)≠0/\I64 ((a+b).tdiv 2))/\
 In ((a+b).tdiv 2) c/\
 (I64 (ix c ((a+b).tdiv 2)).k->I64 (ix c ((a+b).tdiv 2)).i->
 ∃mf,BX mf (ix c ((a+b).tdiv 2)) f fun d=>
 (d=0->
 Q ((a+b).tdiv 2) true)/\
 (¬(d=0)->
 (d<0->
 I64 (((a+b).tdiv 2)+1)/\
 e ((((a+b).tdiv 2)+1),b))/\
 (¬(d<0)->
 e (a,((a+b).tdiv 2))))))/\
 (¬(a<b)->
 Q a false))
def KY(c:List RV)(d:Int)(e:RV)(Q:(List RV)->Prop):Prop:=
 AY (c.length+([(RV.mk 0 0 [] [] [])]).length) 80/\
 (Len (c++([(RV.mk 0 0 [] [] [])]))->
 I64 (((c++([(RV.mk 0 0 [] [] [])])).length:Int)-1)/\
 Ay (σ:=(List RV)×Int) ((c++([(RV.mk 0 0 [] [] [])])),(((c++([(RV.mk 0 0 [] [] [])])).length:Int)-1)) fun(b,a)f=>
 (d<a->
 I64 (a-1)/\
 In (a-1) b/\
 (I64 (ix b (a-1)).k->I64 (ix b (a-1)).i->
 In a b/\
 I64 (a-1)/\
 f ((b.set a.toNat (ix b (a-1))),(a-1))))/\
 (¬(d<a)->
 In d b/\
 Q (b.set d.toNat e)))
def CR(b:List RV)(Q:RV->Prop):Prop:=
 Ay (σ:=(List RV)×Int) (([]:List RV),0) fun(c,a)l=>
 (Len b->
 (a<(b.length:Int)->
 Am (σ:=(List RV)) (fun f=>
 I64 (a+1)/\
 l (f,(a+1))) fun d=>
 In a b/\
 (I64 (ix b a).k->I64 (ix b a).i->
 DC c (ix b a) fun g e=>
 ((!e)=true->
 In a b/\
 (I64 (ix b a).k->I64 (ix b a).i->
 KY c g (ix b a) fun h=>
 d h))/\
 ((!e)=false->
 d c)))/\
 (¬(a<(b.length:Int))->
 FQ (RV.mk 5 0 ([]:Aa) c ([]:List RV)) fun j=>
 Q j))
def FU(b:List RV)(d:List RV)(Q:RV->Prop):Prop:=
 Ay (σ:=(List RV)×(List RV)×Int) (([]:List RV),([]:List RV),0) fun(c,e,a)p=>
 (Len b->
 (a<(b.length:Int)->
 Am (σ:=(List RV)×(List RV)) (fun(j,l)=>
 I64 (a+1)/\
 p (j,l,(a+1))) fun f=>
 In a b/\
 (I64 (ix b a).k->I64 (ix b a).i->
 DC c (ix b a) fun g h=>
 ((!h)=true->
 In a b/\
 (I64 (ix b a).k->I64 (ix b a).i->
 KY c g (ix b a) fun m=>
 In a d/\
 (I64 (ix d a).k->I64 (ix d a).i->
 KY e g (ix d a) fun n=>
 f (m,n))))/\
 ((!h)=false->
 f (c,e))))/\
 (¬(a<(b.length:Int))->
 FQ (RV.mk 6 0 ([]:Aa) c e) fun o=>
 Q o))
def Ea(b:List RV)(Q:RV->Prop):Prop:=
 Ay (σ:=(List RV)×(List RV)×Int) (([]:List RV),([]:List RV),0) fun(c,d,a)g=>
 (Len b->
 (a<(b.length:Int)->
 I64 (a+1)/\
 BU (a+1) fun e=>
 AY (c.length+([e]).length) 80/\
 In a b/\
 (I64 (ix b a).k->I64 (ix b a).i->
 AY (d.length+([(ix b a)]).length) 80/\
 I64 (a+1)/\
 g ((c++([e])),(d++([(ix b a)])),(a+1))))/\
 (¬(a<(b.length:Int))->
 FQ (RV.mk 6 0 ([]:Aa) c d) fun f=>
 Q f))
def Ic(b:RV)(Q:Bool->Prop):Prop:=
 Ay (σ:=Int) 0 fun a e=>
 (Len b.ks->
 (a<(b.ks.length:Int)->
 Am (σ:=Bool) (fun d=>
 (d=true->
 Q false)/\
 (d=false->
 I64 (a+1)/\
 e (a+1))) fun c=>
 In a b.ks/\
 (I64 ((ix b.ks a).k)->
 (((ix b.ks a).k)≠2->
 c true)/\
 (¬(((ix b.ks a).k)≠2)->
 In a b.ks/\
 (I64 ((ix b.ks a).i)->
 I64 (a+1)/\
 c (decide (((ix b.ks a).i)≠(a+1)))))))/\
 (¬(a<(b.ks.length:Int))->
 Q (decide (b.k=6))))
def IU(b:Int)(Q:Aa->Prop):Prop:=
 Am (σ:=Int) (fun e=>
 Ay (σ:=Int×Aa) (e,([]:Aa)) fun(a,c)f=>
 (9<a->
 ((0:Int)<10)/\
 I64 ((([u8 (IntKind.u8.wrap (IntKind.u64.wrap (48+(a.tmod 10))))]).length:Int)+c.length)/\
 ((0:Int)<10)/\
 f ((a.tdiv 10),(([u8 (IntKind.u8.wrap (IntKind.u64.wrap (48+(a.tmod 10))))])++c)))/\
 (¬(9<a)->
 I64 ((([u8 (IntKind.u8.wrap (IntKind.u64.wrap (48+a)))]).length:Int)+c.length)/\
 (b<0->
 I64 ((([45]:Aa).length:Int)+(([u8 (IntKind.u8.wrap (IntKind.u64.wrap (48+a)))])++c).length)/\
 Q ([45]++(([u8 (IntKind.u8.wrap (IntKind.u64.wrap (48+a)))])++c)))/\
 (¬(b<0)->
 Q (([u8 (IntKind.u8.wrap (IntKind.u64.wrap (48+a)))])++c)))) fun d=>
 (b<0->
 d (IntKind.u64.wrap (-(IntKind.u64.wrap b))))/\
 (¬(b<0)->
 d (IntKind.u64.wrap b))
def Ks(G:RV->(Aa->Prop)->Prop)(b:List RV)(Q:Aa->Prop):Prop:=
 Ay (σ:=Aa×Int) (([]:Aa),0) fun(c,a)g=>
 (Len b->
 (a<(b.length:Int)->
 Am (σ:=Aa) (fun f=>
 In a b/\
 (I64 (ix b a).k->I64 (ix b a).i->
 G (ix b a) fun e=>
 I64 ((f.length:Int)+e.length)/\
 I64 (a+1)/\
 g ((f++e),(a+1)))) fun d=>
 (0<a->
 I64 ((c.length:Int)+([44,32]:Aa).length)/\
 d (c++[44,32]))/\
 (¬(0<a)->
 d c))/\
 (¬(a<(b.length:Int))->
 Q c))
def DZ:Nat->RV->(Aa->Prop)->Prop
 |0,_,_=>False
 |m0+1,a,Q=>
 (a.k=1->
 (a.i=1->
 Q [116,114,117,101])/\
 (¬(a.i=1)->
 Q [102,97,108,115,101]))/\
 (¬(a.k=1)->
 (a.k=2->
 IU a.i fun m=>
 Q m)/\
 (¬(a.k=2)->
 (a.k=3->
 I64 ((([34]:Aa).length:Int)+a.t.length)/\
 I64 ((([34]++a.t).length:Int)+([34]:Aa).length)/\
 Q (([34]++a.t)++[34]))/\
 (¬(a.k=3)->
 (a.k=4->
 Q a.t)/\
 (¬(a.k=4)->
 (a.k=5->
 Ks (DZ m0) a.ks fun f=>
 I64 ((([123]:Aa).length:Int)+f.length)/\
 I64 ((([123]++f).length:Int)+([125]:Aa).length)/\
 Q (([123]++f)++[125]))/\
 (¬(a.k=5)->
 (a.k=6->
 Ic a fun l=>
 (l=true->
 Ks (DZ m0) a.vs fun g=>
 I64 ((([60,60]:Aa).length:Int)+g.length)/\
 I64 ((([60,60]++g).length:Int)+([62,62]:Aa).length)/\
 Q (([60,60]++g)++[62,62]))/\
 (l=false->
 Ay (σ:=Aa×Int) (([]:Aa),0) fun(c,b)n=>
 (Len a.ks->
 (b<(a.ks.length:Int)->
 Am (σ:=Aa) (fun e=>
 In b a.ks/\
 (I64 (ix a.ks b).k->I64 (ix a.ks b).i->
 DZ m0 (ix a.ks b) fun d=>
 In b a.vs/\
 (I64 (ix a.vs b).k->I64 (ix a.vs b).i->
 DZ m0 (ix a.vs b) fun j=>
 I64 ((e.length:Int)+d.length)/\
 I64 (((e++d).length:Int)+([58,32]:Aa).length)/\
 I64 ((((e++d)++[58,32]).length:Int)+j.length)/\
 I64 (b+1)/\
 n ((((e++d)++[58,32])++j),(b+1))))) fun h=>
 (0<b->
 I64 ((c.length:Int)+([44,32]:Aa).length)/\
 h (c++[44,32]))/\
 (¬(0<b)->
 h c))/\
 (¬(b<(a.ks.length:Int))->
 I64 ((([91]:Aa).length:Int)+c.length)/\
 I64 ((([91]++c).length:Int)+([93]:Aa).length)/\
 Q (([91]++c)++[93])))))/\
 (¬(a.k=6)->
 Q [110,105,108]))))))
def ET(b:Aa)(Q:Bool->Prop):Prop:=
 Ay (σ:=Int) 0 fun a c=>
 (Len ([([109,111,100,117,108,101]:Aa),([99,111,110,115,116,97,110,116]:Aa),([97,116,111,109,115]:Aa),([115,121,109,109,101,116,114,105,99]:Aa),([118,97,114,105,97,98,108,101]:Aa),([100,101,102,105,110,101]:Aa),([105,110,105,116]:Aa),([97,99,116,105,111,110]:Aa),([102,97,105,114]:Aa),([119,101,97,107]:Aa),([115,116,114,111,110,103]:Aa),([105,110,118,97,114,105,97,110,116]:Aa),([112,114,111,112,101,114,116,121]:Aa),([97,110,100]:Aa),([111,114]:Aa),([110,111,116]:Aa),([105,109,112,108,105,101,115]:Aa),([105,102,102]:Aa),([105,110]:Aa),([117,110,105,111,110]:Aa),([105,110,116,101,114]:Aa),([109,105,110,117,115]:Aa),([115,117,98,115,101,116]:Aa),([112,111,119,101,114,115,101,116]:Aa),([102,108,97,116,116,101,110]:Aa),([100,111,109,97,105,110]:Aa),([117,110,99,104,97,110,103,101,100]:Aa),([101,110,97,98,108,101,100]:Aa),([97,108,119,97,121,115]:Aa),([101,118,101,110,116,117,97,108,108,121]:Aa),([117,110,116,105,108]:Aa),([108,101,97,100,115,116,111]:Aa),([99,104,111,111,115,101]:Aa),([97,108,108]:Aa),([115,111,109,101]:Aa),([101,97,99,104]:Aa),([116,104,111,115,101]:Aa),([102,117,110]:Aa),([105,102]:Aa),([116,104,101,110]:Aa),([101,108,115,101]:Aa),([108,101,116]:Aa),([110,105,108]:Aa),([116,114,117,101]:Aa),([102,97,108,115,101]:Aa),([115,105,122,101]:Aa),([108,101,110]:Aa),([104,101,97,100]:Aa),([116,97,105,108]:Aa),([97,112,112,101,110,100]:Aa),([118,97,108,117,101,115]:Aa),([115,101,113,115]:Aa)])->
 (a<(([([109,111,100,117,108,101]:Aa),([99,111,110,115,116,97,110,116]:Aa),([97,116,111,109,115]:Aa),([115,121,109,109,101,116,114,105,99]:Aa),([118,97,114,105,97,98,108,101]:Aa),([100,101,102,105,110,101]:Aa),([105,110,105,116]:Aa),([97,99,116,105,111,110]:Aa),([102,97,105,114]:Aa),([119,101,97,107]:Aa),([115,116,114,111,110,103]:Aa),([105,110,118,97,114,105,97,110,116]:Aa),([112,114,111,112,101,114,116,121]:Aa),([97,110,100]:Aa),([111,114]:Aa),([110,111,116]:Aa),([105,109,112,108,105,101,115]:Aa),([105,102,102]:Aa),([105,110]:Aa),([117,110,105,111,110]:Aa),([105,110,116,101,114]:Aa),([109,105,110,117,115]:Aa),([115,117,98,115,101,116]:Aa),([112,111,119,101,114,115,101,116]:Aa),([102,108,97,116,116,101,110]:Aa),([100,111,109,97,105,110]:Aa),([117,110,99,104,97,110,103,101,100]:Aa),([101,110,97,98,108,101,100]:Aa),([97,108,119,97,121,115]:Aa),([101,118,101,110,116,117,97,108,108,121]:Aa),([117,110,116,105,108]:Aa),([108,101,97,100,115,116,111]:Aa),([99,104,111,111,115,101]:Aa),([97,108,108]:Aa),([115,111,109,101]:Aa),([101,97,99,104]:Aa),([116,104,111,115,101]:Aa),([102,117,110]:Aa),([105,102]:Aa),([116,104,101,110]:Aa),([101,108,115,101]:Aa),([108,101,116]:Aa),([110,105,108]:Aa),([116,114,117,101]:Aa),([102,97,108,115,101]:Aa),([115,105,122,101]:Aa),([108,101,110]:Aa),([104,101,97,100]:Aa),([116,97,105,108]:Aa),([97,112,112,101,110,100]:Aa),([118,97,108,117,101,115]:Aa),([115,101,113,115]:Aa)]).length:Int)->
 In a ([([109,111,100,117,108,101]:Aa),([99,111,110,115,116,97,110,116]:Aa),([97,116,111,109,115]:Aa),([115,121,109,109,101,116,114,105,99]:Aa),([118,97,114,105,97,98,108,101]:Aa),([100,101,102,105,110,101]:Aa),([105,110,105,116]:Aa),([97,99,116,105,111,110]:Aa),([102,97,105,114]:Aa),([119,101,97,107]:Aa),([115,116,114,111,110,103]:Aa),([105,110,118,97,114,105,97,110,116]:Aa),([112,114,111,112,101,114,116,121]:Aa),([97,110,100]:Aa),([111,114]:Aa),([110,111,116]:Aa),([105,109,112,108,105,101,115]:Aa),([105,102,102]:Aa),([105,110]:Aa),([117,110,105,111,110]:Aa),([105,110,116,101,114]:Aa),([109,105,110,117,115]:Aa),([115,117,98,115,101,116]:Aa),([112,111,119,101,114,115,101,116]:Aa),([102,108,97,116,116,101,110]:Aa),([100,111,109,97,105,110]:Aa),([117,110,99,104,97,110,103,101,100]:Aa),([101,110,97,98,108,101,100]:Aa),([97,108,119,97,121,115]:Aa),([101,118,101,110,116,117,97,108,108,121]:Aa),([117,110,116,105,108]:Aa),([108,101,97,100,115,116,111]:Aa),([99,104,111,111,115,101]:Aa),([97,108,108]:Aa),([115,111,109,101]:Aa),([101,97,99,104]:Aa),([116,104,111,115,101]:Aa),([102,117,110]:Aa),([105,102]:Aa),([116,104,101,110]:Aa),([101,108,115,101]:Aa),([108,101,116]:Aa),([110,105,108]:Aa),([116,114,117,101]:Aa),([102,97,108,115,101]:Aa),([115,105,122,101]:Aa),([108,101,110]:Aa),([104,101,97,100]:Aa),([116,97,105,108]:Aa),([97,112,112,101,110,100]:Aa),([118,97,108,117,101,115]:Aa),([115,101,113,115]:Aa)])/\
 ((ix ([([109,111,100,117,108,101]:Aa),([99,111,110,115,116,97,110,116]:Aa),([97,116,111,109,115]:Aa),([115,121,109,109,101,116,114,105,99]:Aa),([118,97,114,105,97,98,108,101]:Aa),([100,101,102,105,110,101]:Aa),([105,110,105,116]:Aa),([97,99,116,105,111,110]:Aa),([102,97,105,114]:Aa),([119,101,97,107]:Aa),([115,116,114,111,110,103]:Aa),([105,110,118,97,114,105,97,110,116]:Aa),([112,114,111,112,101,114,116,121]:Aa),([97,110,100]:Aa),([111,114]:Aa),([110,111,116]:Aa),([105,109,112,108,105,101,115]:Aa),([105,102,102]:Aa),([105,110]:Aa),([117,110,105,111,110]:Aa),([105,110,116,101,114]:Aa),([109,105,110,117,115]:Aa),([115,117,98,115,101,116]:Aa),([112,111,119,101,114,115,101,116]:Aa),([102,108,97,116,116,101,110]:Aa),([100,111,109,97,105,110]:Aa),([117,110,99,104,97,110,103,101,100]:Aa),([101,110,97,98,108,101,100]:Aa),([97,108,119,97,121,115]:Aa),([101,118,101,110,116,117,97,108,108,121]:Aa),([117,110,116,105,108]:Aa),([108,101,97,100,115,116,111]:Aa),([99,104,111,111,115,101]:Aa),([97,108,108]:Aa),([115,111,109,101]:Aa),([101,97,99,104]:Aa),([116,104,111,115,101]:Aa),([102,117,110]:Aa),([105,102]:Aa),([116,104,101,110]:Aa),([101,108,115,101]:Aa),([108,101,116]:Aa),([110,105,108]:Aa),([116,114,117,101]:Aa),([102,97,108,115,101]:Aa),([115,105,122,101]:Aa),([108,101,110]:Aa),([104,101,97,100]:Aa),([116,97,105,108]:Aa),([97,112,112,101,110,100]:Aa),([118,97,108,117,101,115]:Aa),([115,101,113,115]:Aa)]) a)=b->
 Q true)/\
 (¬((ix ([([109,111,100,117,108,101]:Aa),([99,111,110,115,116,97,110,116]:Aa),([97,116,111,109,115]:Aa),([115,121,109,109,101,116,114,105,99]:Aa),([118,97,114,105,97,98,108,101]:Aa),([100,101,102,105,110,101]:Aa),([105,110,105,116]:Aa),([97,99,116,105,111,110]:Aa),([102,97,105,114]:Aa),([119,101,97,107]:Aa),([115,116,114,111,110,103]:Aa),([105,110,118,97,114,105,97,110,116]:Aa),([112,114,111,112,101,114,116,121]:Aa),([97,110,100]:Aa),([111,114]:Aa),([110,111,116]:Aa),([105,109,112,108,105,101,115]:Aa),([105,102,102]:Aa),([105,110]:Aa),([117,110,105,111,110]:Aa),([105,110,116,101,114]:Aa),([109,105,110,117,115]:Aa),([115,117,98,115,101,116]:Aa),([112,111,119,101,114,115,101,116]:Aa),([102,108,97,116,116,101,110]:Aa),([100,111,109,97,105,110]:Aa),([117,110,99,104,97,110,103,101,100]:Aa),([101,110,97,98,108,101,100]:Aa),([97,108,119,97,121,115]:Aa),([101,118,101,110,116,117,97,108,108,121]:Aa),([117,110,116,105,108]:Aa),([108,101,97,100,115,116,111]:Aa),([99,104,111,111,115,101]:Aa),([97,108,108]:Aa),([115,111,109,101]:Aa),([101,97,99,104]:Aa),([116,104,111,115,101]:Aa),([102,117,110]:Aa),([105,102]:Aa),([116,104,101,110]:Aa),([101,108,115,101]:Aa),([108,101,116]:Aa),([110,105,108]:Aa),([116,114,117,101]:Aa),([102,97,108,115,101]:Aa),([115,105,122,101]:Aa),([108,101,110]:Aa),([104,101,97,100]:Aa),([116,97,105,108]:Aa),([97,112,112,101,110,100]:Aa),([118,97,108,117,101,115]:Aa),([115,101,113,115]:Aa)]) a)=b)->
 I64 (a+1)/\
 c (a+1)))/\
 (¬(a<(([([109,111,100,117,108,101]:Aa),([99,111,110,115,116,97,110,116]:Aa),([97,116,111,109,115]:Aa),([115,121,109,109,101,116,114,105,99]:Aa),([118,97,114,105,97,98,108,101]:Aa),([100,101,102,105,110,101]:Aa),([105,110,105,116]:Aa),([97,99,116,105,111,110]:Aa),([102,97,105,114]:Aa),([119,101,97,107]:Aa),([115,116,114,111,110,103]:Aa),([105,110,118,97,114,105,97,110,116]:Aa),([112,114,111,112,101,114,116,121]:Aa),([97,110,100]:Aa),([111,114]:Aa),([110,111,116]:Aa),([105,109,112,108,105,101,115]:Aa),([105,102,102]:Aa),([105,110]:Aa),([117,110,105,111,110]:Aa),([105,110,116,101,114]:Aa),([109,105,110,117,115]:Aa),([115,117,98,115,101,116]:Aa),([112,111,119,101,114,115,101,116]:Aa),([102,108,97,116,116,101,110]:Aa),([100,111,109,97,105,110]:Aa),([117,110,99,104,97,110,103,101,100]:Aa),([101,110,97,98,108,101,100]:Aa),([97,108,119,97,121,115]:Aa),([101,118,101,110,116,117,97,108,108,121]:Aa),([117,110,116,105,108]:Aa),([108,101,97,100,115,116,111]:Aa),([99,104,111,111,115,101]:Aa),([97,108,108]:Aa),([115,111,109,101]:Aa),([101,97,99,104]:Aa),([116,104,111,115,101]:Aa),([102,117,110]:Aa),([105,102]:Aa),([116,104,101,110]:Aa),([101,108,115,101]:Aa),([108,101,116]:Aa),([110,105,108]:Aa),([116,114,117,101]:Aa),([102,97,108,115,101]:Aa),([115,105,122,101]:Aa),([108,101,110]:Aa),([104,101,97,100]:Aa),([116,97,105,108]:Aa),([97,112,112,101,110,100]:Aa),([118,97,108,117,101,115]:Aa),([115,101,113,115]:Aa)]).length:Int))->
 Q false))
def IW(a:Int)(Q:Bool->Prop):Prop:=
 Q (decide (((97<=a)/\(a<=122))\/((65<=a)/\(a<=90))))
def Gy(a:Int)(Q:Bool->Prop):Prop:=
 Q (decide ((48<=a)/\(a<=57)))
def NF(a:Int)(Q:Bool->Prop):Prop:=
 IW a fun b=>
 Gy a fun c=>
 Q (decide (((b=true)\/(c=true))\/(a=95)))
def Re(b:Aa)(e:Int)(Q:Int->Prop):Prop:=
 Am (σ:=Int) (fun f=>
 Q f) fun c=>
 Ay (σ:=Int) e fun a g=>
 Len b/\
 (a<(b.length:Int)->
 In a b/\
 NF (AS b a) fun d=>
 ((!d)=true->
 c a)/\
 ((!d)=false->
 I64 (a+1)/\
 g (a+1)))/\
 (¬(a<(b.length:Int))->
 c a)
def Lh(b:Aa)(d:Int)(Q:Int->Prop):Prop:=
 I64 (d+1)/\
 Ay (σ:=Int) (d+1) fun a f=>
 Len b/\
 (a<(b.length:Int)->
 In a b/\
 ((AS b a)=34->
 I64 (a+1)/\
 Q (a+1))/\
 (¬((AS b a)=34)->
 Am (σ:=Bool) (fun e=>
 (e=true->
 Q (-1))/\
 (e=false->
 I64 (a+1)/\
 f (a+1))) fun c=>
 In a b/\
 ((AS b a)<32->
 c true)/\
 (¬((AS b a)<32)->
 In a b/\
 (126<(AS b a)->
 c true)/\
 (¬(126<(AS b a))->
 In a b/\
 c (decide ((AS b a)=92))))))/\
 (¬(a<(b.length:Int))->
 Q (-1))
def ML(b:Aa)(Q:Int->Bool->Prop):Prop:=
 Ay (σ:=Int×Int) (0,0) fun(c,a)d=>
 Len b/\
 (a<(b.length:Int)->
 In a b/\
 ((0:Int)<10)/\
 (((IntKind.u64.wrap (9223372036854775808-(IntKind.u64.wrap (IntKind.u8.wrap ((AS b a)-48))))).tdiv 10)<c->
 Q 0 false)/\
 (¬(((IntKind.u64.wrap (9223372036854775808-(IntKind.u64.wrap (IntKind.u8.wrap ((AS b a)-48))))).tdiv 10)<c)->
 I64 (a+1)/\
 d ((IntKind.u64.wrap ((IntKind.u64.wrap (c* 10))+(IntKind.u64.wrap (IntKind.u8.wrap ((AS b a)-48))))),(a+1))))/\
 (¬(a<(b.length:Int))->
 Q c true)
def BP(g:Aa)(h:Int)(e:Int)(a:Int)(b:Int)(f:Bool)(c:Int)(d:Int)(Q:Int->Int->Prop):Prop:=
 (a=0->
 Q c d)/\
 (¬(a=0)->
 Q a b)
def Kh(b:Aa)(e:Int)(h:Int)(i:Int)(g:Int)(j:Bool)(Q:Int->Prop):Prop:=
 Ay (σ:=Int) e fun a f=>
 Am (σ:=Bool) (fun d=>
 (d=true->
 I64 (a+1)/\
 f (a+1))/\
 (d=false->
 Q a)) fun c=>
 Len b/\
 (a<(b.length:Int)->
 In a b/\
 ((AS b a)=32->
 c true)/\
 (¬((AS b a)=32)->
 In a b/\
 ((AS b a)=9->
 c true)/\
 (¬((AS b a)=9)->
 In a b/\
 c (decide ((AS b a)=10)))))/\
 (¬(a<(b.length:Int))->
 c false)
def Et(c:Aa)(j:Int)(h:Int)(e:Int)(g:Int)(i:Bool)(b:Aa)(Q:Bool->Int->Prop):Prop:=
 Kh c j h e g i fun a=>
 Am (σ:=Bool) (fun f=>
 (f=true->
 Q false a)/\
 (f=false->
 Len b/\
 I64 (a+(b.length:Int))/\
 Q true (a+(b.length:Int)))) fun d=>
 (e≠0->
 d true)/\
 (¬(e≠0)->
 Len c/\
 I64 ((c.length:Int)-a)/\
 Len b/\
 (((c.length:Int)-a)<(b.length:Int)->
 d true)/\
 (¬(((c.length:Int)-a)<(b.length:Int))->
 Len b/\
 I64 (a+(b.length:Int))/\
 (0<=a/\a<=(a+(b.length:Int))/\(a+(b.length:Int))<=(c.length:Int))/\
 d (decide (((c.take (a+(b.length:Int)).toNat).drop a.toNat)≠b))))
def Hr(g:Aa)(k:Int)(d:Int)(c:Int)(b:Int)(e:Bool)(j:Aa)(Q:Int->Int->Int->Prop):Prop:=
 Et g k d c b e j fun f a=>
 ((!f)=true->
 BP g a d c b e 1 a fun h i=>
 Q a h i)/\
 ((!f)=false->
 Q a c b)
def It(h:Aa)(i:Int)(f:Int)(g:Int)(e:Int)(d:Bool)(a:RV)(Q:RV->Bool->Prop):Prop:=
 Am (σ:=Bool) (fun c=>
 Q a c) fun b=>
 (a.k=0->
 b true)/\
 (¬(a.k=0)->
 b d)
def IX(o:Aa)(e:Int)(k:Int)(h:Int)(g:Int)(l:Bool)(a:Aa)(c:Bool)(m:Int)(x:Int)(Q:RV->Int->Int->Int->Prop):Prop:=
 Am (σ:=Bool) (fun q=>
 Ay (σ:=Bool×Int) (q,0) fun(i,b)A=>
 Len a/\
 (b<(a.length:Int)->
 In b a/\
 Gy (AS a b) fun r=>
 I64 (b+1)/\
 A (decide ((i=true)/\(r=true)),(b+1)))/\
 (¬(b<(a.length:Int))->
 ((!i)=true->
 BP o e k h g l 1 m fun s t=>
 Q (RV.mk 0 0 [] [] []) e s t)/\
 ((!i)=false->
 ML a fun d n=>
 (((!n)=true)\/((d=9223372036854775808)/\((!c)=true))->
 BP o e k h g l 5 m fun u v=>
 Q (RV.mk 0 0 [] [] []) e u v)/\
 (¬(((!n)=true)\/((d=9223372036854775808)/\((!c)=true)))->
 Am (σ:=Int) (fun p=>
 BU (IntKind.i64.wrap p) fun w=>
 Q w x h g) fun j=>
 (c=true->
 j (IntKind.u64.wrap (-d)))/\
 (c=false->
 j d))))) fun f=>
 In 0 a/\
 ((AS a 0)≠48->
 f true)/\
 (¬((AS a 0)≠48)->
 Len a/\
 ((a.length:Int)=1->
 f (!c))/\
 (¬((a.length:Int)=1)->
 f false))
def Ll(a:Aa)(b:Int)(g:Int)(f:Int)(e:Int)(h:Bool)(Q:RV->Int->Int->Int->Prop):Prop:=
 Len a/\
 (b=(a.length:Int)->
 BP a b g f e h 1 b fun D E=>
 Q (RV.mk 0 0 [] [] []) b D E)/\
 (¬(b=(a.length:Int))->
 In b a/\
 ((AS a b)=34->
 Lh a b fun i=>
 (i<0->
 BP a b g f e h 1 b fun F G=>
 Q (RV.mk 0 0 [] [] []) b F G)/\
 (¬(i<0)->
 I64 (b+1)/\
 I64 (i-1)/\
 (0<=(b+1)/\(b+1)<=(i-1)/\(i-1)<=(a.length:Int))/\
 Q (RV.mk 3 0 ((a.take (i-1).toNat).drop (b+1).toNat) ([]:List RV) ([]:List RV)) i f e))/\
 (¬((AS a b)=34)->
 Am (σ:=Int) (fun d=>
 Re a d fun c=>
 (0<=d/\d<=c/\c<=(a.length:Int))/\
 (((a.take c.toNat).drop d.toNat)=([]:Aa)->
 BP a b g f e h 1 b fun H I=>
 Q (RV.mk 0 0 [] [] []) b H I)/\
 (¬(((a.take c.toNat).drop d.toNat)=([]:Aa))->
 In 0 ((a.take c.toNat).drop d.toNat)/\
 Gy (AS ((a.take c.toNat).drop d.toNat) 0) fun p=>
 (p=true->
 IX a b g f e h ((a.take c.toNat).drop d.toNat) (decide (b<d)) b c fun J K L N=>
 Q J K L N)/\
 (p=false->
 In 0 ((a.take c.toNat).drop d.toNat)/\
 IW (AS ((a.take c.toNat).drop d.toNat) 0) fun q=>
 ((b<d)\/((!q)=true)->
 BP a b g f e h 1 b fun t u=>
 Q (RV.mk 0 0 [] [] []) b t u)/\
 (¬((b<d)\/((!q)=true))->
 (((a.take c.toNat).drop d.toNat)=[110,105,108]->
 Q (RV.mk 0 0 [] [] []) c f e)/\
 (¬(((a.take c.toNat).drop d.toNat)=[110,105,108])->
 (((a.take c.toNat).drop d.toNat)=[116,114,117,101]->
 AQ true fun v=>
 Q v c f e)/\
 (¬(((a.take c.toNat).drop d.toNat)=[116,114,117,101])->
 (((a.take c.toNat).drop d.toNat)=[102,97,108,115,101]->
 AQ false fun w=>
 Q w c f e)/\
 (¬(((a.take c.toNat).drop d.toNat)=[102,97,108,115,101])->
 ET ((a.take c.toNat).drop d.toNat) fun o=>
 Am (σ:=Int×Int) (fun(m,n)=>
 Am (σ:=Int×Int) (fun(r,s)=>
 Q (RV.mk 4 0 ((a.take c.toNat).drop d.toNat) ([]:List RV) ([]:List RV)) c r s) fun k=>
 Len ((a.take c.toNat).drop d.toNat)/\
 (16<(((a.take c.toNat).drop d.toNat).length:Int)->
 BP a c g m n h 5 b fun B C=>
 k (B,C))/\
 (¬(16<(((a.take c.toNat).drop d.toNat).length:Int))->
 k (m,n))) fun j=>
 (o=true->
 BP a c g f e h 1 b fun x A=>
 j (x,A))/\
 (o=false->
 j (f,e))))))))) fun l=>
 In b a/\
 ((AS a b)=45->
 I64 (b+1)/\
 l (b+1))/\
 (¬((AS a b)=45)->
 l b)))
def Fv(G:Aa->Int->Int->Int->Int->Bool->(RV->Int->Int->Int->Int->Bool->Prop)->Prop)(a:Aa)(d:Int)(b:Int)(C:Int)(u:Int)(m:Bool)(c:Aa)(D:Int)(E:Bool)(Q:(List RV)->(List RV)->Int->Int->Int->Int->Bool->Prop):Prop:=
 I64 (b+1)/\
 Am (σ:=Int×Int) (fun(v,w)=>
 Am (σ:=Int×Bool) (fun(T,b1)=>
 Ay (σ:=Int×Int×Int×Int×Bool×(List RV)×(List RV)×Bool) (T,(b+1),v,w,m,([]:List RV),([]:List RV),b1) fun(x,j,e,A,B,h,i,P)S=>
 Am (σ:=Bool) (fun O=>
 (O=true->
 G a x j e A B fun n F o H I p=>
 AY (h.length+([n]).length) 80/\
 Am (σ:=Int×Int×Int×Int×Bool×(List RV)) (fun(U,f,k,l,g,N)=>
 Et a U f k l g [44] fun K L=>
 ((!K)=true->
 Hr a L f k l g c fun a8 a9 b0=>
 S (a8,f,a9,b0,g,(h++([n])),N,true))/\
 ((!K)=false->
 S (L,f,k,l,g,(h++([n])),N,P))) fun t=>
 (E=true->
 Hr a F o H I p [58] fun a0 a1 a2=>
 G a a0 o a1 a2 p fun J a3 a4 a5 a6 a7=>
 AY (i.length+([J]).length) 80/\
 t (a3,a4,a5,a6,a7,(i++([J]))))/\
 (E=false->
 t (F,o,H,I,p,i)))/\
 (O=false->
 I64 (j-1)/\
 Q h i x (j-1) e A B)) fun r=>
 (e=0->
 r (!P))/\
 (¬(e=0)->
 r false)) fun s=>
 (D=0->
 Et a d (b+1) v w m c fun Y Z=>
 s (Z,Y))/\
 (¬(D=0)->
 s (d,false))) fun q=>
 (24<(b+1)->
 Len c/\
 I64 (d-(c.length:Int))/\
 BP a d (b+1) C u m 6 (d-(c.length:Int)) fun V W=>
 q (V,W))/\
 (¬(24<(b+1))->
 q (C,u))
def EI:Nat->Aa->Int->Int->Int->Int->Bool->(RV->Int->Int->Int->Int->Bool->Prop)->Prop
 |0,_,_,_,_,_,_,_=>False
 |m0+1,b,Y,c,a,e,d,Q=>
 Kh b Y c a e d fun m=>
 (a≠0->
 Q (RV.mk 0 0 [] [] []) m c a e d)/\
 (¬(a≠0)->
 Et b m c a e d [123] fun n o=>
 (n=true->
 Fv (EI m0) b o c a e d [125] 0 false fun N Z p q r s O=>
 CR N fun P=>
 It b p q r s O P fun S T=>
 Q S p q r s T)/\
 (n=false->
 Et b o c a e d [60,60] fun t u=>
 (t=true->
 Fv (EI m0) b u c a e d [62,62] 0 false fun U a0 v w x A V=>
 Ea U fun W=>
 It b v w x A V W fun B C=>
 Q B v w x A C)/\
 (t=false->
 Et b u c a e d [91] fun j k=>
 (j=true->
 Fv (EI m0) b k c a e d [93] 1 true fun D E g h f i l=>
 (f≠0->
 Q (RV.mk 0 0 [] [] []) g h f i l)/\
 (¬(f≠0)->
 FU D E fun F=>
 It b g h f i l F fun G H=>
 Q G g h f i H))/\
 (j=false->
 Ll b k c a e d fun I J K L=>
 Q I J c K L d))))
def Ro(a:Aa)(Q:RV->Int->Int->Prop):Prop:=
 Len a/\
 (4000<(a.length:Int)->
 Q (RV.mk 0 0 [] [] []) 0 6)/\
 (¬(4000<(a.length:Int))->
 ∃mf,EI mf a 0 0 0 0 false fun s t g b h d=>
 Kh a t g b h d fun e=>
 Am (σ:=Int×Int) (fun(c,m)=>
 Am (σ:=Int×Int) (fun(f,p)=>
 (f≠0->
 Q (RV.mk 0 0 [] [] []) p f)/\
 (¬(f≠0)->
 Q s 0 0)) fun l=>
 Am (σ:=Bool) (fun o=>
 (o=true->
 BP a e g c m d 6 0 fun q r=>
 l (q,r))/\
 (o=false->
 l (c,m))) fun i=>
 (c=0->
 i d)/\
 (¬(c=0)->
 i false)) fun j=>
 Am (σ:=Bool) (fun n=>
 (n=true->
 BP a e g b h d 1 e fun u v=>
 j (u,v))/\
 (n=false->
 j (b,h))) fun k=>
 (b=0->
 Len a/\
 k (decide (e<(a.length:Int))))/\
 (¬(b=0)->
 k false))
def UQ(text:Aa)(Q:Val->Int->Option Int->Prop):Prop:=Len text/\
 (4000<(text.length:Int)->Q .nil 0 (some 6))/\(¬4000<(text.length:Int)->∃m,Fq m text 0 0 false (fun e a=>I64 a/\Q .nil a (some e)) fun v at_ deep heavy=>
 MW text at_ deep heavy fun at'=>(at'<(text.length:Int)->Q .nil at' (some 1))/\(¬at'<(text.length:Int)->(heavy=true->Q .nil 0 (some 6))/\(heavy=false->Q v 0 none)))
def Qp(d:Aa)(Q:Val->RV->Prop):Prop:=
 UQ d fun l m n=>
 Ro d fun a o c=>
 Am (σ:=Int×Int×Aa×(List RV)×(List RV)) (fun(e,f,g,h,j)=>
 Q l (RV.mk e f g h j)) fun b=>
 (c≠0->
 b (0,0,([]:Aa),([]:List RV),([]:List RV)))/\
 (¬(c≠0)->
 b (a.k,a.i,a.t,a.ks,a.vs))
def Gc(a:RV)(Q:Bool->Prop):Prop:=
 Am (σ:=Bool) (fun c=>
 Q c) fun b=>
 (a.k=1->
 b (decide (a.i=1)))/\
 (¬(a.k=1)->
 b false)
def QA(a:List RV)(c:RV)(Q:Bool->Prop):Prop:=
 DC a c fun d b=>
 Q b
def Tl(a:Aa)(Q:Int->Prop):Prop:=
 Am (σ:=Bool) (fun e=>
 (e=true->
 Q 1)/\
 (e=false->
 Am (σ:=Bool) (fun f=>
 (f=true->
 Q 2)/\
 (f=false->
 (a=[112,117,116]->
 Q 3)/\
 (¬(a=[112,117,116])->
 Am (σ:=Bool) (fun g=>
 (g=true->
 Q (-1))/\
 (g=false->
 Q (-2))) fun d=>
 (a=[115,101,116]->
 d (decide (a=[115,101,116])))/\
 (¬(a=[115,101,116])->
 (a=[102,117,110]->
 d (decide (a=[102,117,110])))/\
 (¬(a=[102,117,110])->
 d (decide (a=[115,101,113]))))))) fun b=>
 (a=[97,110,100]->
 b (decide (a=[97,110,100])))/\
 (¬(a=[97,110,100])->
 (a=[111,114]->
 b (decide (a=[111,114])))/\
 (¬(a=[111,114])->
 (a=[105,109,112,108,105,101,115]->
 b (decide (a=[105,109,112,108,105,101,115])))/\
 (¬(a=[105,109,112,108,105,101,115])->
 (a=[105,102,102]->
 b (decide (a=[105,102,102])))/\
 (¬(a=[105,102,102])->
 (a=[61]->
 b (decide (a=[61])))/\
 (¬(a=[61])->
 (a=[47,61]->
 b (decide (a=[47,61])))/\
 (¬(a=[47,61])->
 (a=[60]->
 b (decide (a=[60])))/\
 (¬(a=[60])->
 (a=[60,61]->
 b (decide (a=[60,61])))/\
 (¬(a=[60,61])->
 (a=[62]->
 b (decide (a=[62])))/\
 (¬(a=[62])->
 (a=[62,61]->
 b (decide (a=[62,61])))/\
 (¬(a=[62,61])->
 (a=[43]->
 b (decide (a=[43])))/\
 (¬(a=[43])->
 (a=[45]->
 b (decide (a=[45])))/\
 (¬(a=[45])->
 (a=[42]->
 b (decide (a=[42])))/\
 (¬(a=[42])->
 (a=[47]->
 b (decide (a=[47])))/\
 (¬(a=[47])->
 (a=[37]->
 b (decide (a=[37])))/\
 (¬(a=[37])->
 (a=[46,46]->
 b (decide (a=[46,46])))/\
 (¬(a=[46,46])->
 (a=[105,110]->
 b (decide (a=[105,110])))/\
 (¬(a=[105,110])->
 (a=[115,117,98,115,101,116]->
 b (decide (a=[115,117,98,115,101,116])))/\
 (¬(a=[115,117,98,115,101,116])->
 (a=[117,110,105,111,110]->
 b (decide (a=[117,110,105,111,110])))/\
 (¬(a=[117,110,105,111,110])->
 (a=[105,110,116,101,114]->
 b (decide (a=[105,110,116,101,114])))/\
 (¬(a=[105,110,116,101,114])->
 (a=[109,105,110,117,115]->
 b (decide (a=[109,105,110,117,115])))/\
 (¬(a=[109,105,110,117,115])->
 (a=[45,62]->
 b (decide (a=[45,62])))/\
 (¬(a=[45,62])->
 (a=[115,101,113,115]->
 b (decide (a=[115,101,113,115])))/\
 (¬(a=[115,101,113,115])->
 (a=[97,116]->
 b (decide (a=[97,116])))/\
 (¬(a=[97,116])->
 (a=[97,112,112,101,110,100]->
 b (decide (a=[97,112,112,101,110,100])))/\
 (¬(a=[97,112,112,101,110,100])->
 b (decide (a=[43,43]))))))))))))))))))))))))))))) fun c=>
 (a=[110,111,116]->
 c (decide (a=[110,111,116])))/\
 (¬(a=[110,111,116])->
 (a=[110,101,103]->
 c (decide (a=[110,101,103])))/\
 (¬(a=[110,101,103])->
 (a=[115,105,122,101]->
 c (decide (a=[115,105,122,101])))/\
 (¬(a=[115,105,122,101])->
 (a=[102,108,97,116,116,101,110]->
 c (decide (a=[102,108,97,116,116,101,110])))/\
 (¬(a=[102,108,97,116,116,101,110])->
 (a=[112,111,119,101,114,115,101,116]->
 c (decide (a=[112,111,119,101,114,115,101,116])))/\
 (¬(a=[112,111,119,101,114,115,101,116])->
 (a=[100,111,109,97,105,110]->
 c (decide (a=[100,111,109,97,105,110])))/\
 (¬(a=[100,111,109,97,105,110])->
 (a=[118,97,108,117,101,115]->
 c (decide (a=[118,97,108,117,101,115])))/\
 (¬(a=[118,97,108,117,101,115])->
 (a=[108,101,110]->
 c (decide (a=[108,101,110])))/\
 (¬(a=[108,101,110])->
 (a=[104,101,97,100]->
 c (decide (a=[104,101,97,100])))/\
 (¬(a=[104,101,97,100])->
 c (decide (a=[116,97,105,108])))))))))))
def Nd(a:List RV)(Q:RV->Prop):Prop:=
 (Len a->
 ((2:Int)≠0)/\
 (((a.length:Int).tmod 2)=1->
 Q (RV.mk 0 0 [] [] []))/\
 (¬(((a.length:Int).tmod 2)=1)->
 Ay (σ:=(List RV)×(List RV)×Int) (([]:List RV),([]:List RV),0) fun(c,d,b)f=>
 (Len a->
 (b<(a.length:Int)->
 In b a/\
 (I64 (ix a b).k->I64 (ix a b).i->
 AY (c.length+([(ix a b)]).length) 80/\
 I64 (b+1)/\
 In (b+1) a/\
 (I64 (ix a (b+1)).k->I64 (ix a (b+1)).i->
 AY (d.length+([(ix a (b+1))]).length) 80/\
 I64 (b+2)/\
 f ((c++([(ix a b)])),(d++([(ix a (b+1))])),(b+2)))))/\
 (¬(b<(a.length:Int))->
 FU c d fun e=>
 Q e))))
def VT(a:RV)(d:RV)(Q:RV->Prop):Prop:=
 (a.k≠6->
 Q (RV.mk 0 0 [] [] []))/\
 (¬(a.k≠6)->
 DC a.ks d fun b c=>
 ((!c)=true->
 Q (RV.mk 0 0 [] [] []))/\
 ((!c)=false->
 In b a.vs/\
 (I64 (ix a.vs b).k->I64 (ix a.vs b).i->
 Q (ix a.vs b))))
def KA(a:RV)(h:RV)(g:RV)(Q:RV->Prop):Prop:=
 (a.k≠6->
 Q (RV.mk 0 0 [] [] []))/\
 (¬(a.k≠6)->
 DC a.ks h fun e f=>
 ((!f)=true->
 Q a)/\
 ((!f)=false->
 Ay (σ:=(List RV)×Int) (([]:List RV),0) fun(c,b)m=>
 (Len a.vs->
 (b<(a.vs.length:Int)->
 Am (σ:=(List RV)) (fun j=>
 I64 (b+1)/\
 m (j,(b+1))) fun d=>
 (b=e->
 AY (c.length+([g]).length) 80/\
 d (c++([g])))/\
 (¬(b=e)->
 In b a.vs/\
 (I64 (ix a.vs b).k->I64 (ix a.vs b).i->
 AY (c.length+([(ix a.vs b)]).length) 80/\
 d (c++([(ix a.vs b)])))))/\
 (¬(b<(a.vs.length:Int))->
 FU a.ks c fun l=>
 Q l))))
def MA(b:RV)(Q:RV->Prop):Prop:=
 Ay (σ:=(List RV)×Int) (([]:List RV),0) fun(c,a)e=>
 (Len b.ks->
 (a<(b.ks.length:Int)->
 In a b.ks/\
 (I64 ((ix b.ks a).k)->
 (((ix b.ks a).k)≠5->
 Q (RV.mk 0 0 [] [] []))/\
 (¬(((ix b.ks a).k)≠5)->
 In a b.ks/\
 AY (c.length+((ix b.ks a).ks).length) 80/\
 I64 (a+1)/\
 e ((c++((ix b.ks a).ks)),(a+1)))))/\
 (¬(a<(b.ks.length:Int))->
 CR c fun d=>
 Q d))
def KM(a:RV)(Q:RV->Prop):Prop:=
 (Len a.ks->
 (10<(a.ks.length:Int)->
 Q (RV.mk 0 0 [] [] []))/\
 (¬(10<(a.ks.length:Int))->
 Ay (σ:=(List RV)×Int) ([(RV.mk 5 0 ([]:Aa) ([]:List RV) ([]:List RV))],0) fun(e,b)g=>
 (Len a.ks->
 (b<(a.ks.length:Int)->
 (Len e->
 Ay (σ:=(List RV)×Int) (e,0) fun(d,c)h=>
 (c<(e.length:Int)->
 In c d/\
 AY (([]:List RV).length+((ix d c).ks).length) 80/\
 In b a.ks/\
 (I64 (ix a.ks b).k->I64 (ix a.ks b).i->
 AY (((ix d c).ks).length+([(ix a.ks b)]).length) 80/\
 AY (d.length+([(RV.mk 5 0 ([]:Aa) (((ix d c).ks)++([(ix a.ks b)])) ([]:List RV))]).length) 80/\
 I64 (c+1)/\
 h ((d++([(RV.mk 5 0 ([]:Aa) (((ix d c).ks)++([(ix a.ks b)])) ([]:List RV))])),(c+1))))/\
 (¬(c<(e.length:Int))->
 I64 (b+1)/\
 g (d,(b+1)))))/\
 (¬(b<(a.ks.length:Int))->
 CR e fun f=>
 Q f))))
def Ca(b:Aa)(a:RV)(Q:RV->Prop):Prop:=
 Ic a fun c=>
 (b=[110,111,116]->
 Gc a fun C=>
 AQ (!C) fun E=>
 Q E)/\
 (¬(b=[110,111,116])->
 Am (σ:=Bool) (fun s=>
 (s=true->
 BU (Hx a.i) fun F=>
 Q F)/\
 (s=false->
 Am (σ:=Bool) (fun t=>
 (t=true->
 (Len a.ks->
 BU (a.ks.length:Int) fun G=>
 Q G))/\
 (t=false->
 Am (σ:=Bool) (fun u=>
 (u=true->
 CR a.ks fun H=>
 Q H)/\
 (u=false->
 Am (σ:=Bool) (fun v=>
 (v=true->
 CR a.vs fun I=>
 Q I)/\
 (v=false->
 Am (σ:=Bool) (fun w=>
 (w=true->
 (Len a.ks->
 BU (a.ks.length:Int) fun x=>
 Q x))/\
 (w=false->
 Am (σ:=Bool) (fun o=>
 (o=true->
 In 0 a.vs/\
 (I64 (ix a.vs 0).k->I64 (ix a.vs 0).i->
 Q (ix a.vs 0)))/\
 (o=false->
 Am (σ:=Bool) (fun p=>
 (p=true->
 (0<=(1:Int)/\1<=(a.vs.length:Int))/\
 Ea (a.vs.drop (1:Int).toNat) fun A=>
 Q A)/\
 (p=false->
 Am (σ:=Bool) (fun q=>
 (q=true->
 MA a fun B=>
 Q B)/\
 (q=false->
 Am (σ:=Bool) (fun r=>
 (r=true->
 KM a fun D=>
 Q D)/\
 (r=false->
 Q (RV.mk 0 0 [] [] []))) fun h=>
 (b=[112,111,119,101,114,115,101,116]->
 h (decide (a.k=5)))/\
 (¬(b=[112,111,119,101,114,115,101,116])->
 h false))) fun g=>
 (b=[102,108,97,116,116,101,110]->
 g (decide (a.k=5)))/\
 (¬(b=[102,108,97,116,116,101,110])->
 g false))) fun e=>
 (b=[116,97,105,108]->
 (c=true->
 (Len a.vs->
 e (decide (0<(a.vs.length:Int)))))/\
 (c=false->
 e false))/\
 (¬(b=[116,97,105,108])->
 e false))) fun d=>
 (b=[104,101,97,100]->
 (c=true->
 (Len a.vs->
 d (decide (0<(a.vs.length:Int)))))/\
 (c=false->
 d false))/\
 (¬(b=[104,101,97,100])->
 d false))) fun f=>
 (b=[108,101,110]->
 f c)/\
 (¬(b=[108,101,110])->
 f false))) fun n=>
 (b=[118,97,108,117,101,115]->
 n (decide (a.k=6)))/\
 (¬(b=[118,97,108,117,101,115])->
 n false))) fun m=>
 (b=[100,111,109,97,105,110]->
 m (decide (a.k=6)))/\
 (¬(b=[100,111,109,97,105,110])->
 m false))) fun l=>
 (b=[115,105,122,101]->
 l (decide (a.k=5)))/\
 (¬(b=[115,105,122,101])->
 l false))) fun j=>
 (b=[110,101,103]->
 j (decide (a.k=2)))/\
 (¬(b=[110,101,103])->
 j false))
def Ci(a:Aa)(o:RV)(p:RV)(Q:RV->Prop):Prop:=
 Gc o fun b=>
 Gc p fun j=>
 ∃mf,BX mf o p fun q=>
 (a=[97,110,100]->
 Am (σ:=Int×Int×Aa×(List RV)×(List RV)) (fun(E,F,G,H,I)=>
 Q (RV.mk E F G H I)) fun n=>
 (b=true->
 AQ j fun g=>
 n (g.k,g.i,g.t,g.ks,g.vs))/\
 (b=false->
 AQ false fun h=>
 n (h.k,h.i,h.t,h.ks,h.vs)))/\
 (¬(a=[97,110,100])->
 (a=[111,114]->
 Am (σ:=Int×Int×Aa×(List RV)×(List RV)) (fun(r,s,u,v,w)=>
 Q (RV.mk r s u v w)) fun l=>
 (b=true->
 AQ true fun c=>
 l (c.k,c.i,c.t,c.ks,c.vs))/\
 (b=false->
 AQ j fun d=>
 l (d.k,d.i,d.t,d.ks,d.vs)))/\
 (¬(a=[111,114])->
 (a=[105,109,112,108,105,101,115]->
 Am (σ:=Int×Int×Aa×(List RV)×(List RV)) (fun(x,A,B,C,D)=>
 Q (RV.mk x A B C D)) fun m=>
 ((!b)=true->
 AQ true fun e=>
 m (e.k,e.i,e.t,e.ks,e.vs))/\
 ((!b)=false->
 AQ j fun f=>
 m (f.k,f.i,f.t,f.ks,f.vs)))/\
 (¬(a=[105,109,112,108,105,101,115])->
 (a=[105,102,102]->
 AQ (b==j) fun J=>
 Q J)/\
 (¬(a=[105,102,102])->
 (a=[61]->
 AQ (decide (q=0)) fun K=>
 Q K)/\
 (¬(a=[61])->
 AQ (!(decide (q=0))) fun L=>
 Q L)))))
def Qk(c:Int)(a:Int)(Q:RV->Prop):Prop:=
 (a<c->
 Q (RV.mk 5 0 ([]:Aa) ([]:List RV) ([]:List RV)))/\
 (¬(a<c)->
 (1100<(IntKind.u64.wrap ((IntKind.u64.wrap a)-(IntKind.u64.wrap c)))->
 Q (RV.mk 0 0 [] [] []))/\
 (¬(1100<(IntKind.u64.wrap ((IntKind.u64.wrap a)-(IntKind.u64.wrap c))))->
 Ay (σ:=(List RV)×Int) (([]:List RV),c) fun(d,b)g=>
 BU b fun e=>
 AY (d.length+([e]).length) 80/\
 (b=a->
 FQ (RV.mk 5 0 ([]:Aa) (d++([e])) ([]:List RV)) fun f=>
 Q f)/\
 (¬(b=a)->
 I64 (b+1)/\
 g ((d++([e])),(b+1)))))
def AU(a:Aa)(c:RV)(b:RV)(Q:RV->Prop):Prop:=
 Am (σ:=Bool) (fun d=>
 (a=[60]->
 Am (σ:=Int×Int×Aa×(List RV)×(List RV)) (fun(O,P,S,T,U)=>
 Q (RV.mk O P S T U)) fun u=>
 (d=true->
 AQ (decide (c.i<b.i)) fun m=>
 u (m.k,m.i,m.t,m.ks,m.vs))/\
 (d=false->
 AQ false fun n=>
 u (n.k,n.i,n.t,n.ks,n.vs)))/\
 (¬(a=[60])->
 (a=[60,61]->
 Am (σ:=Int×Int×Aa×(List RV)×(List RV)) (fun(w,x,A,B,C)=>
 Q (RV.mk w x A B C)) fun o=>
 (d=true->
 AQ (decide (c.i<=b.i)) fun e=>
 o (e.k,e.i,e.t,e.ks,e.vs))/\
 (d=false->
 AQ false fun f=>
 o (f.k,f.i,f.t,f.ks,f.vs)))/\
 (¬(a=[60,61])->
 (a=[62]->
 Am (σ:=Int×Int×Aa×(List RV)×(List RV)) (fun(D,E,F,G,H)=>
 Q (RV.mk D E F G H)) fun p=>
 (d=true->
 AQ (decide (b.i<c.i)) fun g=>
 p (g.k,g.i,g.t,g.ks,g.vs))/\
 (d=false->
 AQ false fun h=>
 p (h.k,h.i,h.t,h.ks,h.vs)))/\
 (¬(a=[62])->
 (a=[62,61]->
 Am (σ:=Int×Int×Aa×(List RV)×(List RV)) (fun(I,J,K,L,N)=>
 Q (RV.mk I J K L N)) fun q=>
 (d=true->
 AQ (decide (b.i<=c.i)) fun j=>
 q (j.k,j.i,j.t,j.ks,j.vs))/\
 (d=false->
 AQ false fun l=>
 q (l.k,l.i,l.t,l.ks,l.vs)))/\
 (¬(a=[62,61])->
 ((!d)=true->
 Q (RV.mk 0 0 [] [] []))/\
 ((!d)=false->
 (a=[43]->
 BU (IntKind.i64.wrap (c.i+b.i)) fun V=>
 Q V)/\
 (¬(a=[43])->
 (a=[45]->
 BU (IntKind.i64.wrap (c.i-b.i)) fun W=>
 Q W)/\
 (¬(a=[45])->
 (a=[42]->
 BU (IntKind.i64.wrap (c.i* b.i)) fun Y=>
 Q Y)/\
 (¬(a=[42])->
 (a=[46,46]->
 Qk c.i b.i fun Z=>
 Q Z)/\
 (¬(a=[46,46])->
 (b.i=0->
 Q (RV.mk 0 0 [] [] []))/\
 (¬(b.i=0)->
 Am (σ:=Int) (fun v=>
 (a=[47]->
 BU v fun a0=>
 Q a0)/\
 (¬(a=[47])->
 BU (IntKind.i64.wrap (c.i-(IntKind.i64.wrap (b.i* v)))) fun a1=>
 Q a1)) fun s=>
 (b.i≠(-1)->
 ((b.i:Int)≠0/\I64 (c.i.tdiv b.i))/\
 s (c.i.tdiv b.i))/\
 (¬(b.i≠(-1))->
 s (Hx c.i))))))))))))) fun r=>
 (c.k=2->
 r (decide (b.k=2)))/\
 (¬(c.k=2)->
 r false)
def Ly(h:List RV)(b:List RV)(Q:RV->Prop):Prop:=
 Ay (σ:=(List (List RV))×Int) ([([]:List RV)],0) fun(a,f)q=>
 (Len h->
 (f<(h.length:Int)->
 (Len a->
 (Len b->
 I64 ((a.length:Int)* (b.length:Int))/\
 (1024<((a.length:Int)* (b.length:Int))->
 Q (RV.mk 0 0 [] [] []))/\
 (¬(1024<((a.length:Int)* (b.length:Int)))->
 Ay (σ:=(List (List RV))×Int) (([]:List (List RV)),0) fun(m,d)r=>
 (Len a->
 (d<(a.length:Int)->
 Ay (σ:=(List (List RV))×Int) (m,0) fun(l,c)s=>
 (Len b->
 (c<(b.length:Int)->
 In d a/\
 AY (([]:List RV).length+(ix a d).length) 80/\
 In c b/\
 (I64 (ix b c).k->I64 (ix b c).i->
 AY ((ix a d).length+([(ix b c)]).length) 80/\
 AY (l.length+([((ix a d)++([(ix b c)]))]).length) 24/\
 I64 (c+1)/\
 s ((l++([((ix a d)++([(ix b c)]))])),(c+1))))/\
 (¬(c<(b.length:Int))->
 I64 (d+1)/\
 r (l,(d+1)))))/\
 (¬(d<(a.length:Int))->
 I64 (f+1)/\
 q (m,(f+1))))))))/\
 (¬(f<(h.length:Int))->
 Ay (σ:=(List RV)×Int) (([]:List RV),0) fun(j,e)t=>
 (Len a->
 (e<(a.length:Int)->
 In e a/\
 FU h (ix a e) fun g=>
 (g.k≠6->
 Q (RV.mk 0 0 [] [] []))/\
 (¬(g.k≠6)->
 DC j g fun n u=>
 KY j n g fun o=>
 I64 (e+1)/\
 t (o,(e+1))))/\
 (¬(e<(a.length:Int))->
 FQ (RV.mk 5 0 ([]:Aa) j ([]:List RV)) fun p=>
 Q p))))
def Eu(b:Aa)(a:RV)(d:RV)(Q:RV->Prop):Prop:=
 (b=[105,110]->
 QA d.ks a fun S=>
 Am (σ:=Int×Int×Aa×(List RV)×(List RV)) (fun(C,D,E,F,G)=>
 Q (RV.mk C D E F G)) fun r=>
 (d.k=5->
 AQ S fun m=>
 r (m.k,m.i,m.t,m.ks,m.vs))/\
 (¬(d.k=5)->
 AQ false fun n=>
 r (n.k,n.i,n.t,n.ks,n.vs)))/\
 (¬(b=[105,110])->
 Am (σ:=Bool) (fun h=>
 Ay (σ:=(List RV)×Bool×Int) (([]:List RV),false,0) fun(f,w,c)V=>
 Am (σ:=Bool) (fun A=>
 (A=true->
 Am (σ:=(List RV)×Bool) (fun(N,P)=>
 I64 (c+1)/\
 V (N,P,(c+1))) fun p=>
 In c a.ks/\
 (I64 (ix a.ks c).k->I64 (ix a.ks c).i->
 QA d.ks (ix a.ks c) fun g=>
 Am (σ:=Bool) (fun x=>
 Am (σ:=Bool) (fun B=>
 (B=true->
 In c a.ks/\
 (I64 (ix a.ks c).k->I64 (ix a.ks c).i->
 AY (f.length+([(ix a.ks c)]).length) 80/\
 p ((f++([(ix a.ks c)])),x)))/\
 (B=false->
 p (f,x))) fun e=>
 (b=[117,110,105,111,110]->
 e true)/\
 (¬(b=[117,110,105,111,110])->
 (b=[105,110,116,101,114]->
 (g=true->
 e true)/\
 (g=false->
 (b=[109,105,110,117,115]->
 e (!g))/\
 (¬(b=[109,105,110,117,115])->
 e false)))/\
 (¬(b=[105,110,116,101,114])->
 (b=[109,105,110,117,115]->
 e (!g))/\
 (¬(b=[109,105,110,117,115])->
 e false)))) fun q=>
 ((!g)=true->
 q true)/\
 ((!g)=false->
 q w)))/\
 (A=false->
 (b=[115,117,98,115,101,116]->
 Am (σ:=Int×Int×Aa×(List RV)×(List RV)) (fun(H,I,J,K,L)=>
 Q (RV.mk H I J K L)) fun s=>
 (h=true->
 AQ (!w) fun j=>
 s (j.k,j.i,j.t,j.ks,j.vs))/\
 (h=false->
 AQ false fun l=>
 s (l.k,l.i,l.t,l.ks,l.vs)))/\
 (¬(b=[115,117,98,115,101,116])->
 ((!h)=true->
 Q (RV.mk 0 0 [] [] []))/\
 ((!h)=false->
 (b=[45,62]->
 Ly a.ks d.ks fun T=>
 Q T)/\
 (¬(b=[45,62])->
 Am (σ:=(List RV)) (fun O=>
 CR O fun U=>
 Q U) fun u=>
 (b=[117,110,105,111,110]->
 AY (f.length+d.ks.length) 80/\
 u (f++d.ks))/\
 (¬(b=[117,110,105,111,110])->
 u f)))))) fun o=>
 (Len a.ks->
 (c<(a.ks.length:Int)->
 o h)/\
 (¬(c<(a.ks.length:Int))->
 o false))) fun v=>
 (a.k=5->
 v (decide (d.k=5)))/\
 (¬(a.k=5)->
 v false))
def Fk(a:RV)(e:RV)(Q:RV->Prop):Prop:=
 Am (σ:=Bool) (fun q=>
 (q=true->
 Q (RV.mk 0 0 [] [] []))/\
 (q=false->
 Ay (σ:=(List (List RV))×(List RV)×Int) ([([]:List RV)],[(RV.mk 6 0 ([]:Aa) ([]:List RV) ([]:List RV))],0) fun(b,h,f)v=>
 Am (σ:=Bool) (fun r=>
 (r=true->
 Am (σ:=Bool) (fun s=>
 (s=true->
 Q (RV.mk 0 0 [] [] []))/\
 (s=false->
 Ay (σ:=(List RV)×(List (List RV))×Int) (h,([]:List (List RV)),0) fun(t,p,d)w=>
 (Len b->
 (d<(b.length:Int)->
 Ay (σ:=(List RV)×(List (List RV))×Int) (t,p,0) fun(m,l,c)x=>
 (Len a.ks->
 (c<(a.ks.length:Int)->
 In d b/\
 AY (([]:List RV).length+(ix b d).length) 80/\
 In c a.ks/\
 (I64 (ix a.ks c).k->I64 (ix a.ks c).i->
 AY ((ix b d).length+([(ix a.ks c)]).length) 80/\
 AY (l.length+([((ix b d)++([(ix a.ks c)]))]).length) 24/\
 Ea ((ix b d)++([(ix a.ks c)])) fun g=>
 (g.k≠6->
 Q (RV.mk 0 0 [] [] []))/\
 (¬(g.k≠6)->
 AY (m.length+([g]).length) 80/\
 I64 (c+1)/\
 x ((m++([g])),(l++([((ix b d)++([(ix a.ks c)]))])),(c+1)))))/\
 (¬(c<(a.ks.length:Int))->
 I64 (d+1)/\
 w (m,l,(d+1)))))/\
 (¬(d<(b.length:Int))->
 I64 (f+1)/\
 v (p,t,(f+1)))))) fun o=>
 (Len b->
 (Len a.ks->
 I64 ((b.length:Int)* (a.ks.length:Int))/\
 (1024<((b.length:Int)* (a.ks.length:Int))->
 o true)/\
 (¬(1024<((b.length:Int)* (a.ks.length:Int)))->
 (Len h->
 o (decide (1024<(h.length:Int))))))))/\
 (r=false->
 CR h fun u=>
 Q u)) fun n=>
 (f<e.i->
 (Len b->
 n (decide (0<(b.length:Int)))))/\
 (¬(f<e.i)->
 n false))) fun j=>
 (a.k≠5->
 j true)/\
 (¬(a.k≠5)->
 (e.k≠2->
 j true)/\
 (¬(e.k≠2)->
 j (decide (e.i<0))))
def GQ(f:Aa)(a:RV)(b:RV)(Q:RV->Prop):Prop:=
 Ic a fun c=>
 Ic b fun g=>
 AY (([]:List RV).length+a.vs.length) 80/\
 Am (σ:=Bool) (fun h=>
 (h=true->
 AY (a.vs.length+([b]).length) 80/\
 Ea (a.vs++([b])) fun j=>
 Q j)/\
 (h=false->
 Am (σ:=Bool) (fun i=>
 (i=true->
 AY (a.vs.length+b.vs.length) 80/\
 Ea (a.vs++b.vs) fun k=>
 Q k)/\
 (i=false->
 Q (RV.mk 0 0 [] [] []))) fun d=>
 (c=true->
 (g=true->
 d (decide (f=[43,43])))/\
 (g=false->
 d false))/\
 (c=false->
 d false))) fun e=>
 (c=true->
 e (decide (f=[97,112,112,101,110,100])))/\
 (c=false->
 e false)
def Nu(a:Aa)(b:List RV)(Q:RV->Prop):Prop:=
 Tl a fun d=>
 (Len b->
 ((d=(-2))\/((0<=d)/\(d≠(b.length:Int)))->
 Q (RV.mk 0 0 [] [] []))/\
 (¬((d=(-2))\/((0<=d)/\(d≠(b.length:Int))))->
 (a=[115,101,116]->
 CR b fun p=>
 Q p)/\
 (¬(a=[115,101,116])->
 (a=[115,101,113]->
 Ea b fun s=>
 Q s)/\
 (¬(a=[115,101,113])->
 (a=[102,117,110]->
 Nd b fun v=>
 Q v)/\
 (¬(a=[102,117,110])->
 (a=[112,117,116]->
 In 0 b/\
 (I64 (ix b 0).k->I64 (ix b 0).i->
 In 1 b/\
 (I64 (ix b 1).k->I64 (ix b 1).i->
 In 2 b/\
 (I64 (ix b 2).k->I64 (ix b 2).i->
 KA (ix b 0) (ix b 1) (ix b 2) fun l=>
 Q l))))/\
 (¬(a=[112,117,116])->
 (d=1->
 In 0 b/\
 (I64 (ix b 0).k->I64 (ix b 0).i->
 Ca a (ix b 0) fun m=>
 Q m))/\
 (¬(d=1)->
 Am (σ:=Bool) (fun g=>
 (g=true->
 In 0 b/\
 (I64 (ix b 0).k->I64 (ix b 0).i->
 In 1 b/\
 (I64 (ix b 1).k->I64 (ix b 1).i->
 Ci a (ix b 0) (ix b 1) fun n=>
 Q n)))/\
 (g=false->
 Am (σ:=Bool) (fun h=>
 (h=true->
 In 0 b/\
 (I64 (ix b 0).k->I64 (ix b 0).i->
 In 1 b/\
 (I64 (ix b 1).k->I64 (ix b 1).i->
 AU a (ix b 0) (ix b 1) fun o=>
 Q o)))/\
 (h=false->
 Am (σ:=Bool) (fun j=>
 (j=true->
 In 0 b/\
 (I64 (ix b 0).k->I64 (ix b 0).i->
 In 1 b/\
 (I64 (ix b 1).k->I64 (ix b 1).i->
 Eu a (ix b 0) (ix b 1) fun q=>
 Q q)))/\
 (j=false->
 (a=[115,101,113,115]->
 In 0 b/\
 (I64 (ix b 0).k->I64 (ix b 0).i->
 In 1 b/\
 (I64 (ix b 1).k->I64 (ix b 1).i->
 Fk (ix b 0) (ix b 1) fun r=>
 Q r)))/\
 (¬(a=[115,101,113,115])->
 (a=[97,116]->
 In 0 b/\
 (I64 (ix b 0).k->I64 (ix b 0).i->
 In 1 b/\
 (I64 (ix b 1).k->I64 (ix b 1).i->
 VT (ix b 0) (ix b 1) fun t=>
 Q t)))/\
 (¬(a=[97,116])->
 In 0 b/\
 (I64 (ix b 0).k->I64 (ix b 0).i->
 In 1 b/\
 (I64 (ix b 1).k->I64 (ix b 1).i->
 GQ a (ix b 0) (ix b 1) fun u=>
 Q u)))))) fun f=>
 (a=[105,110]->
 f (decide (a=[105,110])))/\
 (¬(a=[105,110])->
 (a=[115,117,98,115,101,116]->
 f (decide (a=[115,117,98,115,101,116])))/\
 (¬(a=[115,117,98,115,101,116])->
 (a=[117,110,105,111,110]->
 f (decide (a=[117,110,105,111,110])))/\
 (¬(a=[117,110,105,111,110])->
 (a=[105,110,116,101,114]->
 f (decide (a=[105,110,116,101,114])))/\
 (¬(a=[105,110,116,101,114])->
 (a=[109,105,110,117,115]->
 f (decide (a=[109,105,110,117,115])))/\
 (¬(a=[109,105,110,117,115])->
 f (decide (a=[45,62]))))))))) fun c=>
 (a=[60]->
 c (decide (a=[60])))/\
 (¬(a=[60])->
 (a=[60,61]->
 c (decide (a=[60,61])))/\
 (¬(a=[60,61])->
 (a=[62]->
 c (decide (a=[62])))/\
 (¬(a=[62])->
 (a=[62,61]->
 c (decide (a=[62,61])))/\
 (¬(a=[62,61])->
 (a=[43]->
 c (decide (a=[43])))/\
 (¬(a=[43])->
 (a=[45]->
 c (decide (a=[45])))/\
 (¬(a=[45])->
 (a=[42]->
 c (decide (a=[42])))/\
 (¬(a=[42])->
 (a=[47]->
 c (decide (a=[47])))/\
 (¬(a=[47])->
 (a=[37]->
 c (decide (a=[37])))/\
 (¬(a=[37])->
 c (decide (a=[46,46]))))))))))))) fun e=>
 (a=[97,110,100]->
 e (decide (a=[97,110,100])))/\
 (¬(a=[97,110,100])->
 (a=[111,114]->
 e (decide (a=[111,114])))/\
 (¬(a=[111,114])->
 (a=[105,109,112,108,105,101,115]->
 e (decide (a=[105,109,112,108,105,101,115])))/\
 (¬(a=[105,109,112,108,105,101,115])->
 (a=[105,102,102]->
 e (decide (a=[105,102,102])))/\
 (¬(a=[105,102,102])->
 (a=[61]->
 e (decide (a=[61])))/\
 (¬(a=[61])->
 e (decide (a=[47,61]))))))))))))))
def Va(a:Int)(c:Int)(Q:Int->Prop):Prop:=
 Am (σ:=Int) (fun d=>
 ((c:Int)≠0)/\
 Q (d.tmod c)) fun b=>
 (a<0->
 I64 (a+1)/\
 I64 (-(a+1))/\
 b (-(a+1)))/\
 (¬(a<0)->
 b a)
def Rb(a:Val)(Q:Bool->Prop):Prop:=
 Q a.isTrue
def Qt(a:Val)(b:Val)(Q:Bool->Prop):Prop:=
 ∃mf,BF mf a b fun c=>
 Q (decide (c=0))
def Mj(a:Val)(Q:Int->Bool->Prop):Prop:=
 Q a.numD a.isNum
def FI(b:Int)(a:Int)(Q:Val->Prop):Prop:=
 (a=0->
 Q Val.nil)/\
 (¬(a=0)->
 (a=(-1)->
 BN (Hx b) fun c=>
 Q c)/\
 (¬(a=(-1))->
 ((a:Int)≠0/\I64 (b.tdiv a))/\
 BN (b.tdiv a) fun d=>
 Q d))
def Qe(a:Int)(b:Int)(Q:Val->Prop):Prop:=
 (b<a->
 Q (Val.set ([]:List Val) 1))/\
 (¬(b<a)->
 (1024<=(IntKind.u64.wrap ((IntKind.u64.wrap b)-(IntKind.u64.wrap a)))->
 Q Val.nil)/\
 (¬(1024<=(IntKind.u64.wrap ((IntKind.u64.wrap b)-(IntKind.u64.wrap a))))->
 I64 (b-a)/\
 I64 ((b-a)+1)/\
 Xf ((b-a)+1) 16/\
 I64 (b-a)/\
 I64 ((b-a)+1)/\
 Ay (σ:=(List Val)×Int) (([]:List Val),0) fun(d,c)g=>
 (c<((b-a)+1)->
 I64 (a+c)/\
 BN (a+c) fun e=>
 AY (d.length+([e]).length) 16/\
 I64 (c+1)/\
 g ((d++([e])),(c+1)))/\
 (¬(c<((b-a)+1))->
 FP d fun f=>
 Q f)))
def Cu(a:Val)(Q:(List Val)->Bool->Prop):Prop:=
 (a.isSet=true->
 a.isSet=true/\
 Q (a.setL) true)/\
 (a.isSet=false->
 Q ([]:List Val) false)
def Ji(a:Val)(Q:(List Val)->(List Val)->Bool->Prop):Prop:=
 (a.isFn=true->
 a.isFn=true/\
 a.isFn=true/\
 Q (a.fnK) (a.fnV) true)/\
 (a.isFn=false->
 Q ([]:List Val) ([]:List Val) false)
def Hm(a:Val)(Q:(List Val)->Bool->Prop):Prop:=
 Am (σ:=Bool) (fun c=>
 (c=true->
 a.isFn=true/\
 Q (a.fnV) true)/\
 (c=false->
 Q ([]:List Val) false)) fun b=>
 (a.isFn=true->
 a.isFn=true/\
 Fo (a.fnK) fun d=>
 b d)/\
 (a.isFn=false->
 b false)
def Ed(b:List Val)(Q:(List Val)->Prop):Prop:=
 (∀a:Bool,(a=true->b=[])->
 (a=true->
 Q ([]:List Val))/\
 (a=false->
 AY (([]:List Val).length+b.length) 16/\
 Q b))
def QT(a:Int)(Q:(List Val)->Prop):Prop:=
 (a<0->
 False)/\
 (¬(a<0)->
 Am (σ:=(List Val)) (fun c=>
 Q c) fun b=>
 I64 (0-(([]:List Val).length:Int))/\
 I64 (a-(0-(([]:List Val).length:Int)))/\
 (0<(a-(0-(([]:List Val).length:Int)))->
 (0<(a-(0-(([]:List Val).length:Int)))/\16* (a-(0-(([]:List Val).length:Int)))<=281474976710656/\(a-(0-(([]:List Val).length:Int)))<=4611686018427387904)/\
 (0<=(([]:List Val).length:Int)/\(([]:List Val).length:Int)<=((List.replicate (a-((0:Int)-(([]:List Val).length:Int))).toNat Val.nil).length:Int))/\
 b ((List.replicate (a-((0:Int)-(([]:List Val).length:Int))).toNat Val.nil).take (([]:List Val).length:Int).toNat))/\
 (¬(0<(a-(0-(([]:List Val).length:Int))))->
 b ([]:List Val)))
def GK(a:List (List Val))(Q:(List Val)->Prop):Prop:=
 (Len a->
 Ay (σ:=Int×Int) (0,0) fun(d,b)h=>
 (b<(a.length:Int)->
 In b a/\
 (Len (ix a b)->
 I64 (d+((ix a b).length:Int))/\
 ((d+((ix a b).length:Int))<0->
 False)/\
 (¬((d+((ix a b).length:Int))<0)->
 I64 (b+1)/\
 h ((d+((ix a b).length:Int)),(b+1)))))/\
 (¬(b<(a.length:Int))->
 QT d fun f=>
 (Len a->
 Ay (σ:=(List Val)×Int) (f,0) fun(e,c)g=>
 (c<(a.length:Int)->
 In c a/\
 AY (e.length+(ix a c).length) 16/\
 I64 (c+1)/\
 g ((e++(ix a c)),(c+1)))/\
 (¬(c<(a.length:Int))->
 Q e))))
def Ov(c:List Val)(g:Val)(Q:Int->Bool->Prop):Prop:=
 (Len c->
 Ay (σ:=Int×Int) (0,(c.length:Int)) fun(a,b)h=>
 (a<b->
 I64 (a+b)/\
 In (IntKind.i64.wrap ((IntKind.u64.wrap (a+b))/2)) c/\
 ∃mf,BF mf (ix c (IntKind.i64.wrap ((IntKind.u64.wrap (a+b))/2))) g fun f=>
 (f<0->
 I64 ((IntKind.i64.wrap ((IntKind.u64.wrap (a+b))/2))+1)/\
 h (((IntKind.i64.wrap ((IntKind.u64.wrap (a+b))/2))+1),b))/\
 (¬(f<0)->
 h (a,(IntKind.i64.wrap ((IntKind.u64.wrap (a+b))/2)))))/\
 (¬(a<b)->
 Am (σ:=Int×Bool) (fun(j,k)=>
 Q j k) fun e=>
 (a<(c.length:Int)->
 In a c/\
 ∃(i:Nat)(d:Int),BF i (ix c a) g (fun y0=>y0=d)/\I64 d/\
 e (a,decide (d=0)))/\
 (¬(a<(c.length:Int))->
 e (a,false))))
def Of(a:List Val)(c:Val)(Q:Bool->Prop):Prop:=
 Ov a c fun d b=>
 Q b
def Jj(b:List Val)(Q:Val->Prop):Prop:=
 (Len b->
 Ay (σ:=(List Val)×Int) (([]:List Val),0) fun(c,a)g=>
 (a<(b.length:Int)->
 In a b/\
 Cu (ix b a) fun d e=>
 ((!e)=true->
 Q Val.nil)/\
 ((!e)=false->
 AY (c.length+d.length) 16/\
 I64 (a+1)/\
 g ((c++d),(a+1))))/\
 (¬(a<(b.length:Int))->
 Fl c fun f=>
 Q f))
def Hk(a:List Val)(Q:Val->Prop):Prop:=
 (Len a->
 (10<(a.length:Int)->
 Q Val.nil)/\
 (¬(10<(a.length:Int))->
 (Len a->
 (0<=(a.length:Int)/\((a.length:Int):Int)<64/\I64 ((1:Int)* 2^(a.length:Int).toNat))/\
 Ay (σ:=(List Val)×Int) (([]:List Val),0) fun(e,c)j=>
 (c<((1:Int)* 2^(a.length:Int).toNat)->
 (Len a->
 Ay (σ:=(List Val)×Int) (([]:List Val),0) fun(d,b)k=>
 (b<(a.length:Int)->
 Am (σ:=(List Val)) (fun h=>
 I64 (b+1)/\
 k (h,(b+1))) fun f=>
 In b a/\
 (0<=b/\(b:Int)<64)/\
 (0<=(c.fdiv (2^b.toNat))/\(0:Int)<=1)/\
 ((AbX (·&&&·) (c.fdiv (2^b.toNat)) 1)=1->
 AY (d.length+([(ix a b)]).length) 16/\
 f (d++([(ix a b)])))/\
 (¬((AbX (·&&&·) (c.fdiv (2^b.toNat)) 1)=1)->
 f d))/\
 (¬(b<(a.length:Int))->
 FP d fun g=>
 AY (e.length+([g]).length) 16/\
 I64 (c+1)/\
 j ((e++([g])),(c+1)))))/\
 (¬(c<((1:Int)* 2^(a.length:Int).toNat))->
 Fl e fun i=>
 Q i))))
def Mv(b:Int)(e:Int)(d:Int)(Q:Int->Prop):Prop:=
 Ay (σ:=Int×Int) (e,1) fun(a,c)f=>
 (((0<a)/\(1<b))/\(c<=d)->
 I64 (c* b)/\
 I64 (a-1)/\
 f ((a-1),(c* b)))/\
 (¬(((0<a)/\(1<b))/\(c<=d))->
 ((0<a)/\(b=0)->
 Q 0)/\
 (¬((0<a)/\(b=0))->
 Q c))
def MF(a:List Val)(Q:Val->Prop):Prop:=
 (Len a->
 Ay (σ:=Int) 0 fun b d=>
 (b<(a.length:Int)->
 In b a/\
 ((ix a b).isNil=true->
 Q Val.nil)/\
 ((ix a b).isNil=false->
 I64 (b+1)/\
 d (b+1)))/\
 (¬(b<(a.length:Int))->
 Fl a fun c=>
 Q c))
def Adc(d:Val)(e:Val)(Q:Val->Prop):Prop:=
 Ji d fun f a g=>
 Ov f e fun b c=>
 (c=true->
 In b a/\
 Q (ix a b))/\
 (c=false->
 Q Val.nil)
def UY(a:Val)(g:Val)(j:Val)(Q:Val->Prop):Prop:=
 Ji a fun b h c=>
 ((!c)=true->
 Q Val.nil)/\
 ((!c)=false->
 Ov b g fun d e=>
 ((!e)=true->
 Q a)/\
 ((!e)=false->
 Ed h fun f=>
 In d f/\
 CL b (f.set d.toNat j) fun i=>
 Q i))
def GB(a:List Val)(b:Fg (Bool×Bool) Bool)(Q:Val->Prop):Prop:=
 In 0 a/\
 In 1 a/\
 Rb (ix a 0) fun c=>
 Rb (ix a 1) fun d=>
 b (c,d) fun e=>
 CK e fun f=>
 Q f
def HT(a:Fg (Bool×Bool) Bool)(Q:Int->(Option EA)->Prop):Prop:=
 Q 2 (some (fun x Q=>GB x a Q))
def KU(a:List Val)(Q:Val->Prop):Prop:=
 In 0 a/\
 Rb (ix a 0) fun b=>
 CK (!b) fun c=>
 Q c
def Nn(a:Bool)(b:Bool)(Q:Bool->Prop):Prop:=
 Q (decide ((a=true)/\(b=true)))
def Oy(a:Bool)(b:Bool)(Q:Bool->Prop):Prop:=
 Q (decide ((a=true)\/(b=true)))
def Nw(a:Bool)(b:Bool)(Q:Bool->Prop):Prop:=
 Q (decide (((!a)=true)\/(b=true)))
def Nk(a:Bool)(b:Bool)(Q:Bool->Prop):Prop:=
 Q (a==b)
def KP(a:List Val)(Q:Val->Prop):Prop:=
 In 0 a/\
 In 1 a/\
 Qt (ix a 0) (ix a 1) fun b=>
 CK b fun c=>
 Q c
def KQ(a:List Val)(Q:Val->Prop):Prop:=
 In 0 a/\
 In 1 a/\
 Qt (ix a 0) (ix a 1) fun b=>
 CK (!b) fun c=>
 Q c
def DH(a:Aa)(Q:Int->(Option EA)->Prop):Prop:=
 (a=[110,111,116]->
 Q 1 (some (fun x Q=>KU x Q)))/\
 (¬(a=[110,111,116])->
 (a=[97,110,100]->
 HT (fun x Q=>Nn x.1 x.2 Q) fun i e=>
 Q i e)/\
 (¬(a=[97,110,100])->
 (a=[111,114]->
 HT (fun x Q=>Oy x.1 x.2 Q) fun f b=>
 Q f b)/\
 (¬(a=[111,114])->
 (a=[105,109,112,108,105,101,115]->
 HT (fun x Q=>Nw x.1 x.2 Q) fun g c=>
 Q g c)/\
 (¬(a=[105,109,112,108,105,101,115])->
 (a=[105,102,102]->
 HT (fun x Q=>Nk x.1 x.2 Q) fun h d=>
 Q h d)/\
 (¬(a=[105,102,102])->
 (a=[61]->
 Q 2 (some (fun x Q=>KP x Q)))/\
 (¬(a=[61])->
 (a=[47,61]->
 Q 2 (some (fun x Q=>KQ x Q)))/\
 (¬(a=[47,61])->
 Q 0 none)))))))
def ES(a:List Val)(f:Fg (Int×Int) Bool)(Q:Val->Prop):Prop:=
 In 0 a/\
 Mj (ix a 0) fun g c=>
 In 1 a/\
 Mj (ix a 1) fun h d=>
 Am (σ:=Val) (fun e=>
 Q e) fun b=>
 (c=true->
 (d=true->
 f (g,h) fun i=>
 CK i fun j=>
 b j)/\
 (d=false->
 CK false fun k=>
 b k))/\
 (c=false->
 CK false fun l=>
 b l)
def FH(a:Fg (Int×Int) Bool)(Q:Int->(Option EA)->Prop):Prop:=
 Q 2 (some (fun x Q=>ES x a Q))
def EU(a:List Val)(d:Fg (Int×Int) Val)(Q:Val->Prop):Prop:=
 In 0 a/\
 Mj (ix a 0) fun e b=>
 In 1 a/\
 Mj (ix a 1) fun f c=>
 (((!b)=true)\/((!c)=true)->
 Q Val.nil)/\
 (¬(((!b)=true)\/((!c)=true))->
 d (e,f) fun g=>
 Q g)
def DK(a:Fg (Int×Int) Val)(Q:Int->(Option EA)->Prop):Prop:=
 Q 2 (some (fun x Q=>EU x a Q))
def Iw(a:Int)(b:Int)(Q:Bool->Prop):Prop:=
 Q (decide (a<b))
def Iu(a:Int)(b:Int)(Q:Bool->Prop):Prop:=
 Q (decide (a<=b))
def IC(a:Int)(b:Int)(Q:Bool->Prop):Prop:=
 Q (decide (b<a))
def Ip(a:Int)(b:Int)(Q:Bool->Prop):Prop:=
 Q (decide (b<=a))
def IF(a:Int)(b:Int)(Q:Val->Prop):Prop:=
 BN (IntKind.i64.wrap (a+b)) fun c=>
 Q c
def IL(a:Int)(b:Int)(Q:Val->Prop):Prop:=
 BN (IntKind.i64.wrap (a-b)) fun c=>
 Q c
def Ig(a:Int)(b:Int)(Q:Val->Prop):Prop:=
 BN (IntKind.i64.wrap (a* b)) fun c=>
 Q c
def Fj(a:Int)(b:Int)(Q:Val->Prop):Prop:=
 FI a b fun f=>
 Mj f fun d c=>
 (c=true->
 BN (IntKind.i64.wrap (a-(IntKind.i64.wrap (d* b)))) fun e=>
 Q e)/\
 (c=false->
 Q Val.nil)
def Fh(a:List Val)(Q:Val->Prop):Prop:=
 In 0 a/\
 Mj (ix a 0) fun c b=>
 (b=true->
 BN (Hx c) fun d=>
 Q d)/\
 (b=false->
 Q Val.nil)
def Cc(a:Aa)(Q:Int->(Option EA)->Prop):Prop:=
 (a=[60]->
 FH (fun x Q=>Iw x.1 x.2 Q) fun p g=>
 Q p g)/\
 (¬(a=[60])->
 (a=[60,61]->
 FH (fun x Q=>Iu x.1 x.2 Q) fun l b=>
 Q l b)/\
 (¬(a=[60,61])->
 (a=[62]->
 FH (fun x Q=>IC x.1 x.2 Q) fun m c=>
 Q m c)/\
 (¬(a=[62])->
 (a=[62,61]->
 FH (fun x Q=>Ip x.1 x.2 Q) fun n d=>
 Q n d)/\
 (¬(a=[62,61])->
 (a=[43]->
 DK (fun x Q=>IF x.1 x.2 Q) fun o e=>
 Q o e)/\
 (¬(a=[43])->
 (a=[45]->
 DK (fun x Q=>IL x.1 x.2 Q) fun q f=>
 Q q f)/\
 (¬(a=[45])->
 (a=[42]->
 DK (fun x Q=>Ig x.1 x.2 Q) fun r h=>
 Q r h)/\
 (¬(a=[42])->
 (a=[47]->
 DK (fun x Q=>FI x.1 x.2 Q) fun s i=>
 Q s i)/\
 (¬(a=[47])->
 (a=[37]->
 DK (fun x Q=>Fj x.1 x.2 Q) fun t j=>
 Q t j)/\
 (¬(a=[37])->
 (a=[46,46]->
 DK (fun x Q=>Qe x.1 x.2 Q) fun u k=>
 Q u k)/\
 (¬(a=[46,46])->
 (a=[110,101,103]->
 Q 1 (some (fun x Q=>Fh x Q)))/\
 (¬(a=[110,101,103])->
 Q 0 none)))))))))))
def Na(b:List Val)(d:Fg Val Bool)(Q:Int->Prop):Prop:=
 (Len b->
 Ay (σ:=Int) 0 fun a e=>
 (a<(b.length:Int)->
 In a b/\
 d (ix b a) fun c=>
 (c=true->
 Q a)/\
 (c=false->
 I64 (a+1)/\
 e (a+1)))/\
 (¬(a<(b.length:Int))->
 Q (-1)))
def Iv(c:List Val)(a:Fg Val Bool)(Q:Bool->Prop):Prop:=
 Na c a fun b=>
 Q (decide (0<=b))
def RC(b:List Val)(f:Fg Val Bool)(Q:Val->Prop):Prop:=
 (Len b->
 Ay (σ:=(List Val)×Int) (([]:List Val),0) fun(c,a)i=>
 (a<(b.length:Int)->
 Am (σ:=(List Val)) (fun g=>
 I64 (a+1)/\
 i (g,(a+1))) fun d=>
 In a b/\
 f (ix b a) fun e=>
 (e=true->
 AY (c.length+([(ix b a)]).length) 16/\
 d (c++([(ix b a)])))/\
 (e=false->
 d c))/\
 (¬(a<(b.length:Int))->
 FP c fun h=>
 Q h))
def HL(a:List Val)(d:Fg (List Val×List Val) Val)(Q:Val->Prop):Prop:=
 In 0 a/\
 Cu (ix a 0) fun e b=>
 In 1 a/\
 Cu (ix a 1) fun f c=>
 (((!b)=true)\/((!c)=true)->
 Q Val.nil)/\
 (¬(((!b)=true)\/((!c)=true))->
 d (e,f) fun g=>
 Q g)
def Kf(a:Fg (List Val×List Val) Val)(Q:Int->(Option EA)->Prop):Prop:=
 Q 2 (some (fun x Q=>HL x a Q))
def HZ(a:List Val)(c:Fg (List Val) Val)(Q:Val->Prop):Prop:=
 In 0 a/\
 Cu (ix a 0) fun d b=>
 (b=true->
 c d fun e=>
 Q e)/\
 (b=false->
 Q Val.nil)
def Mo(a:Fg (List Val) Val)(Q:Int->(Option EA)->Prop):Prop:=
 Q 1 (some (fun x Q=>HZ x a Q))
def Mz(a:List Val)(Q:Val->Prop):Prop:=
 Ed a fun c=>
 Fl c fun b=>
 Q b
def MS(a:List Val)(Q:Val->Prop):Prop:=
 In 1 a/\
 Cu (ix a 1) fun e c=>
 Am (σ:=Val) (fun d=>
 Q d) fun b=>
 (c=true->
 In 0 a/\
 Of e (ix a 0) fun f=>
 CK f fun g=>
 b g)/\
 (c=false->
 CK false fun h=>
 b h)
def NJ(c:Val)(a:List Val)(Q:Bool->Prop):Prop:=
 Of (a) c fun b=>
 Q (!b)
def Mu(a:List Val)(Q:Val->Prop):Prop:=
 In 0 a/\
 Cu (ix a 0) fun f c=>
 In 1 a/\
 Cu (ix a 1) fun g d=>
 Am (σ:=Val) (fun e=>
 Q e) fun b=>
 (c=true->
 (d=true->
 Iv f (fun x Q=>NJ x g Q) fun h=>
 CK (!h) fun i=>
 b i)/\
 (d=false->
 CK false fun j=>
 b j))/\
 (c=false->
 CK false fun k=>
 b k)
def Ra(a:List Val)(b:List Val)(Q:Val->Prop):Prop:=
 GK ([a,b]) fun c=>
 Fl c fun d=>
 Q d
def NR(c:Val)(a:List Val)(Q:Bool->Prop):Prop:=
 Of (a) c fun b=>
 Q b
def Qh(a:List Val)(b:List Val)(Q:Val->Prop):Prop:=
 RC a (fun x Q=>NR x b Q) fun c=>
 Q c
def NU(c:Val)(a:List Val)(Q:Bool->Prop):Prop:=
 Of (a) c fun b=>
 Q (!b)
def QP(a:List Val)(b:List Val)(Q:Val->Prop):Prop:=
 RC a (fun x Q=>NU x b Q) fun c=>
 Q c
def Rp(a:List Val)(Q:Val->Prop):Prop:=
 (Len a->
 BN (a.length:Int) fun b=>
 Q b)
def IP(c:List Val)(a:List Val)(d:List Val)(Q:(List Val)->(List Val)->Prop):Prop:=
 Ed c fun e=>
 CL d e fun b=>
 AY (a.length+([b]).length) 16/\
 Q c (a++([b]))
def JZ:Nat->Int->Int->(List Val)->(List Val)->(List Val)->(List Val)->((List Val)->(List Val)->Prop)->Prop
 |0,_,_,_,_,_,_,_=>False
 |m0+1,b,e,f,h,i,a,Q=>
 (b=e->
 IP i f h fun l m=>
 Q m l)/\
 (¬(b=e)->
 (Len a->
 Ay (σ:=(List Val)×(List Val)×Int) (i,f,0) fun(d,g,c)n=>
 (c<(a.length:Int)->
 In c a/\
 In b d/\
 I64 (b+1)/\
 JZ m0 (b+1) e g h (d.set b.toNat (ix a c)) a fun j k=>
 I64 (c+1)/\
 n (k,j,(c+1)))/\
 (¬(c<(a.length:Int))->
 Q g d)))
def RF(a:Int)(e:List Val)(d:List Val)(b:List Val)(Q:(List Val)->Prop):Prop:=
 Xf a 16/\
 ∃mf,JZ mf 0 a d b (List.replicate a.toNat Val.nil) e fun c f=>
 Q c
def KH(a:List Val)(b:List Val)(Q:Val->Prop):Prop:=
 (Len b->
 (Len a->
 Mv (b.length:Int) (a.length:Int) 1024 fun c=>
 (1024<c->
 Q Val.nil)/\
 (¬(1024<c)->
 (Len a->
 RF (a.length:Int) b ([]:List Val) a fun d=>
 MF d fun e=>
 Q e))))
def Fp(b:List Val)(a:List Val)(Q:(List Val)->(List Val)->Prop):Prop:=
 Ed b fun d=>
 BQ d fun c=>
 AY (a.length+([c]).length) 16/\
 Q b (a++([c]))
def Kz:Nat->Int->Int->(List Val)->(List Val)->(List Val)->((List Val)->(List Val)->Prop)->Prop
 |0,_,_,_,_,_,_=>False
 |m0+1,b,e,g,h,a,Q=>
 (b=e->
 Fp h g fun k l=>
 Q l k)/\
 (¬(b=e)->
 (Len a->
 Ay (σ:=(List Val)×(List Val)×Int) (h,g,0) fun(d,f,c)m=>
 (c<(a.length:Int)->
 In c a/\
 In b d/\
 I64 (b+1)/\
 Kz m0 (b+1) e f (d.set b.toNat (ix a c)) a fun i j=>
 I64 (c+1)/\
 m (j,i,(c+1)))/\
 (¬(c<(a.length:Int))->
 Q f d)))
def QB(a:Int)(d:List Val)(c:List Val)(Q:(List Val)->Prop):Prop:=
 Xf a 16/\
 ∃mf,Kz mf 0 a c (List.replicate a.toNat Val.nil) d fun b e=>
 Q b
def ID(d:List Val)(f:Int)(Q:Val->Prop):Prop:=
 Ay (σ:=(List Val)×Int) (([]:List Val),0) fun(c,b)h=>
 (Len d->
 ((b<=f)/\((b=0)\/(0<(d.length:Int)))->
 (Len c->
 (Len d->
 Mv (d.length:Int) b 1024 fun e=>
 I64 ((c.length:Int)+e)/\
 (1024<((c.length:Int)+e)->
 Q Val.nil)/\
 (¬(1024<((c.length:Int)+e))->
 QB b d c fun a=>
 (Len a->
 I64 ((a.length:Int)-1)/\
 In ((a.length:Int)-1) a/\
 (((ix a ((a.length:Int)-1))).isNil=true->
 Q Val.nil)/\
 (((ix a ((a.length:Int)-1))).isNil=false->
 I64 (b+1)/\
 h (a,(b+1))))))))/\
 (¬((b<=f)/\((b=0)\/(0<(d.length:Int))))->
 MF c fun g=>
 Q g))
def JW(a:List Val)(Q:Val->Prop):Prop:=
 In 0 a/\
 Cu (ix a 0) fun e c=>
 In 1 a/\
 Mj (ix a 1) fun b d=>
 ((((!c)=true)\/((!d)=true))\/(b<0)->
 Q Val.nil)/\
 (¬((((!c)=true)\/((!d)=true))\/(b<0))->
 ID e b fun f=>
 Q f)
def EY(a:Aa)(Q:Int->(Option EA)->Prop):Prop:=
 (a=[115,101,116]->
 Q (-1) (some (fun x Q=>Mz x Q)))/\
 (¬(a=[115,101,116])->
 (a=[105,110]->
 Q 2 (some (fun x Q=>MS x Q)))/\
 (¬(a=[105,110])->
 (a=[115,117,98,115,101,116]->
 Q 2 (some (fun x Q=>Mu x Q)))/\
 (¬(a=[115,117,98,115,101,116])->
 (a=[117,110,105,111,110]->
 Kf (fun x Q=>Ra x.1 x.2 Q) fun o h=>
 Q o h)/\
 (¬(a=[117,110,105,111,110])->
 (a=[105,110,116,101,114]->
 Kf (fun x Q=>Qh x.1 x.2 Q) fun i b=>
 Q i b)/\
 (¬(a=[105,110,116,101,114])->
 (a=[109,105,110,117,115]->
 Kf (fun x Q=>QP x.1 x.2 Q) fun j c=>
 Q j c)/\
 (¬(a=[109,105,110,117,115])->
 (a=[115,105,122,101]->
 Mo (fun x Q=>Rp x Q) fun k d=>
 Q k d)/\
 (¬(a=[115,105,122,101])->
 (a=[102,108,97,116,116,101,110]->
 Mo (fun x Q=>Jj x Q) fun l e=>
 Q l e)/\
 (¬(a=[102,108,97,116,116,101,110])->
 (a=[112,111,119,101,114,115,101,116]->
 Mo (fun x Q=>Hk x Q) fun m f=>
 Q m f)/\
 (¬(a=[112,111,119,101,114,115,101,116])->
 (a=[45,62]->
 Kf (fun x Q=>KH x.1 x.2 Q) fun n g=>
 Q n g)/\
 (¬(a=[45,62])->
 (a=[115,101,113,115]->
 Q 2 (some (fun x Q=>JW x Q)))/\
 (¬(a=[115,101,113,115])->
 Q 0 none)))))))))))
def DD(a:List Val)(c:Fg (List Val×List Val) Val)(Q:Val->Prop):Prop:=
 In 0 a/\
 Hm (ix a 0) fun d b=>
 (b=true->
 c (d,a) fun e=>
 Q e)/\
 (b=false->
 Q Val.nil)
def Dt(a:Int)(b:Fg (List Val×List Val) Val)(Q:Int->(Option EA)->Prop):Prop:=
 Q a (some (fun x Q=>DD x b Q))
def DA(b:List Val)(Q:Val->Prop):Prop:=
 Ay (σ:=(List Val)×(List Val)×Int) (([]:List Val),([]:List Val),0) fun(c,d,a)i=>
 I64 (a+1)/\
 (Len b->
 ((a+1)<(b.length:Int)->
 Am (σ:=(List Val)×(List Val)) (fun(f,h)=>
 I64 (a+2)/\
 i (f,h,(a+2))) fun e=>
 (In a b/\
 I64 (a+1)/\
 In (a+1) b/\
 AY (c.length+([(ix b a)]).length) 16/\
 AY (d.length+([(ix b (a+1))]).length) 16/\
 e ((c++([(ix b a)])),(d++([(ix b (a+1))]))))/\
 (In a b/\
 I64 (a+1)/\
 In (a+1) b/\
 AY (c.length+([(ix b a)]).length) 16/\
 AY (d.length+([(ix b (a+1))]).length) 16/\
 e ((c++([(ix b a)])),(d++([(ix b (a+1))]))))/\
 In a b/\
 I64 (a+1)/\
 In (a+1) b/\
 AY (c.length+([(ix b a)]).length) 16/\
 AY (d.length+([(ix b (a+1))]).length) 16/\
 e ((c++([(ix b a)])),(d++([(ix b (a+1))]))))/\
 (¬((a+1)<(b.length:Int))->
 (Len b->
 ((2:Int)≠0)/\
 (((b.length:Int).tmod 2)=1->
 Q Val.nil)/\
 (¬(((b.length:Int).tmod 2)=1)->
 CL c d fun g=>
 Q g))))
def ED(a:List Val)(Q:Val->Prop):Prop:=
 Ed a fun c=>
 BQ c fun b=>
 Q b
def Es(a:List Val)(Q:Val->Prop):Prop:=
 In 0 a/\
 In 1 a/\
 Adc (ix a 0) (ix a 1) fun b=>
 Q b
def EB(a:List Val)(Q:Val->Prop):Prop:=
 In 0 a/\
 In 1 a/\
 In 2 a/\
 UY (ix a 0) (ix a 1) (ix a 2) fun b=>
 Q b
def Ex(a:List Val)(Q:Val->Prop):Prop:=
 In 0 a/\
 Ji (ix a 0) fun c e b=>
 (b=true->
 FP c fun d=>
 Q d)/\
 (b=false->
 Q Val.nil)
def Ez(a:List Val)(Q:Val->Prop):Prop:=
 In 0 a/\
 Ji (ix a 0) fun f c b=>
 (b=true->
 Ed c fun d=>
 Fl d fun e=>
 Q e)/\
 (b=false->
 Q Val.nil)
def Gt(a:List Val)(c:List Val)(Q:Val->Prop):Prop:=
 (Len a->
 BN (a.length:Int) fun b=>
 Q b)
def EC(a:List Val)(b:List Val)(Q:Val->Prop):Prop:=
 (Len a->
 ((a.length:Int)=0->
 Q Val.nil)/\
 (¬((a.length:Int)=0)->
 In 0 a/\
 Q (ix a 0)))
def FM(a:List Val)(d:List Val)(Q:Val->Prop):Prop:=
 (Len a->
 ((a.length:Int)=0->
 Q Val.nil)/\
 (¬((a.length:Int)=0)->
 (0<=(1:Int)/\1<=(a.length:Int))/\
 Ed (a.drop (1:Int).toNat) fun b=>
 BQ b fun c=>
 Q c))
def FX(b:List Val)(a:List Val)(Q:Val->Prop):Prop:=
 ((0:Int)<=1/\1<=(a.length:Int))/\
 GK ([b,(a.drop (1:Int).toNat)]) fun c=>
 BQ c fun d=>
 Q d
def FF(c:List Val)(a:List Val)(Q:Val->Prop):Prop:=
 In 1 a/\
 Hm (ix a 1) fun d b=>
 (b=true->
 GK ([c,d]) fun e=>
 BQ e fun f=>
 Q f)/\
 (b=false->
 Q Val.nil)
def BC(a:Aa)(Q:Int->(Option EA)->Prop):Prop:=
 (a=[102,117,110]->
 Q (-1) (some (fun x Q=>DA x Q)))/\
 (¬(a=[102,117,110])->
 (a=[115,101,113]->
 Q (-1) (some (fun x Q=>ED x Q)))/\
 (¬(a=[115,101,113])->
 (a=[97,116]->
 Q 2 (some (fun x Q=>Es x Q)))/\
 (¬(a=[97,116])->
 (a=[112,117,116]->
 Q 3 (some (fun x Q=>EB x Q)))/\
 (¬(a=[112,117,116])->
 (a=[100,111,109,97,105,110]->
 Q 1 (some (fun x Q=>Ex x Q)))/\
 (¬(a=[100,111,109,97,105,110])->
 (a=[118,97,108,117,101,115]->
 Q 1 (some (fun x Q=>Ez x Q)))/\
 (¬(a=[118,97,108,117,101,115])->
 (a=[108,101,110]->
 Dt 1 (fun x Q=>Gt x.1 x.2 Q) fun g b=>
 Q g b)/\
 (¬(a=[108,101,110])->
 (a=[104,101,97,100]->
 Dt 1 (fun x Q=>EC x.1 x.2 Q) fun h c=>
 Q h c)/\
 (¬(a=[104,101,97,100])->
 (a=[116,97,105,108]->
 Dt 1 (fun x Q=>FM x.1 x.2 Q) fun i d=>
 Q i d)/\
 (¬(a=[116,97,105,108])->
 (a=[97,112,112,101,110,100]->
 Dt 2 (fun x Q=>FX x.1 x.2 Q) fun j e=>
 Q j e)/\
 (¬(a=[97,112,112,101,110,100])->
 (a=[43,43]->
 Dt 2 (fun x Q=>FF x.1 x.2 Q) fun k f=>
 Q k f)/\
 (¬(a=[43,43])->
 Q 0 none)))))))))))
def Hj(c:Aa)(Q:Int->(Option EA)->Prop):Prop:=
 (Len ([(Hd DH),(Hd Cc),(Hd EY),(Hd BC)])->
 Ay (σ:=Int) 0 fun a e=>
 (a<(([(Hd DH),(Hd Cc),(Hd EY),(Hd BC)]).length:Int)->
 In a ([(Hd DH),(Hd Cc),(Hd EY),(Hd BC)])/\
 FgS (ix ([(Hd DH),(Hd Cc),(Hd EY),(Hd BC)]) a) c fun d b=>
 (b.isSome=true->
 Q d b)/\
 (b.isSome=false->
 I64 (a+1)/\
 e (a+1)))/\
 (¬(a<(([(Hd DH),(Hd Cc),(Hd EY),(Hd BC)]).length:Int))->
 Q 0 none))
def Ry(g:Aa)(b:List Val)(Q:Val->Prop):Prop:=
 Hj g fun d c=>
 Am (σ:=Bool) (fun f=>
 (f=true->
 Q Val.nil)/\
 (f=false->
 ∃e:EA,c=some e/\e b fun h=>
 Q h)) fun a=>
 (c.isNone=true->
 a true)/\
 (c.isNone=false->
 (0<=d->
 (Len b->
 a (decide (d≠(b.length:Int)))))/\
 (¬(0<=d)->
 a false))
def Kb(c:List ((List UInt8)×Int×List UInt8))(Q:Bool->Prop):Prop:=
 Ay (σ:=(List Val)×(List RV)×(List (List UInt8))×Int) (([]:List Val),([]:List RV),([]:List (List UInt8)),0) fun(a,f,m,b)I=>
 (Len c->
 (b<(c.length:Int)->
 In b c/\
 (I64 (ix c b).2.1->
 Qp ((ix c b).2.2) fun F l=>
 Am (σ:=Val×Int×Int×Aa×(List RV)×(List RV)) (fun(n,o,p,q,r,s)=>
 NN n fun x=>
 ∃mf,DZ mf (RV.mk o p q r s) fun u=>
 Eb n fun D=>
 ∃mf,DU mf (RV.mk o p q r s) fun E=>
 Am (σ:=Bool) (fun B=>
 (B=true->
 Q false)/\
 (B=false->
 AY (a.length+([n]).length) 16/\
 AY (f.length+([(RV.mk o p q r s)]).length) 80/\
 AY (m.length+([u]).length) 16/\
 I64 (b+1)/\
 I ((a++([n])),(f++([(RV.mk o p q r s)])),(m++([u])),(b+1)))) fun w=>
 (x≠u->
 w true)/\
 (¬(x≠u)->
 w (decide (D≠E)))) fun v=>
 ((ix c b).1≠([]:Aa)->
 (Len a->
 I64 ((a.length:Int)+1)/\
 Va ((ix c b).2.1) ((a.length:Int)+1) fun d=>
 (Len a->
 I64 ((a.length:Int)-d)/\
 (0<=((a.length:Int)-d)/\((a.length:Int)-d)<=(a.length:Int))/\
 AY (([]:List Val).length+(a.drop ((a.length:Int)-d).toNat).length) 16/\
 Ry ((ix c b).1) (a.drop ((a.length:Int)-d).toNat) fun C=>
 (Len f->
 I64 ((f.length:Int)-d)/\
 (0<=((f.length:Int)-d)/\((f.length:Int)-d)<=(f.length:Int))/\
 Nu ((ix c b).1) (f.drop ((f.length:Int)-d).toNat) fun j=>
 Ay (σ:=(List Val)×Int) ((a.drop ((a.length:Int)-d).toNat),0) fun(h,g)G=>
 (Len h->
 (g<(h.length:Int)->
 In g h/\
 I64 (g+1)/\
 G ((h.set g.toNat Val.nil),(g+1)))/\
 (¬(g<(h.length:Int))->
 v (C,j.k,j.i,j.t,j.ks,j.vs)))))))/\
 (¬((ix c b).1≠([]:Aa))->
 v (F,l.k,l.i,l.t,l.ks,l.vs))))/\
 (¬(b<(c.length:Int))->
 Ay (σ:=Int) 0 fun e H=>
 (Len a->
 (e<(a.length:Int)->
 In e a/\
 NN (ix a e) fun A=>
 In e m/\
 (A≠(ix m e)->
 Q false)/\
 (¬(A≠(ix m e))->
 I64 (e+1)/\
 H (e+1)))/\
 (¬(e<(a.length:Int))->
 Q true))))
end Go.Vc
namespace Go.Vc
open Go
def sh(D:List Deferred)(Q:Exit->Act->World->Prop):Exit->Act->World->Prop:=fun e a w=>Q e {a with defers:=a.defers++D} w
section
variable{P:Program}{ops:Array Oper}{Q:Exit->Act->World->Prop}{D:List Deferred}
theorem KT{a:Act}{d:Option Tmp}{v:Value}:({a with defers:=a.defers++D}:Act).put d v={(a.put d v) with defers:=(a.put d v).defers++D}:=by cases d<;>rfl
theorem Wh(h:LetsOut (sh D Q)):LetsOut Q:=let⟨a,w,q⟩:=h;⟨_,w,q⟩
theorem Pv:∀(rest:List Oper)(a:Act)(w:World),wpList P ops (sh D Q) rest a w->wpList P ops Q rest {a with defers:=a.defers++D} w
 |[],a,w,h=>h
 |o::rest,a,w,h=>by
  have he:({a with defers:=a.defers++D}:Act).eval=a.eval:=by funext x;cases x<;>rfl
  have ih:=Pv rest
  simp only[wpList] at h ⊢
  show if Region.wanted o (yielded ops a.tmps) then _ else _
  split at h
  ·rename_i hw
   rw[if_pos hw]
   rcases h with h|⟨h,hl⟩
   ·left
    unfold Oper.wp at h ⊢
    rw[he]
    generalize(execOp a.eval o).run P w=r at h ⊢
    unfold Oper.upon at h ⊢
    split at h
    ·rw[KT];exact ih _ _ h
    ·rw[KT];exact ih _ _ h
    ·rename_i d w'
     have:=ih _ _ h
     have e:({a with defers:=d::(a.defers++D)}:Act).put o.dst undef={(({a with defers:=d::a.defers}:Act).put o.dst undef) with defers:=(({a with defers:=d::a.defers}:Act).put o.dst undef).defers++D}:=by cases o.dst<;>rfl
     rw[e];exact this
    ·refine Calls.mono h fun e w'' hh=>?_
     cases e with
     |returned v=>simp only at hh ⊢;rw[KT];exact ih _ _ hh
     |panicked c=>exact hh
     |outgrown=>exact Wh hh
    ·refine Rows.mono h fun v w'' hh=>?_
     rw[KT];exact ih _ _ hh
    ·exact h
    ·exact h.elim
   ·right
    refine⟨?_,Wh hl⟩
    unfold Oper.asks at h ⊢
    rw[he];exact h
  ·rename_i hw
   rw[if_neg hw,KT]
   exact ih _ _ h
def FrD(D:List Deferred)(n:Nat)(l:List (Nat×Value))(a:Act):Prop:=a.defers=D/\Fr n l {a with defers:=[]}
def WCD(D:List Deferred)(P:Program)(Q:Exit->Act->World->Prop)(n:Nat)(l:List (Nat×Value))(c:Code)(w:World):Prop:=∀a,FrD D n l a->Code.wp P c Q a w
def WQD(D:List Deferred)(Q:Exit->Act->World->Prop)(e:Exit)(n:Nat)(l:List (Nat×Value))(w:World):Prop:=∀a,FrD D n l a->Q e a w
variable{n:Nat}{l:List (Nat×Value)}{w:World}
theorem FrD.mk{a:Act}(h:Fr n l a):FrD D n l {a with defers:=a.defers++D}:=by
 have:=h.defers
 refine⟨by simp[this],?_⟩
 cases a;simp only at this ⊢;subst this;exact h
theorem FrD.eval{a:Act}(h:FrD D n l a){x:Operand}{v:Value}(hx:AF l x=some v):a.eval x=v:=by
 have:=h.2.eval hx;cases x<;>exact this
theorem WL.toD{rest:List Oper}{a:Act}(h:WL P ops (sh D Q) n l rest w)(ha:FrD D n l a):wpList P ops Q rest a w:=by
 have:=Pv (D:=D) rest _ w (h _ ha.2)
 obtain⟨h1,_⟩:=ha
 cases a;simp only at h1 this;subst h1;simpa using this
theorem WCD.sr{k:Nat}{os:List Oper}{y:Code}(h:WL P os.toArray (sh D (Exit.then (y.wp P Q) Q)) n l os w):WCD D P Q n l (.seq (.region k os.toArray false) y) w:=fun a ha=>wp_seq (wp_region_lit (h.toD ha))
theorem WCD.region{k:Nat}{os:List Oper}(h:WL P os.toArray (sh D Q) n l os w):WCD D P Q n l (.region k os.toArray false) w:=fun a ha=>wp_region_lit (h.toD ha)
theorem WL.nxD{y:Code}(h:WCD D P Q n l y w):WL P ops (sh D (Exit.then (y.wp P Q) Q)) n l [] w:=WL.nil fun a ha=>h _ (FrD.mk ha)
theorem WCD.seq{x y:Code}(h:WCD D P (Exit.then (y.wp P Q) Q) n l x w):WCD D P Q n l (.seq x y) w:=fun a ha=>wp_seq (h a ha)
theorem WCD.skip(h:WQD D Q .normal n l w):WCD D P Q n l .skip w:=fun a ha=>wp_skip (h a ha)
theorem WCD.ret(h:WQD D Q .ret n l w):WCD D P Q n l .ret w:=fun a ha=>wp_ret (h a ha)
theorem WCD.block{k:Nat}{c:Code}(h:WCD D P (Exit.inBlock k Q) n l c w):WCD D P Q n l (.block k c) w:=fun a ha=>wp_block (h a ha)
theorem WCD.cond{c:Operand}{x y:Code}{t:Bool}(hc:AF l c=some (.bool t))(h1:t=true->WCD D P Q n l x w)(h2:t=false->WCD D P Q n l y w):WCD D P Q n l (.cond c x y) w:=
 fun a ha=>wp_cond_split (ha.eval hc) (fun h=>h1 h a ha) (fun h=>h2 h a ha)
theorem WQD.next{y:Code}(h:WCD D P Q n l y w):WQD D (Exit.then (y.wp P Q) Q) .normal n l w:=fun a ha=>h a ha
theorem WQD.pass{K:Act->World->Prop}{e:Exit}(he:e≠.normal)(h:WQD D Q e n l w):WQD D (Exit.then K Q) e n l w:=fun a ha=>by
 cases e<;>first|exact absurd rfl he|exact h a ha
theorem WQD.out{k:Nat}{e:Exit}(he:∀j,e≠.exit j)(h:WQD D Q e n l w):WQD D (Exit.inBlock k Q) e n l w:=fun a ha=>by
 cases e<;>first|exact absurd rfl (he _)|exact h a ha
theorem WL.defer{x:Operand}{ty:TypeId}{pos:String}{af:Array Edge}{f:Nat}{cap:Array Value}{ts:Array TypeId}{y:Code}(hx:AF l x=some (.func (.func f) #[] cap))
  (he:∀a,Fr n l a->(execOp a.eval ⟨none,.defer {callee:=.value x,args:=#[],argTypes:=ts},ty,pos,af,none⟩).run P w=.ok (.defer {target:=.fn (.func f) cap,args:=#[]}) w)
  (h:WCD [{target:=.fn (.func f) cap,args:=#[]}] P Q n l y w):WL P ops (Exit.then (y.wp P Q) Q) n l [⟨none,.defer {callee:=.value x,args:=#[],argTypes:=ts},ty,pos,af,none⟩] w:=fun a ha=>wpList_plain rfl fun K hK=>by
 unfold Oper.wp
 rw[he a ha,Oper.upon_defer]
 refine hK _ _ (wpList_nil ?_)
 have hd:=ha.defers
 refine h _ ⟨by show _::a.defers=_;rw[hd],?_⟩
 cases a;simp only at hd;subst hd;exact ha
theorem AcT{f:FuncId}{fn:Func}{c:Code}{args:Array Value}{R:Ending->World->Prop}
  (hf:P.funcs[f]? =some fn)(hb:fn.body=some c)(hn:fn.ntmps=n)(hs:Nat.ble args.size n=true)(hl:∀s v,lk l s=some v->args[s]? =some v)
  (h:WC P (bodyPostD P fn R) n l c w):Calls P f args w R:=by
 have hs':args.size<=n:=by simpa using hs
 refine calls_of_wp_defers hf hb (h _ ⟨rfl,by simp[hn];omega,fun s v hv=>?_⟩)
 have:=hl s v hv
 have hlt:s<args.size:=by
  rcases Nat.lt_or_ge s args.size with h|h
  ·exact h
  ·simp[Array.getElem?_eq_none h] at this
 simp only[Array.getElem?_append,hlt,if_true]
 exact this
theorem ZF{f:FuncId}{fn:Func}{c:Code}{args:Array Value}{u:FrameMode}{R:Ending->FrameMode->World->Prop}
  (hf:P.funcs[f]? =some fn)(hb:fn.body=some c)(hn:fn.ntmps=n)(hs:Nat.ble args.size n=true)(hl:∀s v,lk l s=some v->args[s]? =some v)
  (h:∀(c₀:Frame)(cs:List Frame)(a:Act),c₀.mode=u->Fr n l a->c.wpS P (bodyPostS P fn c₀ cs R) a (c₀::cs) w):CallsD P f args u w R:=by
 have hs':args.size<=n:=by simpa using hs
 refine callsD_of_wpS hf hb fun c₀ cs hu=>h c₀ cs _ hu ⟨rfl,by simp[hn];omega,fun s v hv=>?_⟩
 have:=hl s v hv
 have hlt:s<args.size:=by
  rcases Nat.lt_or_ge s args.size with h|h
  ·exact h
  ·simp[Array.getElem?_eq_none h] at this
 simp only[Array.getElem?_append,hlt,if_true]
 exact this
section
variable{QS:Exit->Act->List Frame->World->Prop}{k d:Nat}{ty:TypeId}{pos:String}{y:Code}{a:Act}{cs cs':List Frame}
theorem Le(hr:recoverD cs=none)(h:y.wpS P QS (a.put (some d) .nilIface) cs w):(Code.seq (.region k #[⟨some d,.call {callee:=.builtin .recover,args:=#[],argTypes:=#[]},ty,pos,#[],none⟩] false) y).wpS P QS a cs w:=by
 refine wpS_seq (wpS_region ?_)
 have he:(execOp a.eval ⟨some d,.call {callee:=.builtin .recover,args:=#[],argTypes:=#[]},ty,pos,#[],none⟩).run P w=.ok .recover w:=by kernel_rfl
 show wpOpsS P _ _ [0] a cs w
 simp only[wpOpsS,Region.wanted,List.getElem?_toArray,List.getElem?_cons_zero,he,hr,if_true]
 exact h
theorem LJ{v:Value}(hr:recoverD cs=some (v,cs'))(h:y.wpS P QS (a.put (some d) v) cs' w):(Code.seq (.region k #[⟨some d,.call {callee:=.builtin .recover,args:=#[],argTypes:=#[]},ty,pos,#[],none⟩] false) y).wpS P QS a cs w:=by
 refine wpS_seq (wpS_region ?_)
 have he:(execOp a.eval ⟨some d,.call {callee:=.builtin .recover,args:=#[],argTypes:=#[]},ty,pos,#[],none⟩).run P w=.ok .recover w:=by kernel_rfl
 show wpOpsS P _ _ [0] a cs w
 simp only[wpOpsS,Region.wanted,List.getElem?_toArray,List.getElem?_cons_zero,he,hr,if_true]
 exact h
theorem WC.inS{c:Code}{l:List (Nat×Value)}(h:WC P (fun e a' w'=>QS e a' cs w') n l c w)(ha:Fr n l a):c.wpS P QS a cs w:=wpS_of_wp (h a ha)
end
theorem NK{fn:Func}{tmps:Array Value}{R:Ending->World->Prop}{v:Value}(h:(results fn tmps).run P w=.ok v w)(hR:R (.returned v) w):Leaves P fn tmps R [] .returning w:=⟨v,h,hR⟩
end
end Go.Vc
namespace Go.Proofs
open Go.Shelf
def Tryz.lays137_ren:Go.Shelf.Ren:=⟨fun|137=>67|217=>109|266=>195|n=>n,fun|9=>9|5=>5|3=>3|n=>n,fun|n=>n⟩
theorem Tryz.lays137:Go.Proofs.Lays.n137 Tryz.prog Tryz.lays137_ren:={
 mixed:=by kernel_rfl
 f137:=Tryz.func67.trans (congrArg some (by kernel_rfl))
 f217:=Tryz.func109.trans (congrArg some (by kernel_rfl))
 f266:=Tryz.func195.trans (congrArg some (by kernel_rfl))
 t3:=Tryz.underlying3
 a3:=Tryz.isAgg3
 z3:=Tryz.sizeOf3
 v3:=Tryz.zeroValue3
 t5:=Tryz.underlying5
 a5:=Tryz.isAgg5
 z5:=Tryz.sizeOf5
 v5:=Tryz.zeroValue5
 t9:=Tryz.underlying9
 a9:=Tryz.isAgg9
 z9:=Tryz.sizeOf9
 v9:=Tryz.zeroValue9}
open Go.RowKit in
theorem Tryz.strings_IndexByte(s:ByteArray)(c:Int)(w:World):
  Calls Tryz.prog 67 #[.string s,.int .u8 c] w fun e w'=>e=.returned (.int .i64 (Lib.indexByte s.data.toList c.toNat.toUInt8))/\w'=w:=Any.strings_IndexByte Tryz.lays137 s c w
def Tryz.lays283_ren:Go.Shelf.Ren:=⟨fun|283=>244|n=>n,fun|3=>3|9=>9|4=>4|n=>n,fun|n=>n⟩
theorem Tryz.lays283:Go.Proofs.Lays.n283 Tryz.prog Tryz.lays283_ren:={
 mixed:=by kernel_rfl
 f283:=Tryz.func244.trans (congrArg some (by kernel_rfl))
 t3:=Tryz.underlying3
 a3:=Tryz.isAgg3
 z3:=Tryz.sizeOf3
 v3:=Tryz.zeroValue3
 t4:=Tryz.underlying4
 a4:=Tryz.isAgg4
 z4:=Tryz.sizeOf4
 v4:=Tryz.zeroValue4
 t9:=Tryz.underlying9
 a9:=Tryz.isAgg9
 z9:=Tryz.sizeOf9
 v9:=Tryz.zeroValue9}
open Go.Lib in
theorem Tryz.internal_strconv_small(i:Nat)(h:i<100)(w:World):
  Calls Tryz.prog 244 #[.int .i64 i] w fun e w'=>e=.returned (.string ⟨(Lib.decDigits i).toArray⟩)/\w'=w:=Any.internal_strconv_small Tryz.lays283 i h w
def Tryz.laysM284_ren:Go.Shelf.Ren:=⟨fun|284=>245|129=>219|317=>248|318=>249|n=>n,fun|53=>115|3=>3|212=>255|0=>0|4=>4|46=>180|5=>5|9=>9|n=>n,fun|17=>4|n=>n⟩
theorem Tryz.laysM284:Go.Proofs.LaysM.n284 Tryz.prog Tryz.laysM284_ren:={
 mixed:=by kernel_rfl
 f129:=Tryz.func219.trans (congrArg some (by kernel_rfl))
 f284:=Tryz.func245.trans (congrArg some (by kernel_rfl))
 f317:=Tryz.func248.trans (congrArg some (by kernel_rfl))
 f318:=Tryz.func249.trans (congrArg some (by kernel_rfl))
 t0:=Tryz.underlying0
 a0:=Tryz.isAgg0
 z0:=Tryz.sizeOf0
 v0:=Tryz.zeroValue0
 t3:=Tryz.underlying3
 a3:=Tryz.isAgg3
 z3:=Tryz.sizeOf3
 v3:=Tryz.zeroValue3
 t4:=Tryz.underlying4
 a4:=Tryz.isAgg4
 z4:=Tryz.sizeOf4
 v4:=Tryz.zeroValue4
 t5:=Tryz.underlying5
 a5:=Tryz.isAgg5
 z5:=Tryz.sizeOf5
 v5:=Tryz.zeroValue5
 t9:=Tryz.underlying9
 a9:=Tryz.isAgg9
 z9:=Tryz.sizeOf9
 v9:=Tryz.zeroValue9
 t46:=Tryz.underlying180
 a46:=Tryz.isAgg180
 z46:=Tryz.sizeOf180
 v46:=Tryz.zeroValue180
 t53:=Tryz.underlying115
 a53:=Tryz.isAgg115
 z53:=Tryz.sizeOf115
 v53:=Tryz.zeroValue115
 t212:=Tryz.underlying255
 a212:=Tryz.isAgg255
 z212:=Tryz.sizeOf255
 v212:=Tryz.zeroValue255
 g17:=by kernel_rfl
 i0:=by kernel_rfl
 i3:=by kernel_rfl
 i4:=by kernel_rfl
 i5:=by kernel_rfl
 i9:=by kernel_rfl
 i46:=by kernel_rfl
 i53:=by kernel_rfl
 i212:=by kernel_rfl
 m17:=by kernel_rfl}
open Go.Lib in
theorem Tryz.internal_strconv_numDigits(u:Nat)(h1:1<=u)(h2:u<18446744073709551616)(w:World)(htab:Lib.TabIs Tryz.prog w "internal/strconv.uint64pow10" .u64 Lib.pow10Tab):
  Calls Tryz.prog 245 #[.int .u64 u] w fun e w'=>e=.returned (.int .i64 (Lib.nDigits u))/\w'=w:=Any.internal_strconv_numDigits Tryz.laysM284 u h1 h2 w htab
def Tryz.lays285_ren:Go.Shelf.Ren:=⟨fun|285=>246|n=>n,fun|37=>71|53=>115|3=>3|4=>4|51=>219|9=>9|5=>5|0=>0|n=>n,fun|n=>n⟩
theorem Tryz.lays285:Go.Proofs.Lays.n285 Tryz.prog Tryz.lays285_ren:={
 mixed:=by kernel_rfl
 f285:=Tryz.func246.trans (congrArg some (by kernel_rfl))
 t0:=Tryz.underlying0
 a0:=Tryz.isAgg0
 z0:=Tryz.sizeOf0
 v0:=Tryz.zeroValue0
 t3:=Tryz.underlying3
 a3:=Tryz.isAgg3
 z3:=Tryz.sizeOf3
 v3:=Tryz.zeroValue3
 t4:=Tryz.underlying4
 a4:=Tryz.isAgg4
 z4:=Tryz.sizeOf4
 v4:=Tryz.zeroValue4
 t5:=Tryz.underlying5
 a5:=Tryz.isAgg5
 z5:=Tryz.sizeOf5
 v5:=Tryz.zeroValue5
 t9:=Tryz.underlying9
 a9:=Tryz.isAgg9
 z9:=Tryz.sizeOf9
 v9:=Tryz.zeroValue9
 t37:=Tryz.underlying71
 a37:=Tryz.isAgg71
 z37:=Tryz.sizeOf71
 v37:=Tryz.zeroValue71
 t51:=Tryz.underlying219
 a51:=Tryz.isAgg219
 z51:=Tryz.sizeOf219
 v51:=Tryz.zeroValue219
 t53:=Tryz.underlying115
 a53:=Tryz.isAgg115
 z53:=Tryz.sizeOf115
 v53:=Tryz.zeroValue115}
open Go.RowKit Go.Sort Go.Lib in
theorem Tryz.internal_strconv_formatBase10(blk off cap:Nat)(u:Nat)(d:Array UInt8)(w:World)(hH:Holds (fun(b:UInt8)=>Value.int .u8 (b.toNat:Int)) w blk off d)(hu:u<10^d.size)(hu64:u<18446744073709551616)(hsz:d.size<4611686018427387904):
  Calls Tryz.prog 246 #[.slice (some ⟨blk,off,none⟩) d.size cap,.int .u64 u] w fun e w'=>
   e=.returned (.tuple #[])/\∃(n v':Nat)(dk:Array UInt8),w'=(putRow (fun(b:UInt8)=>Value.int .u8 (b.toNat:Int)) w blk off dk).drewN n/\FmtInv d.size u 0 v' dk:=Any.internal_strconv_formatBase10 Tryz.lays285 blk off cap u d w hH hu hu64 hsz
def Tryz.laysPu14_ren:Go.Shelf.Ren:=⟨fun|14=>194|16=>222|17=>223|19=>231|20=>232|21=>233|22=>234|23=>235|24=>236|25=>239|27=>241|26=>240|28=>242|29=>243|30=>244|31=>245|32=>246|33=>247|35=>219|34=>248|36=>249|37=>250|38=>251|39=>252|40=>253|n=>n,fun|9=>9|3=>3|22=>115|24=>27|25=>182|4=>4|34=>231|5=>5|36=>180|37=>71|0=>0|39=>233|21=>21|44=>241|47=>244|50=>247|48=>245|2=>2|52=>249|55=>251|59=>255|60=>219|20=>20|61=>256|65=>257|66=>258|67=>36|n=>n,fun|0=>2|1=>3|2=>4|3=>5|4=>6|n=>n⟩
theorem Tryz.laysPu14:Go.Proofs.LaysPu.n14 Tryz.prog Tryz.laysPu14_ren:={
 mixed:=by kernel_rfl
 f14:=Tryz.func194.trans (congrArg some (by kernel_rfl))
 f16:=Tryz.func222.trans (congrArg some (by kernel_rfl))
 f17:=Tryz.func223.trans (congrArg some (by kernel_rfl))
 f19:=Tryz.func231.trans (congrArg some (by kernel_rfl))
 f20:=Tryz.func232.trans (congrArg some (by kernel_rfl))
 f21:=Tryz.func233.trans (congrArg some (by kernel_rfl))
 f22:=Tryz.func234.trans (congrArg some (by kernel_rfl))
 f23:=Tryz.func235.trans (congrArg some (by kernel_rfl))
 f24:=Tryz.func236.trans (congrArg some (by kernel_rfl))
 f25:=Tryz.func239.trans (congrArg some (by kernel_rfl))
 f26:=Tryz.func240.trans (congrArg some (by kernel_rfl))
 f27:=Tryz.func241.trans (congrArg some (by kernel_rfl))
 f28:=Tryz.func242.trans (congrArg some (by kernel_rfl))
 f29:=Tryz.func243.trans (congrArg some (by kernel_rfl))
 f30:=Tryz.func244.trans (congrArg some (by kernel_rfl))
 f31:=Tryz.func245.trans (congrArg some (by kernel_rfl))
 f32:=Tryz.func246.trans (congrArg some (by kernel_rfl))
 f33:=Tryz.func247.trans (congrArg some (by kernel_rfl))
 f34:=Tryz.func248.trans (congrArg some (by kernel_rfl))
 f35:=Tryz.func219.trans (congrArg some (by kernel_rfl))
 f36:=Tryz.func249.trans (congrArg some (by kernel_rfl))
 f37:=Tryz.func250.trans (congrArg some (by kernel_rfl))
 f38:=Tryz.func251.trans (congrArg some (by kernel_rfl))
 f39:=Tryz.func252.trans (congrArg some (by kernel_rfl))
 f40:=Tryz.func253.trans (congrArg some (by kernel_rfl))
 t0:=Tryz.underlying0
 a0:=Tryz.isAgg0
 z0:=Tryz.sizeOf0
 v0:=Tryz.zeroValue0
 i0:=by kernel_rfl
 t2:=Tryz.underlying2
 a2:=Tryz.isAgg2
 z2:=Tryz.sizeOf2
 v2:=Tryz.zeroValue2
 i2:=by kernel_rfl
 t3:=Tryz.underlying3
 a3:=Tryz.isAgg3
 z3:=Tryz.sizeOf3
 v3:=Tryz.zeroValue3
 i3:=by kernel_rfl
 t4:=Tryz.underlying4
 a4:=Tryz.isAgg4
 z4:=Tryz.sizeOf4
 v4:=Tryz.zeroValue4
 i4:=by kernel_rfl
 t5:=Tryz.underlying5
 a5:=Tryz.isAgg5
 z5:=Tryz.sizeOf5
 v5:=Tryz.zeroValue5
 i5:=by kernel_rfl
 t9:=Tryz.underlying9
 a9:=Tryz.isAgg9
 z9:=Tryz.sizeOf9
 v9:=Tryz.zeroValue9
 i9:=by kernel_rfl
 t20:=Tryz.underlying20
 a20:=Tryz.isAgg20
 z20:=Tryz.sizeOf20
 v20:=Tryz.zeroValue20
 i20:=by kernel_rfl
 t21:=Tryz.underlying21
 a21:=Tryz.isAgg21
 z21:=Tryz.sizeOf21
 v21:=Tryz.zeroValue21
 i21:=by kernel_rfl
 t22:=Tryz.underlying115
 a22:=Tryz.isAgg115
 z22:=Tryz.sizeOf115
 v22:=Tryz.zeroValue115
 i22:=by kernel_rfl
 t24:=Tryz.underlying27
 a24:=Tryz.isAgg27
 z24:=Tryz.sizeOf27
 v24:=Tryz.zeroValue27
 i24:=by kernel_rfl
 t25:=Tryz.underlying182
 a25:=Tryz.isAgg182
 z25:=Tryz.sizeOf182
 v25:=Tryz.zeroValue182
 i25:=by kernel_rfl
 t34:=Tryz.underlying231
 a34:=Tryz.isAgg231
 z34:=Tryz.sizeOf231
 v34:=Tryz.zeroValue231
 i34:=by kernel_rfl
 c34:=by kernel_rfl
 t36:=Tryz.underlying180
 a36:=Tryz.isAgg180
 z36:=Tryz.sizeOf180
 v36:=Tryz.zeroValue180
 i36:=by kernel_rfl
 t37:=Tryz.underlying71
 a37:=Tryz.isAgg71
 z37:=Tryz.sizeOf71
 v37:=Tryz.zeroValue71
 i37:=by kernel_rfl
 t39:=Tryz.underlying233
 a39:=Tryz.isAgg233
 z39:=Tryz.sizeOf233
 v39:=Tryz.zeroValue233
 i39:=by kernel_rfl
 t44:=Tryz.underlying241
 a44:=Tryz.isAgg241
 z44:=Tryz.sizeOf241
 v44:=Tryz.zeroValue241
 i44:=by kernel_rfl
 t47:=Tryz.underlying244
 a47:=Tryz.isAgg244
 z47:=Tryz.sizeOf244
 v47:=Tryz.zeroValue244
 i47:=by kernel_rfl
 t48:=Tryz.underlying245
 a48:=Tryz.isAgg245
 z48:=Tryz.sizeOf245
 v48:=Tryz.zeroValue245
 i48:=by kernel_rfl
 t50:=Tryz.underlying247
 a50:=Tryz.isAgg247
 z50:=Tryz.sizeOf247
 v50:=Tryz.zeroValue247
 i50:=by kernel_rfl
 t52:=Tryz.underlying249
 a52:=Tryz.isAgg249
 z52:=Tryz.sizeOf249
 v52:=Tryz.zeroValue249
 i52:=by kernel_rfl
 t55:=Tryz.underlying251
 a55:=Tryz.isAgg251
 z55:=Tryz.sizeOf251
 v55:=Tryz.zeroValue251
 i55:=by kernel_rfl
 t59:=Tryz.underlying255
 a59:=Tryz.isAgg255
 z59:=Tryz.sizeOf255
 v59:=Tryz.zeroValue255
 i59:=by kernel_rfl
 t60:=Tryz.underlying219
 a60:=Tryz.isAgg219
 z60:=Tryz.sizeOf219
 v60:=Tryz.zeroValue219
 i60:=by kernel_rfl
 t61:=Tryz.underlying256
 a61:=Tryz.isAgg256
 z61:=Tryz.sizeOf256
 t65:=Tryz.underlying257
 a65:=Tryz.isAgg257
 z65:=Tryz.sizeOf257
 v65:=Tryz.zeroValue257
 i65:=by kernel_rfl
 t66:=Tryz.underlying258
 a66:=Tryz.isAgg258
 z66:=Tryz.sizeOf258
 v66:=Tryz.zeroValue258
 i66:=by kernel_rfl
 t67:=Tryz.underlying36
 a67:=Tryz.isAgg36
 z67:=Tryz.sizeOf36
 v67:=Tryz.zeroValue36
 i67:=by kernel_rfl
 g0:=by kernel_rfl
 m0:=by kernel_rfl
 g1:=by kernel_rfl
 m1:=by kernel_rfl
 g2:=by kernel_rfl
 m2:=by kernel_rfl
 g3:=by kernel_rfl
 m3:=by kernel_rfl
 g4:=by kernel_rfl
 m4:=by kernel_rfl}
open Go.RowKit in
theorem Tryz.strconv_ParseUint_10_at64_ok(s:ByteArray)(hmax:s.size<=9223372036854775806)(u:Nat)(h:Lib.parseUintB 64 s.data.toList=.ok u)(w:World):
  Calls Tryz.prog 194 #[.string s,.int .i64 10,.int .i64 64] w fun e w'=>e=.returned (.tuple #[.int .u64 u,.nilIface])/\(w'=w\/w'=Lib.bytesWorld w 5 s):=Any.strconv_ParseUint_10_at64_ok Tryz.laysPu14 s hmax u h w
open Go.RowKit in
theorem Tryz.strconv_ParseUint_10_at64_range(s:ByteArray)(hlim:s.size<=281474976710656)(h:Lib.parseUintB 64 s.data.toList=.range)(ev:Value)(w:World)(hv:w.cell? ⟨3,0,none⟩=some ev)(hev:ev=.nilIface\/∃te pe,ev=.iface te pe):
  Calls Tryz.prog 194 #[.string s,.int .i64 10,.int .i64 64] w fun e w'=>∃N,e=.returned (.tuple #[.int .u64 18446744073709551615,.iface 233 (.pointer (some ⟨N,0,none⟩))])/\w.heap.size<=N/\w'.heap[N]? =some (.cells #[.string ⟨#[80,97,114,115,101,85,105,110,116]⟩,.string s,ev] 241 (0,0))/\Below w.heap.size w w':=Any.strconv_ParseUint_10_at64_range Tryz.laysPu14 s hlim h ev w hv hev
def Tryz.laysSlF06_f96_ren:Go.Shelf.Ren:=⟨fun|6=>96|15=>191|14=>190|28=>218|29=>219|20=>210|21=>211|22=>212|23=>213|24=>214|25=>215|26=>216|27=>217|46=>225|47=>226|48=>227|49=>228|50=>229|57=>237|n=>n,fun|22=>42|24=>25|25=>52|3=>3|39=>180|0=>0|53=>219|55=>115|4=>4|46=>213|45=>212|50=>117|5=>5|9=>9|66=>225|70=>229|76=>236|77=>237|n=>n,fun|n=>n⟩
theorem Tryz.laysSlF06_f96:Go.Proofs.SlLaysF0.n6 Tryz.prog Tryz.laysSlF06_f96_ren:={
 mixed:=by kernel_rfl
 f6:=⟨Tryz.f96.name,by decide,Tryz.func96.trans (congrArg some (by kernel_rfl))⟩
 f14:=⟨Tryz.f190.name,by decide,Tryz.func190.trans (congrArg some (by kernel_rfl))⟩
 f15:=Tryz.func191.trans (congrArg some (by kernel_rfl))
 f20:=⟨Tryz.f210.name,by decide,Tryz.func210.trans (congrArg some (by kernel_rfl))⟩
 f21:=⟨Tryz.f211.name,by decide,Tryz.func211.trans (congrArg some (by kernel_rfl))⟩
 f22:=⟨Tryz.f212.name,by decide,Tryz.func212.trans (congrArg some (by kernel_rfl))⟩
 f23:=⟨Tryz.f213.name,by decide,Tryz.func213.trans (congrArg some (by kernel_rfl))⟩
 f24:=⟨Tryz.f214.name,by decide,Tryz.func214.trans (congrArg some (by kernel_rfl))⟩
 f25:=⟨Tryz.f215.name,by decide,Tryz.func215.trans (congrArg some (by kernel_rfl))⟩
 f26:=⟨Tryz.f216.name,by decide,Tryz.func216.trans (congrArg some (by kernel_rfl))⟩
 f27:=⟨Tryz.f217.name,by decide,Tryz.func217.trans (congrArg some (by kernel_rfl))⟩
 f28:=Tryz.func218.trans (congrArg some (by kernel_rfl))
 f29:=Tryz.func219.trans (congrArg some (by kernel_rfl))
 f46:=⟨Tryz.f225.name,by decide,Tryz.func225.trans (congrArg some (by kernel_rfl))⟩
 f47:=Tryz.func226.trans (congrArg some (by kernel_rfl))
 f48:=Tryz.func227.trans (congrArg some (by kernel_rfl))
 f49:=⟨Tryz.f228.name,by decide,Tryz.func228.trans (congrArg some (by kernel_rfl))⟩
 f50:=⟨Tryz.f229.name,by decide,Tryz.func229.trans (congrArg some (by kernel_rfl))⟩
 f57:=⟨Tryz.f237.name,by decide,Tryz.func237.trans (congrArg some (by kernel_rfl))⟩
 t0:=Tryz.underlying0
 a0:=Tryz.isAgg0
 z0:=Tryz.sizeOf0
 v0:=Tryz.zeroValue0
 t3:=Tryz.underlying3
 a3:=Tryz.isAgg3
 z3:=Tryz.sizeOf3
 v3:=Tryz.zeroValue3
 t4:=Tryz.underlying4
 a4:=Tryz.isAgg4
 z4:=Tryz.sizeOf4
 v4:=Tryz.zeroValue4
 t5:=Tryz.underlying5
 a5:=Tryz.isAgg5
 z5:=Tryz.sizeOf5
 v5:=Tryz.zeroValue5
 t9:=Tryz.underlying9
 a9:=Tryz.isAgg9
 z9:=Tryz.sizeOf9
 v9:=Tryz.zeroValue9
 t22:=Tryz.underlying42
 a22:=Tryz.isAgg42
 z22:=Tryz.sizeOf42
 v22:=Tryz.zeroValue42
 t25:=Tryz.underlying52
 a25:=Tryz.isAgg52
 z25:=Tryz.sizeOf52
 v25:=Tryz.zeroValue52
 t39:=Tryz.underlying180
 a39:=Tryz.isAgg180
 z39:=Tryz.sizeOf180
 v39:=Tryz.zeroValue180
 t45:=Tryz.underlying212
 a45:=Tryz.isAgg212
 z45:=Tryz.sizeOf212
 v45:=Tryz.zeroValue212
 t46:=Tryz.underlying213
 a46:=Tryz.isAgg213
 z46:=Tryz.sizeOf213
 v46:=Tryz.zeroValue213
 t50:=Tryz.underlying117
 a50:=Tryz.isAgg117
 z50:=Tryz.sizeOf117
 v50:=Tryz.zeroValue117
 t53:=Tryz.underlying219
 a53:=Tryz.isAgg219
 z53:=Tryz.sizeOf219
 v53:=Tryz.zeroValue219
 t55:=Tryz.underlying115
 a55:=Tryz.isAgg115
 z55:=Tryz.sizeOf115
 v55:=Tryz.zeroValue115
 t66:=Tryz.underlying225
 a66:=Tryz.isAgg225
 z66:=Tryz.sizeOf225
 v66:=Tryz.zeroValue225
 t70:=Tryz.underlying229
 a70:=Tryz.isAgg229
 z70:=Tryz.sizeOf229
 v70:=Tryz.zeroValue229
 t76:=Tryz.underlying236
 a76:=Tryz.isAgg236
 z76:=Tryz.sizeOf236
 v76:=Tryz.zeroValue236
 t77:=Tryz.underlying237
 a77:=Tryz.isAgg237
 z77:=Tryz.sizeOf237
 v77:=Tryz.zeroValue237}
open Go.RowKit Go.Lib Go.Sort in
theorem Tryz.slices_SortFunc{α:Type}[Inhabited α](k:Nat)(aE:∀w,(isAgg 25).run Tryz.prog w=.ok true w)(zE:∀w,(Go.sizeOf 25).run Tryz.prog w=.ok k w)(enc:α->List Value)(hk:∀x,(enc x).length=k)(h1:∀x,∀v∈enc x,v.oneCell'=true)(cf:α->α->Int)(hO:SWO (ltOf cf))(g:Nat)(cb:Array Value)(blk off cap:Nat)(d:Array α)(w:World)(eg:∀args w,(callFunc g args).run Tryz.prog w=.ok (.enter g args) w)(hcmp:CmpLays Tryz.prog g cb enc k cf blk off d.size w)(hH:HoldsK enc k w blk off d)(hblk:blk<w.heap.size)(hsz:d.size<4611686018427387904):
  Calls Tryz.prog 96 #[.slice (some ⟨blk,off,none⟩) d.size cap,.func (.func g) #[] cb] w fun e w'=>
   e=.returned (.tuple #[])/\∃d' n os,PermIn 0 d.size d d'/\SortedIn (ltOf cf) 0 d.size d'/\w'=sortWorldK enc k w blk off n d' os:=AnyQ.slices_SortFunc Tryz.laysSlF06_f96 k aE zE enc hk h1 cf hO g cb blk off cap d w eg hcmp hH hblk hsz
open Go.RowKit Go.Lib Go.Sort in
theorem Tryz.slices_SortFunc_none{α:Type}[Inhabited α](p:Option Addr)(cap:Nat)(fv:Value)(w:World):
  Calls Tryz.prog 96 #[.slice p 0 cap,fv] w fun e w'=>e=.returned (.tuple #[])/\w'=w:=AnyF.slices_SortFunc_none Tryz.laysSlF06_f96 p cap fv w
end Go.Proofs
namespace Go.Proofs.YtlhkfkecoekoeaaGreatDoor
open Go Go.Vc
open Go.Sort in
theorem AaD{w w':World}(h:St w (fun k=>w.heap[k]?) [] w'):∃q os',w'=Sort.grow (w.drewN q) os':=by
 refine⟨w'.drawn-w.drawn,w'.heap.extract w.heap.size w'.heap.size,?_⟩
 have hh:w'.heap=w.heap++w'.heap.extract w.heap.size w'.heap.size:=by
  apply Array.ext_getElem?
  intro k
  rw[Array.getElem?_append]
  split
  ·rename_i hk
   have:=h.fits k w.heap[k] (by simp[hk])
   rw[this];simp[hk]
  ·rename_i hk
   rw[Array.getElem?_extract]
   have hs:=h.size
   split
   ·congr 1;omega
   ·rw[Array.getElem?_eq_none];omega
 have h1:=h.os;have h2:=h.tape;have h3:=h.output;have h4:=h.ahead
 cases w';cases w
 simp only[Sort.grow,World.drewN] at*
 subst h1 h2 h3
 congr 1
 omega
theorem MV{H:View}{S:Val->Prop}:∀{xs:List Val}{cs:List Value},cV.reps H cs xs->(∀x∈xs,S x)->∃l:List {p:Value×Val//IsW H p.1 p.2/\S p.2},l.map (·.1.1)=cs/\l.map (·.1.2)=xs
 |[],cs,h,_=>⟨[],by rw[show cs=[] from h];rfl,rfl⟩
 |x::xs,cs,h,hs=>by
  obtain⟨a,b,e,h1,h2⟩:=h
  obtain⟨u,rfl,hu⟩:=Aw h1
  obtain⟨l,l1,l2⟩:=MV h2 fun y hy=>hs y (by simp[hy])
  exact⟨⟨(u,x),hu,hs x (by simp)⟩::l,by simp[l1,e],by simp[l2]⟩
theorem Un{H:View}{S:Val->Prop}(l:List {p:Value×Val//IsW H p.1 p.2/\S p.2}):cV.reps H (l.map (·.1.1)) (l.map (·.1.2)):=by
 induction l with
 |nil=>exact rfl
 |cons a l ih=>exact⟨[a.1.1],l.map (·.1.1),rfl,BZ a.2.1,ih⟩
theorem Adw{w0:World}{H:View}{L:Ar}{w:World}{v:Value}{dst:List UInt8}{fp:Ar}{u:Nat}(h_3:OwnSl H cB8 5 v dst fp)(hu:u<=18446744073709551615)(hN:GlobN w0 H)(hS:St w0 H (fp++L) w)(hl:dst.length+20<=1000000000):
  Calls Tryz.prog 282 #[v,.int .u64 u,.int .i64 10] w fun e w'=>∃v1 fp1,e=.returned v1/\OwnSl H cB8 5 v1 (dst++Lib.decDigits u) fp1/\St w0 H (fp1++L) w':=by
 refine enter Tryz.func282 rfl Tryz.ntmps282 rfl (Av (d:=0) (v:=v) rfl (Av (d:=1) (v:=.int .u64 u) rfl (Av (d:=2) (v:=.int .i64 10) rfl (BR _)))) (WC.sr (WL.ma rfl rfl (WL.nx (WC.seq (WC.sr (WL.mv rfl rfl (WL.run hS rfl rfl rfl (XX rfl rfl) (WL.nx ?_))))))))
 refine WC.cond rfl ?_ (fun hn=>by simp at hn)
 intro _
 refine WC.seq (WC.sr (WL.mv rfl rfl (WL.run hS rfl rfl rfl (JE rfl rfl) (WL.nx ?_))))
 have hlen:(Lib.decDigits u).length<=20:=by
  rw[Lib.decDigits_length]
  by_cases h0:u=0
  ·subst h0;rw[Lib.nDigits_small (by omega)];omega
  ·have:=Lib.numDigits_eq u (by omega) (by omega);split at this<;>omega
 refine WC.cond rfl ?_ ?_
 ·intro hc
  have hc:u<100:=by have:=of_decide_eq_true hc;omega
  refine WC.sr (WL.mv rfl rfl (WL.mv rfl rfl (WL.run hS rfl rfl rfl (Mh Tryz.underlying115 Tryz.underlying3 rfl) ?_)))
  have hw:IntKind.i64.wrap (u:Int)=u:=IntWalk.i64_in _ ⟨by omega,by omega⟩
  rw[hw]
  refine WL.call rfl rfl rfl (Bf (vs:=[.int .i64 u]) (f:=244) (fun _ _=>by kernel_rfl) ⟨rfl,trivial⟩) (Tryz.internal_strconv_small u hc _) ?_
  rintro _ w⟨rfl,rfl⟩
  refine⟨_,rfl,?_⟩
  refine WL.appends (xs:=dst) (s:=Lib.decDigits u) rfl Tryz.underlying71 Tryz.underlying9 Tryz.info5 rfl rfl rfl hS h_3 (by omega) (by unfold maxLen;omega) ?_
  clear hS
  intro v_18 w fp_19 h_20 hS
  refine WL.ma rfl rfl (WL.nx (WC.ret (WQ.pass nofun (WQ.pass nofun ?_))))
  exact Lj rfl rfl ⟨v_18,fp_19,rfl,h_20,hS⟩
 ·intro hc
  have hc:100<=u:=by have:=of_decide_eq_false hc;omega
  refine WC.skip (WQ.next ?_)
  have hnd:Lib.nDigits u<=20:=by rw[Lib.decDigits_length] at hlen;exact hlen
  have hpos:=Lib.nDigits_pos u
  have htab:Lib.TabIs Tryz.prog w "internal/strconv.uint64pow10" .u64 Lib.pow10Tab:=by
   obtain⟨_,⟨T,fz,h2⟩,_⟩:=hN
   have h3:=hS.fits _ _ h2
   have hg:Tryz.prog.globalNamed "internal/strconv.uint64pow10"=some 4:=by kernel_rfl
   unfold Lib.TabIs World.var?
   rw[hg]
   simp only[Option.bind_some,h3]
  have hal:Tryz.prog.arrayLen 249=24:=by kernel_rfl
  have hsl:∀W,(Instr.sliceAt 249 (.pointer (some ⟨w.heap.size,0,none⟩)) none (some (.int .i64 (Lib.nDigits u:Int))) none).run Tryz.prog W=.ok (.slice (some ⟨w.heap.size,0,none⟩) (Lib.nDigits u) 24) W:=fun W=>by
   have hel:Tryz.prog.elem 249=5:=by kernel_rfl
   have hs5:(sizeOf 5).run Tryz.prog W=.ok 1 W:=by kernel_rfl
   rw[run_sliceAt_array_h W 249 ⟨w.heap.size,0,none⟩ (by rw[hal,hel];exact Tryz.underlying249) .i64 (Lib.nDigits u:Int) (by omega) (by rw[hal];omega),hel,hs5,hal]
   simp[Result.andThen,slicedAt,Addr.add_lit]
  refine WC.sr ?_
  have hz:∀w,(zeroValue 249).run Tryz.prog w=.ok (.agg Lib.zeros24) w:=fun w=>by kernel_rfl
  refine WL.turn (v:=.pointer (some ⟨w.heap.size,0,none⟩)) (w':=w.alloc (.cells Lib.zeros24 249)) rfl rfl rfl (fun a ha=>by simp[execOp,Instr.alloc,hz,newVar,newRow];rfl) (WL.nx ?_)
  have hS1:St w0 H (fp++L) (w.alloc (.cells Lib.zeros24 249)):=hS.of_below ⟨rfl,rfl,rfl,by simp,fun k hk=>heap_alloc_old w _ hk⟩ hS.ahead
  refine WC.sr (WL.mv rfl rfl (WL.call rfl rfl rfl (Bf (vs:=[.int .u64 u]) (f:=245) (fun _ _=>by kernel_rfl) ⟨rfl,trivial⟩) (Tryz.internal_strconv_numDigits u (by omega) (by omega) _ (Lib.tabIs_alloc htab _)) ?_))
  rintro _ _⟨rfl,rfl⟩
  refine⟨_,rfl,?_⟩
  refine WL.ma rfl rfl (WL.nx (WC.sr (WL.mv rfl rfl ?_)))
  refine WL.run hS1 rfl rfl rfl (v:=.slice (some ⟨w.heap.size,0,none⟩) (Lib.nDigits u) 24) (fun W _ a ha=>by
   have e1:a.eval (.tmp 7)=.pointer (some ⟨w.heap.size,0,none⟩):=ha.eval rfl
   have e2:a.eval (.tmp 20)=.int .i64 (Lib.nDigits u:Int):=ha.eval rfl
   simp[execOp,e1,e2,hsl]) ?_
  refine WL.mv rfl rfl ?_
  have hH0:=Lib.holds_zero0 w 249 (Lib.nDigits u) (by omega)
  have hfmt:=Tryz.internal_strconv_formatBase10 w.heap.size 0 24 u (Array.replicate (Lib.nDigits u) 0) (w.alloc (.cells Lib.zeros24 249)) hH0 (by rw[Array.size_replicate];exact Lib.lt_pow_nDigits u) (by omega) (by rw[Array.size_replicate];omega)
  rw[Array.size_replicate] at hfmt
  refine WL.call rfl rfl rfl (Bf (vs:=[.slice (some ⟨w.heap.size,0,none⟩) (Lib.nDigits u) 24,.int .u64 u]) (f:=246) (fun _ _=>by kernel_rfl) ⟨rfl,rfl,trivial⟩) hfmt ?_
  rintro _ _⟨rfl,k,v',dk,rfl,hF⟩
  refine⟨_,rfl,?_⟩
  refine WL.nx ?_
  have hcells:∀j u',(Lib.byteCells (Lib.decDigits u))[j]? =some u'->((Sort.putRow (fun(b:UInt8)=>Value.int .u8 (b.toNat:Int)) (w.alloc (.cells Lib.zeros24 249)) w.heap.size 0 dk).drewN k).cell? ((⟨w.heap.size,0,none⟩:Addr).add j)=some u':=by
   intro j u' hj
   have hjl:j<(Lib.decDigits u).length:=by
    have h5:=(List.getElem?_eq_some_iff.1 hj).1
    rwa [Lib.byteCells_length] at h5
   have e5:(Lib.byteCells (Lib.decDigits u))[j]? =some (Value.int .u8 ((Lib.decDigits u)[j].toNat:Int)):=by simp[Lib.byteCells,hjl]
   rw[e5] at hj
   cases hj
   rw[Lib.row_is_numeral hF j hjl,Lib.add_plain,World.cell?_drewN]
   exact Sort.cell?_putRow (fun(b:UInt8)=>Value.int .u8 (b.toNat:Int)) _ w.heap.size 0 _ dk hH0 (by rw[hF.size,Array.size_replicate]) j (by rw[hF.size];rw[Lib.decDigits_length] at hjl;exact hjl)
  obtain⟨os,eo⟩:=Lib.fin_at w (.cells Lib.zeros24 249) dk k 0
  have hS2:St w0 H (fp++L) ((Sort.putRow (fun(b:UInt8)=>Value.int .u8 (b.toNat:Int)) (w.alloc (.cells Lib.zeros24 249)) w.heap.size 0 dk).drewN k):=by
   rw[eo];exact hS.of_below (Lib.below_grow w.heap.size w (Nat.le_refl _) k os) (Nat.le_trans hS.ahead (Nat.le_add_right _ _))
  generalize(Sort.putRow (fun(b:UInt8)=>Value.int .u8 (b.toNat:Int)) (w.alloc (.cells Lib.zeros24 249)) w.heap.size 0 dk).drewN k=W2 at hcells hS2 ⊢
  have hbc:Lib.byteCells (Lib.decDigits u)=Lib.strCells ⟨(Lib.decDigits u).toArray⟩:=by simp[Lib.byteCells,Lib.strCells]
  have hsrc:ZK cB8 H Tryz.prog W2 (.slice (some ⟨w.heap.size,0,none⟩) (Lib.nDigits u) 24) (Lib.decDigits u):=
   .inr ⟨⟨w.heap.size,0,none⟩,_,24,Lib.byteCells (Lib.decDigits u),by rw[Lib.decDigits_length],rfl,by rw[Lib.decDigits_length];omega,by rw[hbc];exact reps_b8.2 rfl,hcells⟩
  refine WC.sr (WL.mv rfl rfl (WL.mv rfl rfl ?_))
  refine WL.run hS2 rfl rfl rfl (v:=.slice (some ⟨w.heap.size,0,none⟩) (Lib.nDigits u) 24) (fun W _ a ha=>by
   have e1:a.eval (.tmp 7)=.pointer (some ⟨w.heap.size,0,none⟩):=ha.eval rfl
   have e2:a.eval (.tmp 25)=.int .i64 (Lib.nDigits u:Int):=ha.eval rfl
   simp[execOp,e1,e2,hsl]) ?_
  refine WL.append (c:=cB8) (xs:=dst) (ys:=Lib.decDigits u) rfl Tryz.underlying71 Tryz.info5 rfl rfl rfl hS2 h_3 hsrc (by omega) (by unfold maxLen;omega) ?_
  intro v_18 w fp_19 h_20 hS
  refine WL.ma rfl rfl (WL.nx (WC.ret (WQ.pass nofun ?_)))
  exact Lj rfl rfl ⟨v_18,fp_19,rfl,h_20,hS⟩
theorem Xg{w0:World}{H:View}{L:Ar}{w:World}{v_2:Value}{dst_1:List UInt8}{fp_4:Ar}{u_6:Int}{base_8:Int}{Q:(List UInt8)->Prop}(h_3:OwnSl H cB8 5 v_2 dst_1 fp_4)(hr_7:IntKind.u64.has u_6)(hr_9:I64 base_8)(hN:GlobN w0 H)(hS:St w0 H (fp_4++L) w)(hV:Pt dst_1 u_6 base_8 Q):
  Calls Tryz.prog 282 #[v_2,.int .u64 u_6,.int .i64 base_8] w fun e w'=>∃(r1:List UInt8)(v1:Value)(fp1:Ar),Q r1/\e=.returned (v1)/\OwnSl H cB8 5 v1 r1 fp1/\St w0 H (fp1++L) w':=by
 obtain⟨rfl,hl,hQ⟩:=hV
 have hu:=KG hr_7
 have e:(u_6.toNat:Int)=u_6:=by omega
 have:=Adw (u:=u_6.toNat) h_3 (by omega) hN hS hl
 rw[e] at this
 refine this.mono ?_
 rintro e w'⟨v1,fp1,rfl,h1,h2⟩
 exact⟨_,v1,fp1,hQ,rfl,h1,h2⟩
theorem SF{w0:World}{H:View}{L:Ar}{w:World}{s_1:Aa}{c_2:Int}{Q:Int->Prop}(hr_3:IntKind.u8.has c_2)(hS:St w0 H (L) w)(hV:LV s_1 c_2 Q):
  Calls Tryz.prog 67 #[sv s_1,.int .u8 c_2] w fun e w'=>∃(r1:Int),Q r1/\e=.returned (.int .i64 r1)/\I64 r1/\St w0 H (L) w':=by
 refine(Tryz.strings_IndexByte ⟨s_1.toArray⟩ c_2 w).mono ?_
 rintro e w'⟨rfl,rfl⟩
 have hle:∀(l:List UInt8)(c:UInt8),Lib.indexByte l c<=l.length:=by
  intro l c
  induction l with
  |nil=>show(-1:Int)<=0;decide
  |cons x l ih=>simp only[Lib.indexByte,List.length_cons];split<;>(try split)<;>omega
 have h1:=Lib.indexByte_ge s_1 c_2.toNat.toUInt8
 have h2:=hle s_1 c_2.toNat.toUInt8
 exact⟨_,hV.2,rfl,⟨by omega,by have:=hV.1;omega⟩,hS⟩
theorem SQ(w:World)(e:TypeId)(s:ByteArray):Go.RowKit.Below w.heap.size w (Lib.bytesWorld w e s)/\(Lib.bytesWorld w e s).drawn=w.drawn+1:=by
 unfold Lib.bytesWorld World.freeze
 split
 ·rename_i h;cases h
 ·exact⟨⟨rfl,rfl,rfl,by simp,fun k hk=>by
   simp only[Array.getElem?_modify]
   rw[if_neg (by omega)]
   exact heap_alloc_old w.drew _ hk⟩,rfl⟩
theorem TN{w0:World}{H:View}{L:Ar}{w:World}{s_1:Aa}{base_2:Int}{bitSize_4:Int}{Q:Int->Bool->Prop}(hr_3:I64 base_2)(hr_5:I64 bitSize_4)(hN:GlobN w0 H)(hS:St w0 H (L) w)(hV:LP s_1 base_2 bitSize_4 Q):
  Calls Tryz.prog 194 #[sv s_1,.int .i64 base_2,.int .i64 bitSize_4] w fun e w'=>∃(r1:Int)(r2:Bool)(u2:Value),Q r1 r2/\e=.returned (.tuple #[.int .u64 r1,u2])/\IntKind.u64.has r1/\Aav u2 r2/\St w0 H (L) w':=by
 obtain⟨rfl,rfl,hl,hV⟩:=hV
 have hsz:(⟨s_1.toArray⟩:ByteArray).size=s_1.length:=rfl
 cases hp:Lib.parseUintB 64 s_1 with
 |ok u=>
  rw[hp] at hV
  have hu:u<=18446744073709551615:=by
   have hm:∀(l:List UInt8)(M acc u:Nat),acc<=M->Lib.parseUintM M acc l=.ok u->u<=M:=by
    intro l
    induction l with
    |nil=>intro M acc u ha h;simp only[Lib.parseUintM] at h;cases h;exact ha
    |cons c l ih=>
     intro M acc u ha h
     simp only[Lib.parseUintM] at h
     split at h
     ·split at h
      ·cases h
      ·split at h
       ·cases h
       ·exact ih M _ u (by omega) h
     ·cases h
   unfold Lib.parseUintB at hp
   split at hp
   ·cases hp
   ·exact hm _ _ 0 u (by omega) hp
  refine(Tryz.strconv_ParseUint_10_at64_ok ⟨s_1.toArray⟩ (by rw[hsz];omega) u hp w).mono ?_
  rintro e w'⟨rfl,hw⟩
  refine⟨u,true,.nilIface,hV,rfl,IV ⟨by omega,by omega⟩,.inl ⟨rfl,rfl⟩,?_⟩
  rcases hw with rfl|rfl
  ·exact hS
  ·have hb:=SQ w 5 ⟨s_1.toArray⟩
   exact hS.of_below hb.1 (by rw[hb.2];have:=hS.ahead;omega)
 |range=>
  rw[hp] at hV
  obtain⟨h0,_,arr,T,fz,t,v,g1,g2⟩:=hN
  have hv:w.cell? ⟨3,0,none⟩=some (.iface t v):=by
   simp only[World.cell?,hS.fits _ _ g1];simpa using g2
  refine(Tryz.strconv_ParseUint_10_at64_range ⟨s_1.toArray⟩ (by rw[hsz];omega) hp _ w hv (.inr ⟨_,_,rfl⟩)).mono ?_
  rintro e w'⟨N,rfl,_,_,hb⟩
  exact⟨_,false,_,hV,rfl,IV ⟨by omega,by omega⟩,.inr ⟨rfl,_,_,rfl⟩,hS.of_below hb (by rw[h0];exact Nat.zero_le _)⟩
 |_=>rw[hp] at hV;exact hV.elim
end Go.Proofs.YtlhkfkecoekoeaaGreatDoor
namespace Go.Proofs.YtlhkfkecoekoeaaGreatDoor
open Go Go.Vc
theorem Abg(w:World):(Op.equal 23 .nilIface (.iface 86 (.bool true))).run Tryz.prog w=.ok false w:=by kernel_rfl
theorem AdP(b:Bool)(w:World):(Op.equal 23 (.iface 86 (.bool b)) (.iface 86 (.bool true))).run Tryz.prog w=.ok b w:=by cases b<;>kernel_rfl
theorem AdX(v:Value)(w:World):(Op.equal 23 (.iface 87 v) (.iface 86 (.bool true))).run Tryz.prog w=.ok false w:=by kernel_rfl
theorem AdT(v:Value)(w:World):(Op.equal 23 (.iface 89 v) (.iface 86 (.bool true))).run Tryz.prog w=.ok false w:=by kernel_rfl
theorem AdV(v:Value)(w:World):(Op.equal 23 (.iface 91 v) (.iface 86 (.bool true))).run Tryz.prog w=.ok false w:=by kernel_rfl
theorem AdK(v:Value)(w:World):(Op.equal 23 (.iface 93 v) (.iface 86 (.bool true))).run Tryz.prog w=.ok false w:=by kernel_rfl
theorem AdI(v:Value)(w:World):(Op.equal 23 (.iface 97 v) (.iface 86 (.bool true))).run Tryz.prog w=.ok false w:=by kernel_rfl
theorem Xl{n:Nat}{l:List (Nat×Value)}{C:World->Prop}{dst:Option Tmp}{ty:TypeId}{pos:String}{af:Array Edge}{gd:Option (Nat×Bool)}{H:View}{t':TypeId}{x y:Operand}{v:Value}{z:Val}
  (hx:AF l x=some v)(hy:AF l y=some (.iface 86 (.bool true)))(hz:IsW H v z):Exv Tryz.prog n l C ⟨dst,.binOp .eql 23 x y t',ty,pos,af,gd⟩ (.bool z.isTrue):=by
 refine JJ hx hy (fun w=>?_) fun w=>?_
 ·cases z with
  |nil=>rw[show v=_ from hz];simp[eqGuard]
  |truth b=>rw[show v=_ from hz];simp[eqGuard]
  |num n=>rw[hz.1];simp[eqGuard]
  |text s=>rw[show v=_ from hz];simp[eqGuard]
  |atom s=>rw[show v=_ from hz];simp[eqGuard]
  |set l h=>obtain⟨b,u,fz,rfl,_⟩:=hz;simp[eqGuard]
  |fn k v' h=>obtain⟨b,u,u',fz,rfl,_⟩:=hz;simp[eqGuard]
 ·cases z with
  |nil=>rw[show v=_ from hz];simp only[binOp];simp[Abg,Val.isTrue]
  |truth b=>rw[show v=_ from hz];simp only[binOp];simp[AdP,Val.isTrue]
  |num n=>rw[hz.1];simp only[binOp];simp[AdX,Val.isTrue]
  |text s=>rw[show v=_ from hz];simp only[binOp];simp[AdT,Val.isTrue]
  |atom s=>rw[show v=_ from hz];simp only[binOp];simp[AdV,Val.isTrue]
  |set l h=>obtain⟨b,u,fz,rfl,_⟩:=hz;simp only[binOp];simp[AdK,Val.isTrue]
  |fn k v' h=>obtain⟨b,u,u',fz,rfl,_⟩:=hz;simp only[binOp];simp[AdI,Val.isTrue]
end Go.Proofs.YtlhkfkecoekoeaaGreatDoor
namespace Go.Proofs.YtlhkfkecoekoeaaGreatDoor
open Go.Vc _root_.Go.Proofs.Tryz _root_.Go.Proofs.YtlhkfkecoekoeaaGreatDoor.Tryz
section
variable{P:Go.Program}{Q:Go.Exit->Go.Act->Go.World->Prop}{n:Nat}{l:List (Nat×Go.Value)}{w:Go.World}{ops:Array Go.Oper}{rest:List Go.Oper}{ty:Go.TypeId}{pos:String}{af:Array Go.Edge}
theorem zo{k:Nat}(h:WQ Q .ret n l w):WQ (Go.Exit.inBlock k Q) .ret n l w:=WQ.out nofun h
theorem zn{k:Nat}(h:WQ Q .normal n l w):WQ (Go.Exit.inBlock k Q) .normal n l w:=WQ.out nofun h
theorem zr{K:Go.Act->Go.World->Prop}(h:WQ Q .ret n l w):WQ (Go.Exit.then K Q) .ret n l w:=WQ.pass nofun h
theorem ze{K:Go.Act->Go.World->Prop}{j:Nat}(h:WQ Q (.exit j) n l w):WQ (Go.Exit.then K Q) (.exit j) n l w:=WQ.pass nofun h
structure Wr(A:Prop):Prop where
 v:A
theorem zz{A G:Prop}(k:A)(h:Wr A->G:=by
 intro k
 repeat (first|with_reducible refine WL.nx ?_|with_reducible refine WL.nil ?_|with_reducible refine WC.sr ?_|with_reducible refine WC.seq ?_|with_reducible refine WC.region ?_|with_reducible refine WC.block ?_|with_reducible refine WC.skip ?_|with_reducible refine WQ.next ?_|with_reducible refine WC.ret ?_|with_reducible refine WC.exit ?_|with_reducible refine WQ.hit ?_|with_reducible refine zo ?_|with_reducible refine zn ?_|with_reducible refine zr ?_|with_reducible refine ze ?_|refine R hS ?_)
 exact k.v):G:=h ⟨k⟩
theorem z{A G:Prop}(k:A)(h:Wr A->G:=by
 intro k
 first|with_reducible refine WL.nx ?_|with_reducible refine WL.nil ?_|with_reducible refine WC.sr ?_|with_reducible refine WC.seq ?_|with_reducible refine WC.region ?_|with_reducible refine WC.block ?_|with_reducible refine WC.skip ?_|with_reducible refine WQ.next ?_|with_reducible refine WC.ret ?_|with_reducible refine WC.exit ?_|with_reducible refine WQ.hit ?_|with_reducible refine zo ?_|with_reducible refine zn ?_|with_reducible refine zr ?_|with_reducible refine ze ?_|refine R hS ?_
 exact k.v):G:=h ⟨k⟩
theorem Ce{p A B:Prop}[Decidable p]{c:Go.Operand}{x y:Go.Code}(hV:(p->A)/\(¬p->B))(h1:decide p=true->A->WC P Q n l x w)(h2:decide p=false->B->WC P Q n l y w)(hc:AF l c=some (.bool (decide p)):=by exact rfl):WC P Q n l (.cond c x y) w:=
 WC.cond hc (fun h=>h1 h (hV.1 (od h))) fun h=>h2 h (hV.2 (ov h))
theorem Cf{b:Bool}{A B:Prop}{c:Go.Operand}{x y:Go.Code}(hV:(b=true->A)/\(b=false->B))(h1:b=true->A->WC P Q n l x w)(h2:b=false->B->WC P Q n l y w)(hc:AF l c=some (.bool b):=by exact rfl):WC P Q n l (.cond c x y) w:=
 WC.cond hc (fun h=>h1 h (hV.1 h)) fun h=>h2 h (hV.2 h)
theorem BW{a0:Go.Value}{f:Go.FuncId}{fn:Go.Func}{c:Go.Code}{R:Go.Ending->Go.World->Prop}(hf:P.funcs[f]? =some fn)(hn:fn.ntmps=n)(h:WC P (bodyPost P fn R) n [(0,a0)] c w)(hb:fn.body=some c:=by exact rfl)(hs:Nat.ble 1 n=true:=by exact rfl):Calls P f #[a0] w R:=enter hf hb hn hs (Av (d:=0) (v:=a0) rfl (BR _)) h
theorem Co{a0 a1:Go.Value}{f:Go.FuncId}{fn:Go.Func}{c:Go.Code}{R:Go.Ending->Go.World->Prop}(hf:P.funcs[f]? =some fn)(hn:fn.ntmps=n)(h:WC P (bodyPost P fn R) n [(0,a0),(1,a1)] c w)(hb:fn.body=some c:=by exact rfl)(hs:Nat.ble 2 n=true:=by exact rfl):Calls P f #[a0,a1] w R:=enter hf hb hn hs (Av (d:=0) (v:=a0) rfl (Av (d:=1) (v:=a1) rfl (BR _))) h
theorem Li{a0 a1 a2:Go.Value}{f:Go.FuncId}{fn:Go.Func}{c:Go.Code}{R:Go.Ending->Go.World->Prop}(hf:P.funcs[f]? =some fn)(hn:fn.ntmps=n)(h:WC P (bodyPost P fn R) n [(0,a0),(1,a1),(2,a2)] c w)(hb:fn.body=some c:=by exact rfl)(hs:Nat.ble 3 n=true:=by exact rfl):Calls P f #[a0,a1,a2] w R:=enter hf hb hn hs (Av (d:=0) (v:=a0) rfl (Av (d:=1) (v:=a1) rfl (Av (d:=2) (v:=a2) rfl (BR _)))) h
theorem En4{a0 a1 a2 a3:Go.Value}{f:Go.FuncId}{fn:Go.Func}{c:Go.Code}{R:Go.Ending->Go.World->Prop}(hf:P.funcs[f]? =some fn)(hn:fn.ntmps=n)(h:WC P (bodyPost P fn R) n [(0,a0),(1,a1),(2,a2),(3,a3)] c w)(hb:fn.body=some c:=by exact rfl)(hs:Nat.ble 4 n=true:=by exact rfl):Calls P f #[a0,a1,a2,a3] w R:=enter hf hb hn hs (Av (d:=0) (v:=a0) rfl (Av (d:=1) (v:=a1) rfl (Av (d:=2) (v:=a2) rfl (Av (d:=3) (v:=a3) rfl (BR _))))) h
theorem En5{a0 a1 a2 a3 a4:Go.Value}{f:Go.FuncId}{fn:Go.Func}{c:Go.Code}{R:Go.Ending->Go.World->Prop}(hf:P.funcs[f]? =some fn)(hn:fn.ntmps=n)(h:WC P (bodyPost P fn R) n [(0,a0),(1,a1),(2,a2),(3,a3),(4,a4)] c w)(hb:fn.body=some c:=by exact rfl)(hs:Nat.ble 5 n=true:=by exact rfl):Calls P f #[a0,a1,a2,a3,a4] w R:=enter hf hb hn hs (Av (d:=0) (v:=a0) rfl (Av (d:=1) (v:=a1) rfl (Av (d:=2) (v:=a2) rfl (Av (d:=3) (v:=a3) rfl (Av (d:=4) (v:=a4) rfl (BR _)))))) h
theorem En6{a0 a1 a2 a3 a4 a5:Go.Value}{f:Go.FuncId}{fn:Go.Func}{c:Go.Code}{R:Go.Ending->Go.World->Prop}(hf:P.funcs[f]? =some fn)(hn:fn.ntmps=n)(h:WC P (bodyPost P fn R) n [(0,a0),(1,a1),(2,a2),(3,a3),(4,a4),(5,a5)] c w)(hb:fn.body=some c:=by exact rfl)(hs:Nat.ble 6 n=true:=by exact rfl):Calls P f #[a0,a1,a2,a3,a4,a5] w R:=enter hf hb hn hs (Av (d:=0) (v:=a0) rfl (Av (d:=1) (v:=a1) rfl (Av (d:=2) (v:=a2) rfl (Av (d:=3) (v:=a3) rfl (Av (d:=4) (v:=a4) rfl (Av (d:=5) (v:=a5) rfl (BR _))))))) h
end
section
variable{w0 w:World}{H:View}{L X M R:Ar}
def Sp(M X:Ar):Prop:=∃Y,X.Perm (M++Y)
theorem Sp.refl(X:Ar):Sp X X:=⟨[],by simp⟩
theorem Sp.perm(h:Sp M X){Z:Ar}(k:Z.Perm X):Sp M Z:=let⟨Y,hy⟩:=h;⟨Y,k.trans hy⟩
theorem Sp.k0(h:Sp M R):Sp (([]:Ar)++M) R:=h
theorem Sp.k1{s:Ar}(h:Sp M R):Sp (s++M) (s++R):=let⟨Y,hy⟩:=h;⟨Y,by rw[List.append_assoc];exact hy.append_left s⟩
theorem Sp.dr{a:Ar}(h:Sp M R):Sp M (a++R):=let⟨Y,hy⟩:=h;⟨a++Y,by
 refine(hy.append_left a).trans ?_
 rw[<-List.append_assoc,<-List.append_assoc];exact List.Perm.append_right _ List.perm_append_comm⟩
theorem pm{a s R:Ar}:(a++(s++R)).Perm (s++(a++R)):=by rw[<-List.append_assoc,<-List.append_assoc];exact List.Perm.append_right _ List.perm_append_comm
theorem Sp.k2{a s:Ar}(h:Sp M (a++R)):Sp (s++M) (a++(s++R)):=h.k1.perm pm
theorem Sp.k3{a b s:Ar}(h:Sp M (a++(b++R))):Sp (s++M) (a++(b++(s++R))):=h.k2.perm (pm.append_left a)
theorem Sp.k4{a b c s:Ar}(h:Sp M (a++(b++(c++R)))):Sp (s++M) (a++(b++(c++(s++R)))):=h.k3.perm ((pm.append_left b).append_left a)
theorem Sp.k5{a b c d s:Ar}(h:Sp M (a++(b++(c++(d++R))))):Sp (s++M) (a++(b++(c++(d++(s++R))))):=h.k4.perm (((pm.append_left c).append_left b).append_left a)
theorem Sp.k6{a b c d e s:Ar}(h:Sp M (a++(b++(c++(d++(e++R)))))):Sp (s++M) (a++(b++(c++(d++(e++(s++R)))))):=h.k5.perm ((((pm.append_left d).append_left c).append_left b).append_left a)
theorem Sp.k7{a b c d e f s:Ar}(h:Sp M (a++(b++(c++(d++(e++(f++R))))))):Sp (s++M) (a++(b++(c++(d++(e++(f++(s++R))))))):=h.k6.perm (((((pm.append_left e).append_left d).append_left c).append_left b).append_left a)
theorem St.sp(h:St w0 H X w)(k:Sp M X):St w0 H M w:=by
 obtain⟨Y,hy⟩:=k
 have:=h.perm (hy.trans List.perm_append_comm)
 exact this.drop
end
section
variable{P:Go.Program}{Q:Go.Exit->Go.Act->Go.World->Prop}{n:Nat}{l:List (Nat×Go.Value)}{w:Go.World}
theorem gLe{w0:Go.World}{H K:View}{X:Ar}{w:Go.World}(hS:St w0 K X w)(h:View.le H K):View.le H K:=h
theorem gP{p:Prop}(h:p):p:=h
theorem Lv{e:Go.Exit}{t:Go.Tmp}{T T':Go.TypeId}{b k:Nat}{cs:List Go.Value}{w0:Go.World}{H:View}{M X:Ar}{fn:Go.Func}{R:Go.Ending->Go.World->Prop}(he:e=.ret\/e=.normal)(hr:fn.results=#[.cell t T])(hv:lk l t=some (.pointer (some ⟨b,0,none⟩)))(hw:St w0 H X w)(hk:Sp ([(b,.cells cs.toArray T' (0,0))]++M) X)(hag:∀w,(Go.isAgg T).run P w=.ok true w)(hsz:∀w,(Go.sizeOf T).run P w=.ok k w)(hl:cs.length=k)
  (h:R (.returned (.agg cs.toArray)) w):WQ (bodyPost P fn R) e n l w:=AZ he hr hv (An hag hsz (St.sp hw hk) hl) h
end
theorem Zp{G:Prop}(h:G:=by
 (repeat (first|with_reducible exact Sp.refl _|with_reducible apply Sp.k0|with_reducible apply Sp.k1|with_reducible apply Sp.k2|with_reducible apply Sp.k3|with_reducible apply Sp.k4|with_reducible apply Sp.k5|with_reducible apply Sp.k6|with_reducible apply Sp.k7|with_reducible apply Sp.dr))):G:=h
theorem Zl{G:Prop}(h:G:=by
 (first|exact View.le.refl _|assumption|((with_reducible apply View.le.trans);rotate_left;(focus assumption);(first|exact View.le.refl _|assumption|((with_reducible apply View.le.trans);rotate_left;(focus assumption);(first|exact View.le.refl _|assumption|((with_reducible apply View.le.trans);rotate_left;(focus assumption);(first|exact View.le.refl _|assumption|((with_reducible apply View.le.trans);rotate_left;(focus assumption);(first|exact View.le.refl _|assumption|((with_reducible apply View.le.trans);rotate_left;(focus assumption);(first|exact View.le.refl _|assumption|((with_reducible apply View.le.trans);rotate_left;(focus assumption);(first|exact View.le.refl _|assumption|((with_reducible apply View.le.trans);rotate_left;(focus assumption);(first|exact View.le.refl _|assumption)))))))))))))))):G:=h
theorem Zs{G:Prop}(h:G:=by
 (with_reducible apply St.sp hS);exact Zp):G:=h
theorem Za{G:Prop}(h:G:=by
 first|assumption|((with_reducible apply IsSl.mono);(focus assumption);exact Zl)|((with_reducible apply OwnSl.mono);(focus assumption);exact Zl)|((with_reducible apply IsW.mono);(focus assumption);exact Zl)|((with_reducible apply IsPS.mono);(focus assumption);exact Zl)|((with_reducible apply IsPF.mono);(focus assumption);exact Zl)|((with_reducible apply IsPt.mono);(focus assumption);exact Zl)|apply IsSl.nil|apply OwnSl.nil|apply IsW.nil|apply IsW.truth|apply IsW.text|apply IsW.atom|(apply IsW.num;assumption)|exact i0|exact Ec _ _|(refine Acb ?_;assumption)|(refine IV ⟨?_,?_⟩<;>omega)|exact IJ|(refine Sj ?_ ?_<;>assumption)|(refine AaA ?_ ?_<;>assumption)|exact Ck _|(apply Len.i64;assumption)|(apply I64.num;assumption)|(apply I64.tmod;assumption)|(refine I64.min ?_ ?_<;>assumption)|(refine I64.max ?_ ?_<;>assumption)|(apply Len.i64;apply IsSl.bound;assumption)|(apply Len.i64;apply OwnSl.bound;assumption)|(unfold I64;first|omega|(simp only[RV.k,RV.i];omega))):G:=h
theorem y{G:Prop}(h:G:=by
 (try refine Wt ?_)
 intro a ha
 (repeat' first|with_reducible apply Exists.intro|with_reducible refine And.intro ?_ ?_)
 (try any_goals exact ha.os)
 (try any_goals(first|with_reducible exact rfl|exact hV|exact hV.1|exact hV.2))
 (try any_goals exact rfl)
 (try any_goals((with_reducible apply gLe hS);exact Zl))
 (try any_goals((with_reducible apply gP);exact Za))
 (try any_goals((with_reducible apply gP);exact Zs))
 (try any_goals((with_reducible apply gP);exact Za))
 done):G:=h
theorem vc{G:Prop}(h:G:=by
 (with_reducible apply Lv)
 (focus (first|exact il|exact .inr rfl))
 (focus exact rfl)
 (focus exact rfl)
 (focus exact hS)
 (focus exact Zp)
 (focus (first|exact isAgg1|exact isAgg2|exact isAgg3|exact isAgg4|exact isAgg9|exact isAgg23|exact isAgg25|exact isAgg30|exact isAgg32|exact isAgg42|exact isAgg45|exact isAgg57|exact isAgg60|exact isAgg76|exact isAgg78|exact isAgg79|exact isAgg93|exact isAgg97|exact isAgg107|exact isAgg154|exact isAgg156|exact isAgg160|exact isAgg208|exact isAgg224))
 (focus (first|exact sizeOf1|exact sizeOf2|exact sizeOf3|exact sizeOf4|exact sizeOf9|exact sizeOf23|exact sizeOf25|exact sizeOf27|exact sizeOf30|exact sizeOf32|exact sizeOf42|exact sizeOf45|exact sizeOf57|exact sizeOf59|exact sizeOf76|exact sizeOf78|exact sizeOf79|exact sizeOf224))
 (focus exact rfl)
 (repeat' first|with_reducible apply Exists.intro|with_reducible refine And.intro ?_ ?_)
 (try any_goals(first|with_reducible exact rfl|exact hV|exact hV.1|exact hV.2))
 (try any_goals exact rfl)
 (try any_goals((with_reducible apply gLe hS);exact Zl))
 (try any_goals((with_reducible apply gP);exact Za))
 (try any_goals((with_reducible apply gP);exact Zs))
 (try any_goals((with_reducible apply gP);exact Za))
 done):G:=h
theorem v0{G:Prop}(h:G:=by
 (first|refine HX (.inr rfl) rfl ?_|refine HX (.inl rfl) rfl ?_)
 (repeat' first|with_reducible apply Exists.intro|with_reducible refine And.intro ?_ ?_)
 (try any_goals(first|with_reducible exact rfl|exact hV|exact hV.1|exact hV.2))
 (try any_goals exact rfl)
 (try any_goals((with_reducible apply gLe hS);exact Zl))
 (try any_goals((with_reducible apply gP);exact Za))
 (try any_goals((with_reducible apply gP);exact Zs))
 (try any_goals((with_reducible apply gP);exact Za))
 done):G:=h
theorem v1{G:Prop}(h:G:=by
 refine Lj rfl rfl ?_
 (repeat' first|with_reducible apply Exists.intro|with_reducible refine And.intro ?_ ?_)
 (try any_goals(first|with_reducible exact rfl|exact hV|exact hV.1|exact hV.2))
 (try any_goals exact rfl)
 (try any_goals((with_reducible apply gLe hS);exact Zl))
 (try any_goals((with_reducible apply gP);exact Za))
 (try any_goals((with_reducible apply gP);exact Zs))
 (try any_goals((with_reducible apply gP);exact Za))
 done):G:=h
theorem v2{G:Prop}(h:G:=by
 refine Yb rfl rfl rfl ?_
 (repeat' first|with_reducible apply Exists.intro|with_reducible refine And.intro ?_ ?_)
 (try any_goals(first|with_reducible exact rfl|exact hV|exact hV.1|exact hV.2))
 (try any_goals exact rfl)
 (try any_goals((with_reducible apply gLe hS);exact Zl))
 (try any_goals((with_reducible apply gP);exact Za))
 (try any_goals((with_reducible apply gP);exact Zs))
 (try any_goals((with_reducible apply gP);exact Za))
 done):G:=h
theorem v3{G:Prop}(h:G:=by
 refine Ads rfl rfl rfl rfl ?_
 (repeat' first|with_reducible apply Exists.intro|with_reducible refine And.intro ?_ ?_)
 (try any_goals(first|with_reducible exact rfl|exact hV|exact hV.1|exact hV.2))
 (try any_goals exact rfl)
 (try any_goals((with_reducible apply gLe hS);exact Zl))
 (try any_goals((with_reducible apply gP);exact Za))
 (try any_goals((with_reducible apply gP);exact Zs))
 (try any_goals((with_reducible apply gP);exact Za))
 done):G:=h
end Go.Proofs.YtlhkfkecoekoeaaGreatDoor
namespace Go.Proofs.YtlhkfkecoekoeaaGreatDoor
open Go.Vc _root_.Go.Proofs.Tryz _root_.Go.Proofs.YtlhkfkecoekoeaaGreatDoor.Tryz
section
variable{w0 w:World}{H:View}{L X M R:Ar}
end
section
variable{P:Go.Program}{Q:Exit->Act->World->Prop}{n:Nat}{l:List (Nat×Value)}{w:World}{ops:Array Oper}{rest:List Oper}{ty:TypeId}{pos:String}{af:Array Edge}{gd:Option (Nat×Bool)}
theorem gA{σ:Type}{I B:σ->Prop}{G:Prop}{s:σ}(h:∀s,I s->B s)(hi:I s)(k:B s->G):G:=k (h s hi)
theorem gG{p A G:Prop}(h:p->A)(hp:p)(k:A->G):G:=k (h hp)
theorem gN{p A q B:Prop}(h:(p->A)/\(q->B)):True:=trivial
theorem gS2{p q A G:Prop}(h:(p/\q)/\A)(k:p/\q->p->q->A->G):G:=k h.1 h.1.1 h.1.2 h.2
theorem gS{p A G:Prop}(h:p/\A)(k:p->A->G):G:=k h.1 h.2
theorem gY{J:Act->World->Prop}{y:Code}(h:∀a w,J a w->Code.wp P y Q a w):∀a w,J a w->Code.wp P y Q a w:=h
theorem gB{fn:Func}{R:Ending->World->Prop}{e:Exit}(h:WQ (bodyPost P fn R) e n l w):WQ (bodyPost P fn R) e n l w:=h
theorem gEx{J:Act->World->Prop}(h:WQ (Exit.then J Q) .normal n l w):WQ (Exit.then J Q) .normal n l w:=h
theorem gEb{fn:Func}{R:Ending->World->Prop}{e:Exit}(h:WQ (bodyPost P fn R) e n l w):WQ (bodyPost P fn R) e n l w:=h
theorem gC{c:Operand}{x y:Code}(h:WC P Q n l (.cond c x y) w):WC P Q n l (.cond c x y) w:=h
theorem Po{k:Nat}(h:WQ Q .ret n l w):WQ (Exit.inBlock k Q) .ret n l w:=WQ.out nofun h
theorem Pn{k:Nat}(h:WQ Q .normal n l w):WQ (Exit.inBlock k Q) .normal n l w:=WQ.out nofun h
theorem Pp{K:Act->World->Prop}(h:WQ Q .ret n l w):WQ (Exit.then K Q) .ret n l w:=WQ.pass nofun h
theorem Pe{K:Act->World->Prop}{j:Nat}(h:WQ Q (.exit j) n l w):WQ (Exit.then K Q) (.exit j) n l w:=WQ.pass nofun h
theorem gBr{a b:Bool}{A G:Prop}(h:a=b->A->G):a=b->A->G:=h
theorem gPi{a b:Bool}{G:Prop}(h:a=b->G):a=b->G:=h
theorem gI{H:View}{u:Value}{x:Int}{G:Prop}(h:(CV .i64).rep H [u] x)(k:u=i6 x->I64 x->G):G:=k (Bh h).1 (Bx (Bh h).2)
theorem gBl{H:View}{u:Value}{x:Bool}{G:Prop}(h:cBool.rep H [u] x)(k:u=.bool x->G):G:=k (XW h)
theorem gSr{H:View}{u:Value}{x:Aa}{G:Prop}(h:cStr.rep H [u] x)(k:u=sv x->G):G:=k (Nq h)
theorem gSs{α:Type}{c:Codec α}{H:View}{u:Value}{x:List α}{G:Prop}(h:(JR c).rep H [u] x)(k:IsSl H c u x->G):G:=k (Bq h)
theorem gVv{H:View}{u:Value}{x:Val}{G:Prop}(h:cV.rep H [u] x)(k:IsW H u x->G):G:=k (AcL h)
theorem gaV{H:View}{u:Value}{z:Val}{G:Prop}(h:∃cs:List Value,u=.agg cs.toArray/\cV.rep H cs z)(k:∀u',u=.agg #[u']->IsW H u' z->G):G:=by
 obtain⟨cs,rfl,h⟩:=h;obtain⟨u,rfl,_⟩:=Aw h;exact k u rfl (AcL h)
theorem gaR{H:View}{u:Value}{z:RV}{G:Prop}(h:∃cs:List Value,u=.agg cs.toArray/\cR.rep H cs z)(k:∀v v',u=.agg #[i6 z.k,i6 z.i,sv z.t,v,v']->I64 z.k->I64 z.i->IsSl H cR v z.ks->IsSl H cR v' z.vs->G):G:=by
 obtain⟨cs,rfl,h⟩:=h;obtain⟨v,v',rfl,a,b,c,d⟩:=cR_rep.1 h;exact k v v' rfl a b c d
theorem AdY{H:View}{k i:Int}{t:Aa}{v v':Value}{ks vs:List RV}(a:I64 k)(b:I64 i)(c:IsSl H cR v ks)(d:IsSl H cR v' vs):cR.rep H [i6 k,i6 i,sv t,v,v'] ⟨k,i,t,ks,vs⟩:=cR_rep.2 ⟨v,v',rfl,a,b,c,d⟩
theorem gSz{P:Go.Program}{t:TypeId}{m:Nat}(h:∀w,(Go.sizeOf t).run P w=.ok m w):∀w,(Go.sizeOf t).run P w=.ok m w:=h
theorem gSp{M X:Ar}(h:Sp M X):Sp M X:=h
theorem gOn{vs:List Value}(h:Jv vs):Jv vs:=h
theorem gRp{α:Type}{c:Codec α}{H:View}{cs:List Value}{x:α}(h:c.rep H cs x):c.rep H cs x:=h
theorem gSc{α:Type}{c:Codec α}{H:View}{P:Go.Program}{w:World}{u:Value}{ys:List α}(h:ZK c H P w u ys):ZK c H P w u ys:=h
theorem gCe{v:Value}{cs:List Value}(h:v.cells.toList=cs):v.cells.toList=cs:=h
theorem gL{o:Oper}(h:WL P ops Q n l (o::rest) w):WL P ops Q n l (o::rest) w:=h
theorem br{p A B G:Prop}[Decidable p](hV:(p->A)/\(¬p->B))(h1:decide p=true->A->G)(h2:decide p=false->B->G):G:=by
 by_cases h:p
 ·exact h1 (decide_eq_true h) (hV.1 h)
 ·exact h2 (decide_eq_false h) (hV.2 h)
theorem bn{p A B G:Prop}[Decidable p](hV:(¬p->A)/\(p->B))(h1:decide p=true->B->G)(h2:decide p=false->A->G):G:=br hV.symm h1 h2
theorem bb{x:Bool}{A B G:Prop}(hV:(x=true->A)/\(x=false->B))(h1:x=true->A->G)(h2:x=false->B->G):G:=by
 cases x with
 |true=>exact h1 rfl (hV.1 rfl)
 |false=>exact h2 rfl (hV.2 rfl)
theorem Rc0{d:Nat}{vs:List Value}{xs:List Operand}{ts:Array TypeId}{f:FuncId}{R:Ending->World->Prop}(hb:∀(args:Array Value)(w:World),(Go.callFunc f args).run P w=.ok (.enter f args) w)(hv:Ii l xs vs)(hdn:Nat.blt d n=true)(hc:Calls P f vs.toArray w R)
  (k:∀e w',R e w'->∃v,e=.returned v/\WL P ops Q n ((d,v)::l) rest w'):WL P ops Q n l (⟨some d,.call {callee:=.value (.func f),args:=xs.toArray,argTypes:=ts},ty,pos,af,none⟩::rest) w:=WL.call rfl rfl hdn (Bf hb hv) hc k
theorem Rv{C:World->Prop}{d:Nat}{v:Value}{op:Op}(hw:C w)(he:Exv P n l C ⟨some d,op,ty,pos,af,none⟩ v)(hdn:Nat.blt d n=true)(k:WL P ops Q n ((d,v)::l) rest w):WL P ops Q n l (⟨some d,op,ty,pos,af,none⟩::rest) w:=WL.run hw rfl rfl hdn he k
theorem Rw{C:World->Prop}{D:Value->Prop}{d:Nat}{op:Op}(hw:C w)(he:∃v,D v/\Exv P n l C ⟨some d,op,ty,pos,af,none⟩ v)(hdn:Nat.blt d n=true)(k:∀v,D v->WL P ops Q n ((d,v)::l) rest w):WL P ops Q n l (⟨some d,op,ty,pos,af,none⟩::rest) w:=WL.runx hw rfl rfl hdn he k
section
variable{w0:World}{H:View}{M X:Ar}{dst:Option Tmp}{x y:Operand}{t e T:TypeId}{b off k:Nat}{arr:Array Value}{u v p:Value}
theorem Ix{mm:Nat}{α:Type}{c:Codec α}{C:World->Prop}{xs:List α}{kk:Go.IntKind}{i:Int}(ht:P.underlying t=some (.slice e))(hx:AF l x=some v)(hs:IsSl H c v xs)(hy:AF l y=some (.int kk i))(h:0<=i/\i<xs.length)(hsz:∀w,(Go.sizeOf e).run P w=.ok mm w)(hm:c.size=mm)(inst:Inhabited α):
  ∃p,IsPt H c p (ix xs i)/\Exv P n l C ⟨dst,.indexAddr t x y,ty,pos,af,gd⟩ p:=Au ht (hm▸hsz) hx hy hs h
theorem Ixo{mm:Nat}{α:Type}{c:Codec α}{fp:Ar}{C:World->Prop}{xs:List α}{kk:Go.IntKind}{i:Int}(ht:P.underlying t=some (.slice e))(hx:AF l x=some v)(hs:OwnSl H c T v xs fp)(hy:AF l y=some (.int kk i))(h:0<=i/\i<xs.length)(hsz:∀w,(Go.sizeOf e).run P w=.ok mm w)(hm:c.size=mm):
  ∃p,HI c v i.toNat p/\Exv P n l C ⟨dst,.indexAddr t x y,ty,pos,af,gd⟩ p:=Ai ht (hm▸hsz) hx hy hs h
theorem Lp{α:Type}{c:Codec α}{z:α}(hx:AF l x=some p)(hp:IsPt H c p z)(hag:∀w,(Go.isAgg t).run P w=.ok false w)(h1:c.size=1):∃u,c.rep H [u] z/\Exv P n l (St w0 H X) ⟨dst,.load t x,ty,pos,af,gd⟩ u:=Bp hag h1 hx hp
theorem Lpa{mm:Nat}{α:Type}{c:Codec α}{z:α}(hx:AF l x=some p)(hp:IsPt H c p z)(hag:∀w,(Go.isAgg t).run P w=.ok true w)(hsz:∀w,(Go.sizeOf t).run P w=.ok mm w)(hm:c.size=mm):∃v,(∃cs,v=.agg cs.toArray/\c.rep H cs z)/\Exv P n l (St w0 H X) ⟨dst,.load t x,ty,pos,af,gd⟩ v:=AE hag (hm▸hsz) hx hp
theorem La{cs:List Value}(hx:AF l x=some (.pointer (some ⟨b,off,none⟩)))(hk:Sp ([(b,.cells arr T (0,0))]++M) X)(hag:∀w,(Go.isAgg t).run P w=.ok true w)(hsz:∀w,(Go.sizeOf t).run P w=.ok k w)(h:(arr.toList.drop off).take k=cs)(hl:cs.length=k):
  Exv P n l (St w0 H X) ⟨dst,.load t x,ty,pos,af,gd⟩ (.agg cs.toArray):=(Ac hag hsz hx h hl).of fun _ hw=>St.sp hw hk
theorem Lb(hx:AF l x=some (.pointer (some ⟨b,off,none⟩)))(hk:Sp ([(b,.cells arr T (0,0))]++M) X)(hag:∀w,(Go.isAgg t).run P w=.ok false w)(h:(arr.toList.drop off).head?=some u):
  Exv P n l (St w0 H X) ⟨dst,.load t x,ty,pos,af,gd⟩ u:=(Aj hag hx (by simpa using h)).of fun _ hw=>St.sp hw hk
theorem Lo{α:Type}{c:Codec α}{fp:Ar}{xs:List α}{i:Int}(hx:AF l x=some p)(hp:HI c v i.toNat p)(hs:OwnSl H c T v xs fp)(hk:Sp (fp++M) X)(hag:∀w,(Go.isAgg t).run P w=.ok false w)(h1:c.size=1)(h:0<=i/\i<xs.length)(inst:Inhabited α):
  ∃u,c.rep H [u] (ix xs i)/\Exv P n l (St w0 H X) ⟨dst,.load t x,ty,pos,af,gd⟩ u:=let⟨u,a,z⟩:=AD hag h1 hx hs hp h;⟨u,a,(z H M (View.le.refl _)).of fun _ hw=>St.sp hw hk⟩
theorem Loa{mm:Nat}{α:Type}{c:Codec α}{fp:Ar}{xs:List α}{i:Int}(hx:AF l x=some p)(hp:HI c v i.toNat p)(hs:OwnSl H c T v xs fp)(hk:Sp (fp++M) X)(hag:∀w,(Go.isAgg t).run P w=.ok true w)(hsz:∀w,(Go.sizeOf t).run P w=.ok mm w)(hm:c.size=mm)(h:0<=i/\i<xs.length)(inst:Inhabited α):
  ∃u,(∃cs,u=.agg cs.toArray/\c.rep H cs (ix xs i))/\Exv P n l (St w0 H X) ⟨dst,.load t x,ty,pos,af,gd⟩ u:=let⟨u,a,z⟩:=Bt hag (hm▸hsz) hx hs hp h;⟨u,a,(z H M (View.le.refl _)).of fun _ hw=>St.sp hw hk⟩
theorem Lc{fp:Ar}{src dt:TypeId}{s:Aa}(hx:AF l x=some v)(ho:OwnSl H cB8 T v s fp)(hk:Sp (fp++M) X)(hs:P.underlying src=some (.slice e))(he:P.underlying e=some (.int .u8))(hd:P.underlying dt=some .string):
  Exv P n l (St w0 H X) ⟨dst,.convert src dt x,ty,pos,af,gd⟩ (sv s):=(Gg hs he hd hx ho).of fun _ hw=>St.sp hw hk
theorem Sx(arr':Array Value){m:Nat}{cs:List Value}(hx:AF l x=some (.pointer (some ⟨b,off,none⟩)))(hw:St w0 H X w)(hk:Sp ([(b,.cells arr T (0,0))]++M) X)(hsz:∀w,(Go.sizeOf t).run P w=.ok m w)(hy:AF l y=some v)(hc:v.cells.toList=cs)(hm:cs.length=m)
  (harr:(arr.toList.take off++(cs++arr.toList.drop (off+cs.length))).toArray=arr')(hone:Jv cs)(hsp:arr.toList=arr.toList.take off++((arr.toList.drop off).take cs.length++arr.toList.drop (off+cs.length)))(hpre:(arr.toList.take off).length=off)(hold:((arr.toList.drop off).take cs.length).length=cs.length)
  (go:∀w',St w0 H ([(b,.cells arr' T (0,0))]++M) w'->WL P ops Q n l rest w'):WL P ops Q n l (⟨none,.store t x y,ty,pos,af,none⟩::rest) w:=
 Ee arr' hsz (St.sp hw hk) go hx hy hc hm hone hsp hpre hold harr
theorem So{mm:Nat}{α:Type}{c:Codec α}{fp:Ar}{xs:List α}{i:Int}{z:α}(hx:AF l x=some p)(hp:HI c v i.toNat p)(hw:St w0 H X w)(hs:OwnSl H c T v xs fp)(hk:Sp (fp++M) X)(hsz:∀w,(Go.sizeOf t).run P w=.ok mm w)(hm:c.size=mm)(h1:c.size=1)(hy:AF l y=some u)(hr:c.rep H [u] z)(h:0<=i/\i<xs.length)
  (go:∀w' fp',OwnSl H c T v (xs.set i.toNat z) fp'->St w0 H (fp'++M) w'->WL P ops Q n l rest w'):WL P ops Q n l (⟨none,.store t x y,ty,pos,af,none⟩::rest) w:=WL.store_own (hm▸hsz) h1 hx hy hr (St.sp hw hk) hs hp h go
theorem Soa{mm:Nat}{α:Type}{c:Codec α}{fp:Ar}{xs:List α}{i:Int}{z:α}{m':List Value}(hx:AF l x=some p)(hp:HI c v i.toNat p)(hw:St w0 H X w)(hs:OwnSl H c T v xs fp)(hk:Sp (fp++M) X)(hsz:∀w,(Go.sizeOf t).run P w=.ok mm w)(hm:c.size=mm)(hy:AF l y=some u)(hu:u.cells.toList=m')(hr:c.rep H m' z)(hone:Jv m')(h:0<=i/\i<xs.length)
  (inst:Inhabited α)(go:∀w' fp',OwnSl H c T v (xs.set i.toNat z) fp'->St w0 H (fp'++M) w'->WL P ops Q n l rest w'):WL P ops Q n l (⟨none,.store t x y,ty,pos,af,none⟩::rest) w:=WL.store_own_agg (hm▸hsz) hx hy hu hone hr (St.sp hw hk) hs hp h go
theorem Ap{mm:Nat}{α:Type}{c:Codec α}{fp:Ar}{d:Nat}{z:Value}{bytes:Nat}{xs ys:List α}(hdn:Nat.blt d n=true)(hx:AF l x=some v)(hw:St w0 H X w)(hs:OwnSl H c e v xs fp)(hk:Sp (fp++M) X)(hy:AF l y=some u)(hsrc:ZK c H P w u ys)(ht:P.underlying t=some (.slice e))(hi:(P.info? e).map (fun i=>(i.zero,i.size,i.bytes))=some (some z,mm,bytes))(hmm:c.size=mm)(hzs:z.cells.size=c.size)
  (hr:AY (xs.length+ys.length) bytes)(go:∀v' w' fp',OwnSl H c e v' (xs++ys) fp'->St w0 H (fp'++M) w'->WL P ops Q n ((d,v')::l) rest w'):WL P ops Q n l (⟨some d,.call {callee:=.builtin .append,args:=#[x,y],argTypes:=#[t,t]},ty,pos,af,none⟩::rest) w:=
 WL.append hdn ht (hmm▸hi) hzs hx hy (St.sp hw hk) hs hsrc hr.1 hr.2 go
theorem Aps{fp:Ar}{t':TypeId}{d:Nat}{z:Value}{bytes:Nat}{xs s:Aa}(hdn:Nat.blt d n=true)(hx:AF l x=some v)(hw:St w0 H X w)(hs:OwnSl H cB8 e v xs fp)(hk:Sp (fp++M) X)(hy:AF l y=some (sv s))(ht:P.underlying t=some (.slice e))(hu:P.underlying t'=some .string)(hi:(P.info? e).map (fun i=>(i.zero,i.size,i.bytes))=some (some z,1,bytes))(hzs:z.cells.size=1)
  (hr:AY (xs.length+s.length) bytes)(go:∀v' w' fp',OwnSl H cB8 e v' (xs++s) fp'->St w0 H (fp'++M) w'->WL P ops Q n ((d,v')::l) rest w'):WL P ops Q n l (⟨some d,.call {callee:=.builtin .append,args:=#[x,y],argTypes:=#[t,t']},ty,pos,af,none⟩::rest) w:=
 WL.appends hdn ht hu hi hzs hx hy (St.sp hw hk) hs hr.1 hr.2 go
theorem Ms{mm:Nat}{α:Type}{c:Codec α}{d:Nat}{z:Value}{bytes:Nat}{m:Int}{z0:α}{kk:Go.IntKind}(hdn:Nat.blt d n=true)(ht:P.underlying t=some (.slice e))(hi:(P.info? e).map (fun i=>(i.zero,i.size,i.bytes))=some (some z,mm,bytes))(hx:AF l x=some (.int kk m))(hy:AF l y=some (.int kk m))(hm:Xf m bytes)(hw:St w0 H X w)(hz0:c.rep H z.cells.toList z0)(hmm:c.size=mm)
  (k:∀v' w' fp',OwnSl H c e v' (List.replicate m.toNat z0) fp'->St w0 H (fp'++X) w'->WL P ops Q n ((d,v')::l) rest w'):WL P ops Q n l (⟨some d,.makeSlice t x y,ty,pos,af,none⟩::rest) w:=WL.makes hdn ht (hmm▸hi) hz0 hx hy hm.1 hm.2.1 hm.2.2 hw k
theorem B1{mm:Nat}{α:Type}{c:Codec α}{d:Nat}{z:Value}{bytes:Nat}{y:α}(hdn:Nat.blt d n=true)(hv:AF l x=some v)(hw:St w0 H X w)(hr:c.rep H [v] y)(ht:P.underlying t=some (.slice e))(hi:(P.info? e).map (fun i=>(i.zero,i.size,i.bytes))=some (some z,mm,bytes))(hmm:c.size=mm)(h1:c.size=1)
  (k:∀v' w' fp',OwnSl H c e v' [y] fp'->St w0 H (fp'++X) w'->WL P ops Q n ((d,v')::l) rest w'):WL P ops Q n l (⟨some d,.buildSlice t 1 #[(0,x)],ty,pos,af,none⟩::rest) w:=WL.build1 hdn ht (hmm▸hi) h1 hv hr hw k
theorem B2{mm:Nat}{α:Type}{c:Codec α}{d:Nat}{z:Value}{bytes:Nat}{y:α}{cs:List Value}(hdn:Nat.blt d n=true)(hv:AF l x=some v)(hw:St w0 H X w)(hc:v.cells.toList=cs)(hr:c.rep H cs y)(ht:P.underlying t=some (.slice e))(hi:(P.info? e).map (fun i=>(i.zero,i.size,i.bytes))=some (some z,mm,bytes))(hmm:c.size=mm)(h0:Nat.blt 0 c.size=true)(hs:Nat.ble c.size 16777216=true)
  (k:∀v' w' fp',OwnSl H c e v' [y] fp'->St w0 H (fp'++X) w'->WL P ops Q n ((d,v')::l) rest w'):WL P ops Q n l (⟨some d,.buildSlice t 1 #[(0,x)],ty,pos,af,none⟩::rest) w:=
 WL.builds (vs:=[v]) (css:=[cs]) (xs:=[y]) (k:=1) (ps:=[(0,x)]) hdn ht (hmm▸hi) rfl ⟨hv,trivial⟩ (by simpa using hs) (Nat.blt_eq.mp h0) (by simp[hc]) (by simpa using c.len hr) (by simpa using Codec.reps_single.2 hr) hw rfl (by decide) k
end
def Aco(cs:List Value):List (Nat×Value)->List Value
 |[]=>cs
 |(i,v)::r=>Aco (cs.set i v) r
theorem Gv(n:Nat)(pl:Nat->Option (Nat×Nat))(hpl:∀i,i<n->pl i=some (i,1)):∀(ps:List (Nat×Value))(cs:List Value),cs.length=n->(∀i∈ps.map (·.1),i<n)->Jv (ps.map (·.2))->Go.Instr.fill pl cs.toArray ps=some (Aco cs ps).toArray
 |[],_,_,_,_=>rfl
 |(i,v)::ps,cs,hl,hm,ho=>by
  have h1:v.cells=#[v]:=AN ho.1
  have hi:i<n:=hm i (by simp)
  have ih:=Gv n pl hpl ps (cs.set i v) (by simpa using hl) (fun j hj=>hm j (by simp at hj ⊢;exact .inr hj)) ho.2
  simp only[Go.Instr.fill,hpl i hi,h1]
  rw[if_neg (by simp;omega)]
  simp[Aco,<-ih]
def UR(P:Go.Program)(t:TypeId)(n:Nat):Prop:=∃fields,P.underlying t=some (.struct fields)/\∀w,(Array.mapM (fun f:Go.Field=>Prod.mk f.offset<$>Go.sizeOf f.type) fields).run P w=.ok ((List.range n).map fun i=>(i,1)).toArray w
theorem Bu{P:Go.Program}{n:Nat}{l:List (Nat×Value)}{C:World->Prop}{dst:Option Tmp}{ty:TypeId}{pos:String}{af:Array Edge}{gd:Option (Nat×Bool)}{t:TypeId}{zero:Value}{zc cs vs:List Value}{ps:List (Nat×Operand)}{m:Nat}
  (hs:UR P t m)(hv:Ii l (ps.map (·.2)) vs)(hz:∀w,(Go.zeroValue t).run P w=.ok zero w)(hzc:zero.cells.toList=zc)(hl:zc.length=m)(hi:(ps.map (·.1)).all (Nat.blt · m)=true)(hlen:vs.length=ps.length)(ho:Jv vs)(hc:Aco zc ((ps.map (·.1)).zip vs)=cs):
  Exv P n l C ⟨dst,.build t ps.toArray,ty,pos,af,gd⟩ (.agg cs.toArray):=by
 obtain⟨fields,ht,hp⟩:=hs
 refine Aq ht hz hp rfl hv (zc:=zc.toArray) (by rw[<-hzc]) ?_
 rw[Gv m _ (fun i hi=>by simp[hi]) _ _ hl,hc]
 ·intro i h
  rw[List.map_fst_zip (by simp[hlen])] at h
  exact Nat.blt_eq.mp (List.all_eq_true.1 hi i h)
 ·rw[List.map_snd_zip (by simp[hlen])];exact ho
theorem Rc1{d:Nat}{vs caps:List Value}{fo:Operand}{xs:List Operand}{ts:Array TypeId}{f:FuncId}{R:Ending->World->Prop}(hf:AF l fo=some (.func (.func f) #[] caps.toArray))(hb:∀(args:Array Value)(w:World),(Go.callFunc f args).run P w=.ok (.enter f args) w)(hv:Ii l xs vs)(hdn:Nat.blt d n=true)(hc:Calls P f (vs++caps).toArray w R)
  (k:∀e w',R e w'->∃v,e=.returned v/\WL P ops Q n ((d,v)::l) rest w'):WL P ops Q n l (⟨some d,.call {callee:=.value fo,args:=xs.toArray,argTypes:=ts},ty,pos,af,none⟩::rest) w:=WL.call rfl rfl hdn (As hf hb hv) hc k
theorem Ug0{dst:Option Tmp}{op:Op}{j dj:Nat}{b want:Bool}(hj:(ops[j]?).bind (·.dst)=some dj)(hv:lk l dj=some (.bool b))(hb:b=want)(k:WL P ops Q n l (⟨dst,op,ty,pos,af,none⟩::rest) w):WL P ops Q n l (⟨dst,op,ty,pos,af,some (j,want)⟩::rest) w:=WL.unguard hj hv hb k
theorem Uq0{C:World->Prop}{K:Act->Prop}{dst:Option Tmp}{op:Op}{j dj:Nat}{b want:Bool}(hj:(ops[j]?).bind (·.dst)=some dj)(hv:lk l dj=some (.bool b))(hb:b=want)(k:Wq P ops C K n l (⟨dst,op,ty,pos,af,none⟩::rest)):Wq P ops C K n l (⟨dst,op,ty,pos,af,some (j,want)⟩::rest):=Wq.unguard hj hv hb k
section
variable{w0:World}{H:View}{M M0 X fp:Ar}{α:Type}{c:Codec α}{T T0:TypeId}{v:Value}{ys:List α}{d b:Nat}{x xo:Operand}{xs:List Operand}{ts:Array TypeId}{f:FuncId}{cs arr:Array Value}{t:TypeId}
end
theorem Aeu{H:View}{z:RV}{v v':Value}(a:I64 z.k)(b:I64 z.i)(c:IsSl H cR v z.ks)(d:IsSl H cR v' z.vs):cR.rep H [i6 z.k,i6 z.i,sv z.t,v,v'] z:=cR_rep.2 ⟨v,v',rfl,a,b,c,d⟩
theorem gLd{d:Nat}{t:TypeId}{x:Operand}(h:WL P ops Q n l (⟨some d,.load t x,ty,pos,af,gd⟩::rest) w):WL P ops Q n l (⟨some d,.load t x,ty,pos,af,gd⟩::rest) w:=h
theorem gSt{t:TypeId}{x y:Operand}(h:WL P ops Q n l (⟨none,.store t x y,ty,pos,af,gd⟩::rest) w):WL P ops Q n l (⟨none,.store t x y,ty,pos,af,gd⟩::rest) w:=h
theorem gAl{d:Nat}{t:TypeId}(h:WL P ops Q n l (⟨some d,.alloc t,ty,pos,af,gd⟩::rest) w):WL P ops Q n l (⟨some d,.alloc t,ty,pos,af,gd⟩::rest) w:=h
theorem gBo{d:Nat}{t:TypeId}{x:Operand}(h:WL P ops Q n l (⟨some d,.box t x,ty,pos,af,gd⟩::rest) w):WL P ops Q n l (⟨some d,.box t x,ty,pos,af,gd⟩::rest) w:=h
theorem gBu{d:Nat}{t:TypeId}{x:Array (Nat×Operand)}(h:WL P ops Q n l (⟨some d,.build t x,ty,pos,af,gd⟩::rest) w):WL P ops Q n l (⟨some d,.build t x,ty,pos,af,gd⟩::rest) w:=h
theorem gBs{d m:Nat}{t:TypeId}{x:Array (Nat×Operand)}(h:WL P ops Q n l (⟨some d,.buildSlice t m x,ty,pos,af,gd⟩::rest) w):WL P ops Q n l (⟨some d,.buildSlice t m x,ty,pos,af,gd⟩::rest) w:=h
theorem gMs{d:Nat}{t:TypeId}{x y:Operand}(h:WL P ops Q n l (⟨some d,.makeSlice t x y,ty,pos,af,gd⟩::rest) w):WL P ops Q n l (⟨some d,.makeSlice t x y,ty,pos,af,gd⟩::rest) w:=h
theorem gAp{d:Nat}{x y:Operand}{t u:TypeId}(h:WL P ops Q n l (⟨some d,.call {callee:=.builtin .append,args:=#[x,y],argTypes:=#[t,u]},ty,pos,af,gd⟩::rest) w):WL P ops Q n l (⟨some d,.call {callee:=.builtin .append,args:=#[x,y],argTypes:=#[t,u]},ty,pos,af,gd⟩::rest) w:=h
theorem gCv{d:Nat}{f:Tmp}{xs:Array Operand}{ts:Array TypeId}(h:WL P ops Q n l (⟨some d,.call {callee:=.value (.tmp f),args:=xs,argTypes:=ts},ty,pos,af,gd⟩::rest) w):WL P ops Q n l (⟨some d,.call {callee:=.value (.tmp f),args:=xs,argTypes:=ts},ty,pos,af,gd⟩::rest) w:=h
theorem gCa{d:Nat}{f:FuncId}{xs:Array Operand}{ts:Array TypeId}(h:WL P ops Q n l (⟨some d,.call {callee:=.value (.func f),args:=xs,argTypes:=ts},ty,pos,af,gd⟩::rest) w):WL P ops Q n l (⟨some d,.call {callee:=.value (.func f),args:=xs,argTypes:=ts},ty,pos,af,gd⟩::rest) w:=h
end
theorem AdU:UR Tryz.prog 25 1:=⟨_,underlying25,fun w=>by simp[sizeOf23]<;>rfl⟩
theorem XL:UR Tryz.prog 32 5:=⟨_,underlying32,fun w=>by simp[sizeOf2,sizeOf3,sizeOf30,sizeOf9]<;>rfl⟩
theorem Wp:UR Tryz.prog 100 3:=⟨_,underlying100,fun w=>by simp[sizeOf3,sizeOf42]<;>rfl⟩
theorem Adb:UR Tryz.prog 59 2:=⟨_,underlying59,fun w=>by simp[sizeOf3,sizeOf57]<;>rfl⟩
theorem UU:UR Tryz.prog 67 6:=⟨_,underlying67,fun w=>by simp[sizeOf3,sizeOf4,sizeOf9]<;>rfl⟩
theorem Adp:UR Tryz.prog 96 2:=⟨_,underlying96,fun w=>by simp[sizeOf3,sizeOf42]<;>rfl⟩
theorem Zu{G:Prop}(h:G:=by
 first|with_reducible exact concrete59|with_reducible exact concrete86|with_reducible exact concrete87|with_reducible exact concrete89|with_reducible exact concrete91|with_reducible exact concrete93|with_reducible exact concrete97|with_reducible exact iface23|with_reducible exact iface27|with_reducible exact info3|with_reducible exact info5|with_reducible exact info9|with_reducible exact info25|with_reducible exact info30|with_reducible exact info32|with_reducible exact info42|with_reducible exact info79|with_reducible exact isAgg1|with_reducible exact isAgg2|with_reducible exact isAgg3|with_reducible exact isAgg4|with_reducible exact isAgg9|with_reducible exact isAgg23|with_reducible exact isAgg25|with_reducible exact isAgg30|with_reducible exact isAgg32|with_reducible exact isAgg42|with_reducible exact isAgg45|with_reducible exact isAgg57|with_reducible exact isAgg60|with_reducible exact isAgg76|with_reducible exact isAgg78|with_reducible exact isAgg79|with_reducible exact isAgg93|with_reducible exact isAgg97|with_reducible exact isAgg107|with_reducible exact isAgg154|with_reducible exact isAgg156|with_reducible exact isAgg160|with_reducible exact isAgg208|with_reducible exact isAgg224|with_reducible exact sizeOf1|with_reducible exact sizeOf2|with_reducible exact sizeOf3|with_reducible exact sizeOf4|with_reducible exact sizeOf9|with_reducible exact sizeOf23|with_reducible exact sizeOf25|with_reducible exact sizeOf27|with_reducible exact sizeOf30|with_reducible exact sizeOf32|with_reducible exact sizeOf42|with_reducible exact sizeOf45|with_reducible exact sizeOf57|with_reducible exact sizeOf59|with_reducible exact sizeOf76|with_reducible exact sizeOf78|with_reducible exact sizeOf79|with_reducible exact sizeOf224|with_reducible exact underlying2|with_reducible exact underlying3|with_reducible exact underlying4|with_reducible exact underlying5|with_reducible exact underlying9|with_reducible exact underlying25|with_reducible exact underlying30|with_reducible exact underlying32|with_reducible exact underlying41|with_reducible exact underlying42|with_reducible exact underlying43|with_reducible exact underlying45|with_reducible exact underlying59|with_reducible exact underlying62|with_reducible exact underlying67|with_reducible exact underlying71|with_reducible exact underlying76|with_reducible exact underlying78|with_reducible exact underlying86|with_reducible exact underlying89|with_reducible exact underlying91|with_reducible exact underlying96|with_reducible exact underlying100|with_reducible exact underlying115|with_reducible exact underlying116|with_reducible exact underlying124|with_reducible exact underlying130|with_reducible exact underlying180|with_reducible exact underlying204|with_reducible exact zeroValue1|with_reducible exact zeroValue3|with_reducible exact zeroValue25|with_reducible exact zeroValue27|with_reducible exact zeroValue32|with_reducible exact zeroValue42|with_reducible exact zeroValue45|with_reducible exact zeroValue59|with_reducible exact zeroValue62|with_reducible exact zeroValue67|with_reducible exact zeroValue78|with_reducible exact zeroValue86|with_reducible exact zeroValue87|with_reducible exact zeroValue89|with_reducible exact zeroValue91|with_reducible exact zeroValue93|with_reducible exact zeroValue96|with_reducible exact zeroValue97|with_reducible exact zeroValue100|with_reducible exact zeroValue224|((with_reducible apply gSz);first|exact sizeOf3|exact sizeOf42|exact sizeOf9|exact sizeOf30)):G:=h
theorem Ze{G:Prop}(h:G:=by
 first|(apply congrArg Array.toList;apply AN;first|exact rfl|(apply IsW.one;assumption)|(apply IsSl.one;assumption)|(apply OwnSl.one;assumption)|(apply IsPS.one;assumption)|(apply IsPF.one;assumption)|(apply OF.one;assumption))|exact rfl):G:=h
theorem Zo{G:Prop}(h:G:=by
 repeat (first|exact trivial|with_reducible refine And.intro ?_ ?_|(refine And.intro ?_ ?_)|first|exact rfl|(apply IsW.one;assumption)|(apply IsSl.one;assumption)|(apply OwnSl.one;assumption)|(apply IsPS.one;assumption)|(apply IsPF.one;assumption)|(apply OF.one;assumption))):G:=h
theorem Zr{G:Prop}(h:G:=by
 first|(apply BZ;exact Za)|exact Ax|exact Aat|(apply Du;apply I64.has;exact Za)|(apply HE;exact Za)|(apply Hg;first|assumption|(refine JC ⟨?_,?_⟩<;>omega))|(apply Aeu<;>exact Za)|(apply AdY<;>exact Za)):G:=h
theorem Zq{G:Prop}(h:G:=by
 first|exact rfl|exact Zu|exact hS|((with_reducible apply gSp);exact Zp)|((with_reducible apply gCe);exact Ze)|((with_reducible apply gOn);exact Zo)|((with_reducible apply gRp);exact Zr)|((with_reducible apply gSc);first|(apply IsSl.src;(focus exact Za);exact hS)|(apply OwnSl.src;(focus exact Za);exact Zs))|exact Za|decide):G:=h
theorem Zg{G:Prop}(h:G:=by
 first|assumption|(apply IsSl.bound;assumption)|(apply OwnSl.bound;assumption)|exact Za):G:=h
theorem Zv{G:Prop}(h:G:=by
 first|exact XE|((with_reducible apply Lb)<;>exact Zq)|((with_reducible apply La (cs:=[_]))<;>exact Zq)|((with_reducible apply La (cs:=[_,_,_,_,_]))<;>exact Zq)|((with_reducible apply La (cs:=[_,_]))<;>exact Zq)|((with_reducible apply La (cs:=[_,_,_]))<;>exact Zq)|((with_reducible apply La (cs:=[_,_,_,_]))<;>exact Zq)|((with_reducible apply La (cs:=[_,_,_,_,_,_]))<;>exact Zq)|((with_reducible apply Ao)<;>exact Zq)|((with_reducible apply AP)<;>exact Zq)|((with_reducible apply PM)<;>exact Zq)|((with_reducible apply Cn)<;>exact Zq)|((with_reducible apply Fx)<;>exact Zq)|((with_reducible apply Bk)<;>exact Zq)|((with_reducible apply Ja)<;>exact Zq)|((with_reducible apply Ru)<;>exact Zq)|((with_reducible apply QW)<;>exact Zq)|((with_reducible apply Aau)<;>exact Zq)|((with_reducible apply Aay)<;>exact Zq)|((with_reducible apply Gm (q:=1))<;>exact Zq)|((with_reducible apply Gm (q:=2))<;>exact Zq)|((with_reducible apply Gm (q:=3))<;>exact Zq)|((with_reducible apply VZ)<;>exact Zq)|((with_reducible apply Wi)<;>exact Zq)|((with_reducible apply IG)<;>exact Zq)|((with_reducible apply Vv)<;>exact Zq)|((with_reducible apply Ft)<;>exact Zq)|((with_reducible apply My)<;>exact Zq)|((with_reducible apply AbK)<;>exact Zq)|((with_reducible apply YD)<;>exact Zq)|((with_reducible apply Lc)<;>exact Zq)):G:=h
theorem Zx{G:Prop}(h:G:=by
 first|((with_reducible apply Ix);(iterate 7 (focus exact Zq));exact inferInstance)|((with_reducible apply Lo);(iterate 7 (focus exact Zq));exact inferInstance)|((with_reducible apply Loa);(iterate 8 (focus exact Zq));exact inferInstance)|((with_reducible apply Lp)<;>exact Zq)|((with_reducible apply Lpa)<;>exact Zq)|((with_reducible apply Ixo)<;>exact Zq)|((with_reducible apply Gj)<;>exact Zq)|((with_reducible apply IH)<;>exact Zq)|((with_reducible apply SM)<;>exact Zq)|((with_reducible apply Hq)<;>exact Zq)|((with_reducible apply Hn)<;>exact Zq)|((with_reducible apply VR)<;>exact Zq)|((with_reducible apply VU)<;>exact Zq)|((with_reducible apply Abt)<;>exact Zq)|((with_reducible apply Abq)<;>exact Zq)|((with_reducible apply TA)<;>exact Zq)|((with_reducible apply Yo)<;>exact Zq)|((with_reducible apply Ke)<;>exact Zq)|((with_reducible apply Lt)<;>exact Zq)|((with_reducible apply SV)<;>exact Zq)|((with_reducible apply PU)<;>exact Zq)|((with_reducible apply HQ)<;>exact Zq)):G:=h
theorem Zw{G:Prop}(h:G:=by
 first|((with_reducible apply CI)<;>exact Zq)|((with_reducible apply EH)<;>exact Zq)|((with_reducible apply Il)<;>exact Zq)|((with_reducible apply Si)<;>exact Zq)):G:=h
theorem Z{G:Prop}(h:G:=by
 repeat' (first
  |with_reducible refine WL.nx ?_
  |with_reducible refine WL.nil ?_
  |with_reducible refine WC.sr ?_
  |with_reducible refine WC.seq ?_
  |with_reducible refine WC.region ?_
  |with_reducible refine WC.block ?_
  |with_reducible refine WC.skip ?_
  |with_reducible refine WC.label ?_
  |with_reducible refine WQ.next ?_
  |with_reducible refine WC.ret ?_
  |with_reducible refine WC.exit ?_
  |with_reducible refine WQ.hit ?_
  |with_reducible refine Po ?_
  |with_reducible refine Pn ?_
  |with_reducible refine Pp ?_
  |with_reducible refine Pe ?_
  |((with_reducible refine gEx ?_);exact y)
  |((with_reducible refine gB ?_);first|exact vc|exact v1|exact v0|exact v2|exact v3)
  |((with_reducible refine WQ.by ?_ ?_);(focus exact rfl))
  |((with_reducible refine gC ?_);refine Cd ?_ ?_)
  |((first|with_reducible refine gEx ?_|with_reducible refine gEb ?_);(fail_if_success (have _:=gN hV));first|((with_reducible refine gS2 hV ?_);(try clear hV);intro _ _ _ hV)|((with_reducible refine gS hV ?_);(try clear hV);intro _ hV))
  |((with_reducible refine gG hV ?_ ?_);(focus exact Zg);(try clear hV);intro hV)
  |((with_reducible refine gBo ?_);(first|refine WL.box (arr:=#[_,_,_,_,_]) rfl rfl rfl hS ?_|refine WL.box (arr:=#[_]) rfl rfl rfl hS ?_|refine WL.box (arr:=#[_,_]) rfl rfl rfl hS ?_|refine WL.box (arr:=#[_,_,_]) rfl rfl rfl hS ?_|refine WL.box (arr:=#[_,_,_,_]) rfl rfl rfl hS ?_|refine WL.box (arr:=#[_,_,_,_,_,_]) rfl rfl rfl hS ?_|(refine WL.box (arr:=#[_]) rfl rfl (AN ?_) hS ?_;(focus (first|exact rfl|(apply IsW.one;assumption)|(apply IsSl.one;assumption)|(apply OwnSl.one;assumption)|(apply IsPS.one;assumption)|(apply IsPF.one;assumption)))));(try clear hS);intro b w hS)
  |((with_reducible refine gAl ?_);(first|(refine WL.alloc (arr:=#[.nilIface]) rfl zeroValue25 rfl hS ?_;(try clear hS);intro b w hS)|(refine WL.alloc (arr:=#[i6 0,i6 0,sv ([]:Aa),ns,ns]) rfl zeroValue32 rfl hS ?_;(try clear hS);intro b w hS)|(refine WL.alloc (arr:=#[ns]) rfl zeroValue42 rfl hS ?_;(try clear hS);intro b w hS)|(refine WL.alloc (arr:=#[i6 0]) rfl zeroValue3 rfl hS ?_;(try clear hS);intro b w hS)))
  |((with_reducible refine gSt ?_);(first|((with_reducible apply Sx #[_]);(iterate 12 (focus exact Zq)))|((with_reducible apply Sx #[_,_,_,_,_]);(iterate 12 (focus exact Zq)))|((with_reducible apply Sx #[_,_,_,_]);(iterate 12 (focus exact Zq)))|((with_reducible apply Sx #[_,_,_,_,_,_]);(iterate 12 (focus exact Zq)))|((with_reducible apply Sx #[_,_]);(iterate 12 (focus exact Zq)))|((with_reducible apply Sx #[_,_,_]);(iterate 12 (focus exact Zq))));(try clear hS);intro w hS)
  |((with_reducible refine gSt ?_);(first|((with_reducible apply So);(iterate 11 (focus exact Zq))));(try clear hS);intro w _ _ hS)
  |((with_reducible refine gSt ?_);(with_reducible apply Soa);(iterate 12 (focus exact Zq));(focus exact inferInstance);(try clear hS);intro w _ _ hS)
  |((with_reducible refine gBu ?_);(first|((with_reducible apply Rv hS);(focus ((with_reducible apply Bu (vs:=[]) (cs:=[_]) AdU);(focus exact trivial);(focus exact zeroValue25);(focus exact rfl);(focus exact rfl);(focus exact rfl);(focus exact rfl);(focus exact Zo);(focus exact rfl)));(focus exact rfl))|((with_reducible apply Rv hS);(focus ((with_reducible apply Bu (vs:=[_]) (cs:=[_]) AdU);(focus exact⟨rfl,trivial⟩);(focus exact zeroValue25);(focus exact rfl);(focus exact rfl);(focus exact rfl);(focus exact rfl);(focus exact Zo);(focus exact rfl)));(focus exact rfl))|((with_reducible apply Rv hS);(focus ((with_reducible apply Bu (vs:=[]) (cs:=[_,_,_,_,_]) XL);(focus exact trivial);(focus exact zeroValue32);(focus exact rfl);(focus exact rfl);(focus exact rfl);(focus exact rfl);(focus exact Zo);(focus exact rfl)));(focus exact rfl))|((with_reducible apply Rv hS);(focus ((with_reducible apply Bu (vs:=[_]) (cs:=[_,_,_,_,_]) XL);(focus exact⟨rfl,trivial⟩);(focus exact zeroValue32);(focus exact rfl);(focus exact rfl);(focus exact rfl);(focus exact rfl);(focus exact Zo);(focus exact rfl)));(focus exact rfl))|((with_reducible apply Rv hS);(focus ((with_reducible apply Bu (vs:=[_,_]) (cs:=[_,_,_,_,_]) XL);(focus exact⟨rfl,rfl,trivial⟩);(focus exact zeroValue32);(focus exact rfl);(focus exact rfl);(focus exact rfl);(focus exact rfl);(focus exact Zo);(focus exact rfl)));(focus exact rfl))|((with_reducible apply Rv hS);(focus ((with_reducible apply Bu (vs:=[_,_,_]) (cs:=[_,_,_,_,_]) XL);(focus exact⟨rfl,rfl,rfl,trivial⟩);(focus exact zeroValue32);(focus exact rfl);(focus exact rfl);(focus exact rfl);(focus exact rfl);(focus exact Zo);(focus exact rfl)));(focus exact rfl))|((with_reducible apply Rv hS);(focus ((with_reducible apply Bu (vs:=[_,_,_,_]) (cs:=[_,_,_,_,_]) XL);(focus exact⟨rfl,rfl,rfl,rfl,trivial⟩);(focus exact zeroValue32);(focus exact rfl);(focus exact rfl);(focus exact rfl);(focus exact rfl);(focus exact Zo);(focus exact rfl)));(focus exact rfl))|((with_reducible apply Rv hS);(focus ((with_reducible apply Bu (vs:=[_,_,_,_,_]) (cs:=[_,_,_,_,_]) XL);(focus exact⟨rfl,rfl,rfl,rfl,rfl,trivial⟩);(focus exact zeroValue32);(focus exact rfl);(focus exact rfl);(focus exact rfl);(focus exact rfl);(focus exact Zo);(focus exact rfl)));(focus exact rfl))|((with_reducible apply Rv hS);(focus ((with_reducible apply Bu (vs:=[]) (cs:=[_,_,_]) Wp);(focus exact trivial);(focus exact zeroValue100);(focus exact rfl);(focus exact rfl);(focus exact rfl);(focus exact rfl);(focus exact Zo);(focus exact rfl)));(focus exact rfl))|((with_reducible apply Rv hS);(focus ((with_reducible apply Bu (vs:=[_]) (cs:=[_,_,_]) Wp);(focus exact⟨rfl,trivial⟩);(focus exact zeroValue100);(focus exact rfl);(focus exact rfl);(focus exact rfl);(focus exact rfl);(focus exact Zo);(focus exact rfl)));(focus exact rfl))|((with_reducible apply Rv hS);(focus ((with_reducible apply Bu (vs:=[_,_]) (cs:=[_,_,_]) Wp);(focus exact⟨rfl,rfl,trivial⟩);(focus exact zeroValue100);(focus exact rfl);(focus exact rfl);(focus exact rfl);(focus exact rfl);(focus exact Zo);(focus exact rfl)));(focus exact rfl))|((with_reducible apply Rv hS);(focus ((with_reducible apply Bu (vs:=[_,_,_]) (cs:=[_,_,_]) Wp);(focus exact⟨rfl,rfl,rfl,trivial⟩);(focus exact zeroValue100);(focus exact rfl);(focus exact rfl);(focus exact rfl);(focus exact rfl);(focus exact Zo);(focus exact rfl)));(focus exact rfl))|((with_reducible apply Rv hS);(focus ((with_reducible apply Bu (vs:=[]) (cs:=[_,_]) Adb);(focus exact trivial);(focus exact zeroValue59);(focus exact rfl);(focus exact rfl);(focus exact rfl);(focus exact rfl);(focus exact Zo);(focus exact rfl)));(focus exact rfl))|((with_reducible apply Rv hS);(focus ((with_reducible apply Bu (vs:=[_]) (cs:=[_,_]) Adb);(focus exact⟨rfl,trivial⟩);(focus exact zeroValue59);(focus exact rfl);(focus exact rfl);(focus exact rfl);(focus exact rfl);(focus exact Zo);(focus exact rfl)));(focus exact rfl))|((with_reducible apply Rv hS);(focus ((with_reducible apply Bu (vs:=[_,_]) (cs:=[_,_]) Adb);(focus exact⟨rfl,rfl,trivial⟩);(focus exact zeroValue59);(focus exact rfl);(focus exact rfl);(focus exact rfl);(focus exact rfl);(focus exact Zo);(focus exact rfl)));(focus exact rfl))|((with_reducible apply Rv hS);(focus ((with_reducible apply Bu (vs:=[]) (cs:=[_,_,_,_,_,_]) UU);(focus exact trivial);(focus exact zeroValue67);(focus exact rfl);(focus exact rfl);(focus exact rfl);(focus exact rfl);(focus exact Zo);(focus exact rfl)));(focus exact rfl))|((with_reducible apply Rv hS);(focus ((with_reducible apply Bu (vs:=[_]) (cs:=[_,_,_,_,_,_]) UU);(focus exact⟨rfl,trivial⟩);(focus exact zeroValue67);(focus exact rfl);(focus exact rfl);(focus exact rfl);(focus exact rfl);(focus exact Zo);(focus exact rfl)));(focus exact rfl))|((with_reducible apply Rv hS);(focus ((with_reducible apply Bu (vs:=[_,_]) (cs:=[_,_,_,_,_,_]) UU);(focus exact⟨rfl,rfl,trivial⟩);(focus exact zeroValue67);(focus exact rfl);(focus exact rfl);(focus exact rfl);(focus exact rfl);(focus exact Zo);(focus exact rfl)));(focus exact rfl))|((with_reducible apply Rv hS);(focus ((with_reducible apply Bu (vs:=[_,_,_]) (cs:=[_,_,_,_,_,_]) UU);(focus exact⟨rfl,rfl,rfl,trivial⟩);(focus exact zeroValue67);(focus exact rfl);(focus exact rfl);(focus exact rfl);(focus exact rfl);(focus exact Zo);(focus exact rfl)));(focus exact rfl))|((with_reducible apply Rv hS);(focus ((with_reducible apply Bu (vs:=[_,_,_,_]) (cs:=[_,_,_,_,_,_]) UU);(focus exact⟨rfl,rfl,rfl,rfl,trivial⟩);(focus exact zeroValue67);(focus exact rfl);(focus exact rfl);(focus exact rfl);(focus exact rfl);(focus exact Zo);(focus exact rfl)));(focus exact rfl))|((with_reducible apply Rv hS);(focus ((with_reducible apply Bu (vs:=[_,_,_,_,_]) (cs:=[_,_,_,_,_,_]) UU);(focus exact⟨rfl,rfl,rfl,rfl,rfl,trivial⟩);(focus exact zeroValue67);(focus exact rfl);(focus exact rfl);(focus exact rfl);(focus exact rfl);(focus exact Zo);(focus exact rfl)));(focus exact rfl))|((with_reducible apply Rv hS);(focus ((with_reducible apply Bu (vs:=[_,_,_,_,_,_]) (cs:=[_,_,_,_,_,_]) UU);(focus exact⟨rfl,rfl,rfl,rfl,rfl,rfl,trivial⟩);(focus exact zeroValue67);(focus exact rfl);(focus exact rfl);(focus exact rfl);(focus exact rfl);(focus exact Zo);(focus exact rfl)));(focus exact rfl))|((with_reducible apply Rv hS);(focus ((with_reducible apply Bu (vs:=[]) (cs:=[_,_]) Adp);(focus exact trivial);(focus exact zeroValue96);(focus exact rfl);(focus exact rfl);(focus exact rfl);(focus exact rfl);(focus exact Zo);(focus exact rfl)));(focus exact rfl))|((with_reducible apply Rv hS);(focus ((with_reducible apply Bu (vs:=[_]) (cs:=[_,_]) Adp);(focus exact⟨rfl,trivial⟩);(focus exact zeroValue96);(focus exact rfl);(focus exact rfl);(focus exact rfl);(focus exact rfl);(focus exact Zo);(focus exact rfl)));(focus exact rfl))|((with_reducible apply Rv hS);(focus ((with_reducible apply Bu (vs:=[_,_]) (cs:=[_,_]) Adp);(focus exact⟨rfl,rfl,trivial⟩);(focus exact zeroValue96);(focus exact rfl);(focus exact rfl);(focus exact rfl);(focus exact rfl);(focus exact Zo);(focus exact rfl)));(focus exact rfl))))
  |((with_reducible refine gAp ?_);(first|((with_reducible apply Ap);(iterate 12 (focus exact Zq)))|((with_reducible apply Aps);(iterate 11 (focus exact Zq))));(try clear hS);intro v w fp _ hS)
  |((with_reducible refine gBs ?_);(first|((with_reducible apply B1);(iterate 8 (focus exact Zq)))|((with_reducible apply B2);(iterate 10 (focus exact Zq))));(try clear hS);intro v w fp _ hS)
  |((with_reducible refine gMs ?_);(first|((with_reducible apply Ms);(iterate 9 (focus exact Zq))));(try clear hS);intro v w fp _ hS)
  |((first|with_reducible apply Ug0|with_reducible apply Uq0);(focus exact rfl);(focus exact rfl);(focus (first|assumption|exact rfl)))
  |((with_reducible apply gLd);(with_reducible apply Rv hS);(focus ((with_reducible apply Lb)<;>exact Zq));(focus exact rfl))
  |refine R hS ?_
  |((with_reducible refine gL ?_);(with_reducible apply Rv hS);(focus exact Zv);(focus exact rfl))
  |((with_reducible refine gL ?_);(with_reducible apply Rw hS);(focus exact Zx);(focus exact rfl);intro v hv;(first|((with_reducible refine gI hv ?_);(try clear hv);intro he _;subst he)|((with_reducible refine gVv hv ?_);(try clear hv);intro hv)|((with_reducible refine gSs hv ?_);(try clear hv);intro hv)|((with_reducible refine gBl hv ?_);(try clear hv);intro he;subst he)|((with_reducible refine gSr hv ?_);(try clear hv);intro he;subst he)|((with_reducible refine gaV hv ?_);(try clear hv);intro _ he _;subst he)|((with_reducible refine gaR hv ?_);(try clear hv);intro _ _ he _ _ _ _;subst he)|(obtain⟨_,he,hv⟩:=hv;subst he)|skip))
  |((with_reducible refine Wq.nil ?_);intro w hS)
  |((with_reducible refine gCa ?_);(first|((with_reducible apply Rc0 (vs:=[]));(focus (first|with_reducible exact d1|with_reducible exact d2|with_reducible exact d3|with_reducible exact d4|with_reducible exact d5|with_reducible exact d6|with_reducible exact d7|with_reducible exact d8));(focus exact trivial))|((with_reducible apply Rc0 (vs:=[_]));(focus (first|with_reducible exact d1|with_reducible exact d2|with_reducible exact d3|with_reducible exact d4|with_reducible exact d5|with_reducible exact d6|with_reducible exact d7|with_reducible exact d8));(focus exact⟨rfl,trivial⟩))|((with_reducible apply Rc0 (vs:=[_,_]));(focus (first|with_reducible exact d1|with_reducible exact d2|with_reducible exact d3|with_reducible exact d4|with_reducible exact d5|with_reducible exact d6|with_reducible exact d7|with_reducible exact d8));(focus exact⟨rfl,rfl,trivial⟩))|((with_reducible apply Rc0 (vs:=[_,_,_]));(focus (first|with_reducible exact d1|with_reducible exact d2|with_reducible exact d3|with_reducible exact d4|with_reducible exact d5|with_reducible exact d6|with_reducible exact d7|with_reducible exact d8));(focus exact⟨rfl,rfl,rfl,trivial⟩))|((with_reducible apply Rc0 (vs:=[_,_,_,_]));(focus (first|with_reducible exact d1|with_reducible exact d2|with_reducible exact d3|with_reducible exact d4|with_reducible exact d5|with_reducible exact d6|with_reducible exact d7|with_reducible exact d8));(focus exact⟨rfl,rfl,rfl,rfl,trivial⟩))|((with_reducible apply Rc0 (vs:=[_,_,_,_,_]));(focus (first|with_reducible exact d1|with_reducible exact d2|with_reducible exact d3|with_reducible exact d4|with_reducible exact d5|with_reducible exact d6|with_reducible exact d7|with_reducible exact d8));(focus exact⟨rfl,rfl,rfl,rfl,rfl,trivial⟩))|((with_reducible apply Rc0 (vs:=[_,_,_,_,_,_]));(focus (first|with_reducible exact d1|with_reducible exact d2|with_reducible exact d3|with_reducible exact d4|with_reducible exact d5|with_reducible exact d6|with_reducible exact d7|with_reducible exact d8));(focus exact⟨rfl,rfl,rfl,rfl,rfl,rfl,trivial⟩)));(focus exact rfl);(focus ((first|with_reducible apply c1|with_reducible apply c2|with_reducible apply c3|with_reducible apply c4|with_reducible apply c5|with_reducible apply c6|with_reducible apply c7|with_reducible apply c8);(case' hS=>(with_reducible apply St.sp hS));(case' hV=>exact hV);(try (any_goals((with_reducible apply gP);exact Za)));(try (any_goals((with_reducible apply gSp);exact Zp)));done));(try clear hV hS);intro e w h;(repeat ((with_reducible refine Exists.elim h ?_);(try clear h);intro _ h));obtain⟨hV,he,h⟩:=h;refine⟨_,he,?_⟩;(try clear he);(repeat ((with_reducible refine And.elim ?_ h);(try clear h);intro _ h));have hS:=h;(try clear h))
  |((with_reducible refine gCv ?_);(first|((with_reducible apply Rc1 (vs:=[_]) (caps:=[]));(focus exact rfl);(focus (first|with_reducible exact d1|with_reducible exact d2|with_reducible exact d3|with_reducible exact d4|with_reducible exact d5|with_reducible exact d6|with_reducible exact d7|with_reducible exact d8));(focus exact⟨rfl,trivial⟩))|((with_reducible apply Rc1 (vs:=[_]) (caps:=[_]));(focus exact rfl);(focus (first|with_reducible exact d1|with_reducible exact d2|with_reducible exact d3|with_reducible exact d4|with_reducible exact d5|with_reducible exact d6|with_reducible exact d7|with_reducible exact d8));(focus exact⟨rfl,trivial⟩))|((with_reducible apply Rc1 (vs:=[_]) (caps:=[_,_]));(focus exact rfl);(focus (first|with_reducible exact d1|with_reducible exact d2|with_reducible exact d3|with_reducible exact d4|with_reducible exact d5|with_reducible exact d6|with_reducible exact d7|with_reducible exact d8));(focus exact⟨rfl,trivial⟩))|((with_reducible apply Rc1 (vs:=[_,_]) (caps:=[]));(focus exact rfl);(focus (first|with_reducible exact d1|with_reducible exact d2|with_reducible exact d3|with_reducible exact d4|with_reducible exact d5|with_reducible exact d6|with_reducible exact d7|with_reducible exact d8));(focus exact⟨rfl,rfl,trivial⟩))|((with_reducible apply Rc1 (vs:=[_,_]) (caps:=[_]));(focus exact rfl);(focus (first|with_reducible exact d1|with_reducible exact d2|with_reducible exact d3|with_reducible exact d4|with_reducible exact d5|with_reducible exact d6|with_reducible exact d7|with_reducible exact d8));(focus exact⟨rfl,rfl,trivial⟩))|((with_reducible apply Rc1 (vs:=[_,_]) (caps:=[_,_]));(focus exact rfl);(focus (first|with_reducible exact d1|with_reducible exact d2|with_reducible exact d3|with_reducible exact d4|with_reducible exact d5|with_reducible exact d6|with_reducible exact d7|with_reducible exact d8));(focus exact⟨rfl,rfl,trivial⟩)));(focus exact rfl);(focus ((first|with_reducible apply c1|with_reducible apply c2|with_reducible apply c3|with_reducible apply c4|with_reducible apply c5|with_reducible apply c6|with_reducible apply c7|with_reducible apply c8);(case' hS=>(with_reducible apply St.sp hS));(case' hV=>exact hV);(try (any_goals((with_reducible apply gP);exact Za)));(try (any_goals((with_reducible apply gSp);exact Zp)));done));(try clear hV hS);intro e w h;(repeat ((with_reducible refine Exists.elim h ?_);(try clear h);intro _ h));obtain⟨hV,he,h⟩:=h;refine⟨_,he,?_⟩;(try clear he);(repeat ((with_reducible refine And.elim ?_ h);(try clear h);intro _ h));have hS:=h;(try clear h))
  |((with_reducible refine Exists.elim hV ?_);(try clear hV);intro _ hV)
  |((fail_if_success (have _:=gN hV));first|((with_reducible refine gS2 hV ?_);(try clear hV);intro _ _ _ hV)|((with_reducible refine gS hV ?_);(try clear hV);intro _ hV))
  |((with_reducible refine gG hV ?_ ?_);(focus exact Zg);(try clear hV);intro hV)
  |((with_reducible refine gL ?_);(with_reducible apply Rv hS);(focus exact Zw);(focus exact rfl))
  |((with_reducible refine gL ?_);first|with_reducible refine br hV ?_ ?_|with_reducible refine bn hV ?_ ?_|with_reducible refine bb hV ?_ ?_)
  |((with_reducible refine gBr ?_);(try clear hV);intro hg hV)
  |((with_reducible refine gPi ?_);intro hc;first|replace hV:=hV.1 hc|replace hV:=hV.2 hc|replace hV:=hV.1 (od hc)|replace hV:=hV.2 (ov hc)))):G:=h
end Go.Proofs.YtlhkfkecoekoeaaGreatDoor
namespace Go.Proofs.YtlhkfkecoekoeaaGreatDoor
open Go.Vc _root_.Go.Proofs.Tryz _root_.Go.Proofs.YtlhkfkecoekoeaaGreatDoor.Tryz
abbrev Cl(f:Nat)(a:Array Go.Value)(w:Go.World)(R:Go.Ending->Go.World->Prop):Prop:=Go.Calls Tryz.prog f a w R
section
variable(w0:Go.World)(H:View)(L:Ar)
abbrev pV(Q:Val->Prop):Go.Ending->Go.World->Prop:=fun e w'=>∃(r1:Val)(u1:Go.Value)(H':View),Q r1/\e=.returned (.agg #[u1])/\View.le H H'/\IsW H' u1 r1/\St w0 H' L w'
abbrev pI(Q:Int->Prop):Go.Ending->Go.World->Prop:=fun e w'=>∃(r1:Int),Q r1/\e=.returned (i6 r1)/\I64 r1/\St w0 H L w'
abbrev pB(Q:Bool->Prop):Go.Ending->Go.World->Prop:=fun e w'=>∃(r1:Bool),Q r1/\e=.returned (.bool r1)/\St w0 H L w'
abbrev pR(Q:RV->Prop):Go.Ending->Go.World->Prop:=fun e w'=>∃(r1:RV)(u1:Go.Value)(w1:Go.Value)(H':View),Q r1/\e=.returned (.agg #[i6 r1.k,i6 r1.i,sv r1.t,u1,w1])/\View.le H H'/\I64 r1.k/\I64 r1.i/\IsSl H' cR u1 r1.ks/\IsSl H' cR w1 r1.vs/\St w0 H' L w'
abbrev pY(Q:List UInt8->Prop):Go.Ending->Go.World->Prop:=fun e w'=>∃(r1:List UInt8)(v1:Go.Value)(fp1:Ar),Q r1/\e=.returned (v1)/\OwnSl H cB8 5 v1 r1 fp1/\St w0 H (fp1++L) w'
abbrev pO(Q:Int->Option EA->Prop):Go.Ending->Go.World->Prop:=fun e w'=>∃(r1:Int)(r2:Option EA)(u1:Go.Value)(H':View),Q r1 r2/\e=.returned (.agg #[i6 r1,u1])/\View.le H H'/\I64 r1/\OF Tryz.prog w0 H' u1 r2/\St w0 H' L w'
end
section
variable{P:Go.Program}{Q:Go.Exit->Go.Act->Go.World->Prop}{n:Nat}{l:List (Nat×Go.Value)}{w:Go.World}{ops:Array Go.Oper}{rest:List Go.Oper}{ty:Go.TypeId}{pos:String}{af:Array Go.Edge}{w0:Go.World}{H:View}{L:Ar}{b off d:Nat}{t T:Go.TypeId}{x y:Go.Operand}{arr:Array Go.Value}{v:Go.Value}{gd:Option (Nat×Bool)}{dst:Option Nat}{C:Go.World->Prop}
abbrev rt(e:Go.Ending)(K:Go.Value->Prop):Prop:=match e with|.returned v=>K v|_=>False
theorem Rd{vs:List Go.Value}{xs:List Go.Operand}{ts:Array Go.TypeId}{f:Go.FuncId}{R:Go.Ending->Go.World->Prop}(hb:∀(args:Array Go.Value)(w:Go.World),(Go.callFunc f args).run P w=.ok (.enter f args) w)(hc:Go.Calls P f vs.toArray w R)(k:∀e w',R e w'->rt e fun v=>WL P ops Q n ((d,v)::l) rest w')
  (hv:Ii l xs vs:=by repeat (first|exact trivial|refine⟨rfl,?_⟩))(hdn:Nat.blt d n=true:=by exact rfl):WL P ops Q n l (⟨some d,.call {callee:=.value (.func f),args:=xs.toArray,argTypes:=ts},ty,pos,af,none⟩::rest) w:=
 WL.call rfl rfl hdn (Bf hb hv) hc fun e w' hR=>by
  have:=k e w' hR
  cases e with
  |returned v=>exact⟨v,rfl,this⟩
  |_=>exact this.elim
theorem sA{x1:Go.Value}(hw:St w0 H ([(b,.cells arr T (0,0))]++L) w)(k:∀w',St w0 H ([(b,.cells #[x1] T (0,0))]++L) w'->WL P ops Q n l rest w')(hx:AF l x=some (.pointer (some ⟨b,off,none⟩)):=by exact rfl)(hy:AF l y=some v:=by exact rfl)(hc:v.cells.toList=[x1]:=by exact Ze)(hsz:∀w,(Go.sizeOf t).run P w=.ok 1 w:=by exact Zu)(hone:Jv [x1]:=by exact Zo)
  (hsp:arr.toList=arr.toList.take off++((arr.toList.drop off).take 1++arr.toList.drop (off+1)):=by exact rfl)(hpre:(arr.toList.take off).length=off:=by exact rfl)(hold:((arr.toList.drop off).take 1).length=1:=by exact rfl)(harr:(arr.toList.take off++([x1]++arr.toList.drop (off+1))).toArray=#[x1]:=by exact rfl):WL P ops Q n l (⟨none,.store t x y,ty,pos,af,none⟩::rest) w:=
 Ee #[x1] hsz hw k hx hy hc rfl hone hsp hpre hold harr
theorem sB{x1 x2:Go.Value}(hw:St w0 H ([(b,.cells arr T (0,0))]++L) w)(k:∀w',St w0 H ([(b,.cells #[x1,x2] T (0,0))]++L) w'->WL P ops Q n l rest w')(hx:AF l x=some (.pointer (some ⟨b,off,none⟩)):=by exact rfl)(hy:AF l y=some v:=by exact rfl)(hc:v.cells.toList=[x1,x2]:=by exact Ze)(hsz:∀w,(Go.sizeOf t).run P w=.ok 2 w:=by exact Zu)(hone:Jv [x1,x2]:=by exact Zo)
  (hsp:arr.toList=arr.toList.take off++((arr.toList.drop off).take 2++arr.toList.drop (off+2)):=by exact rfl)(hpre:(arr.toList.take off).length=off:=by exact rfl)(hold:((arr.toList.drop off).take 2).length=2:=by exact rfl)(harr:(arr.toList.take off++([x1,x2]++arr.toList.drop (off+2))).toArray=#[x1,x2]:=by exact rfl):WL P ops Q n l (⟨none,.store t x y,ty,pos,af,none⟩::rest) w:=
 Ee #[x1,x2] hsz hw k hx hy hc rfl hone hsp hpre hold harr
theorem sE{x1 x2 x3 x4 x5:Go.Value}(hw:St w0 H ([(b,.cells arr T (0,0))]++L) w)(k:∀w',St w0 H ([(b,.cells #[x1,x2,x3,x4,x5] T (0,0))]++L) w'->WL P ops Q n l rest w')(hx:AF l x=some (.pointer (some ⟨b,off,none⟩)):=by exact rfl)(hy:AF l y=some v:=by exact rfl)(hc:v.cells.toList=[x1,x2,x3,x4,x5]:=by exact Ze)(hsz:∀w,(Go.sizeOf t).run P w=.ok 5 w:=by exact Zu)(hone:Jv [x1,x2,x3,x4,x5]:=by exact Zo)
  (hsp:arr.toList=arr.toList.take off++((arr.toList.drop off).take 5++arr.toList.drop (off+5)):=by exact rfl)(hpre:(arr.toList.take off).length=off:=by exact rfl)(hold:((arr.toList.drop off).take 5).length=5:=by exact rfl)(harr:(arr.toList.take off++([x1,x2,x3,x4,x5]++arr.toList.drop (off+5))).toArray=#[x1,x2,x3,x4,x5]:=by exact rfl):WL P ops Q n l (⟨none,.store t x y,ty,pos,af,none⟩::rest) w:=
 Ee #[x1,x2,x3,x4,x5] hsz hw k hx hy hc rfl hone hsp hpre hold harr
theorem aV(hw:St w0 H L w)(k:∀b w',St w0 H ([(b,.cells #[.nilIface] 25 (0,0))]++L) w'->WL Tryz.prog ops Q n ((d,.pointer (some ⟨b,0,none⟩))::l) rest w')(hdn:Nat.blt d n=true:=by exact rfl):WL Tryz.prog ops Q n l (⟨some d,.alloc 25,ty,pos,af,none⟩::rest) w:=WL.alloc hdn zeroValue25 rfl hw k
theorem aR(hw:St w0 H L w)(k:∀b w',St w0 H ([(b,.cells #[i6 0,i6 0,sv ([]:Aa),ns,ns] 32 (0,0))]++L) w'->WL Tryz.prog ops Q n ((d,.pointer (some ⟨b,0,none⟩))::l) rest w')(hdn:Nat.blt d n=true:=by exact rfl):WL Tryz.prog ops Q n l (⟨some d,.alloc 32,ty,pos,af,none⟩::rest) w:=WL.alloc hdn zeroValue32 rfl hw k
theorem aO(hw:St w0 H L w)(k:∀b w',St w0 H ([(b,.cells #[i6 0,.nilFunc] 78 (0,0))]++L) w'->WL Tryz.prog ops Q n ((d,.pointer (some ⟨b,0,none⟩))::l) rest w')(hdn:Nat.blt d n=true:=by exact rfl):WL Tryz.prog ops Q n l (⟨some d,.alloc 78,ty,pos,af,none⟩::rest) w:=WL.alloc hdn zeroValue78 rfl hw k
theorem Zf{G:Prop}(h:G:=by simp[Go.Instr.fill,Bs,Be,AW,AJ,AX,Br,BA]):G:=h
theorem bR:Exv Tryz.prog n l C ⟨dst,.build 32 #[],ty,pos,af,gd⟩ (.agg #[i6 0,i6 0,sv ([]:Aa),ns,ns]):=Aq (vs:=[]) (zc:=#[i6 0,i6 0,sv ([]:Aa),ns,ns]) (cs:=#[i6 0,i6 0,sv ([]:Aa),ns,ns]) (places:=#[(0,1),(1,1),(2,1),(3,1),(4,1)]) underlying32 zeroValue32 (fun w=>by simp[sizeOf2,sizeOf3,sizeOf30,sizeOf9]) rfl trivial rfl (by simp[Go.Instr.fill,Bs,Be,AW,AJ,AX,Br,BA])
theorem bV:Exv Tryz.prog n l C ⟨dst,.build 25 #[],ty,pos,af,gd⟩ (.agg #[.nilIface]):=Aq (vs:=[]) (zc:=#[.nilIface]) (cs:=#[.nilIface]) (places:=#[(0,1)]) underlying25 zeroValue25 (fun w=>by simp[sizeOf23]) rfl trivial rfl (by simp[Go.Instr.fill,Bs,Be,AW,AJ,AX,Br,BA])
end
end Go.Proofs.YtlhkfkecoekoeaaGreatDoor
