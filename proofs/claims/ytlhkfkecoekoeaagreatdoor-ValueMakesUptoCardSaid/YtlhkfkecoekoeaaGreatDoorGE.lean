/- Part E of the proof: walks. No condition beyond those that each theorem names. -/
import Derived.Test.YtlhkfkecoekoeaaGreatDoorGD
set_option linter.unusedVariables false
set_option linter.unusedSimpArgs false
set_option maxRecDepth 100000
set_option maxHeartbeats 1000000
namespace Go.Proofs.YtlhkfkecoekoeaaGreatDoor
open Go.Vc _root_.Go.Proofs.Tryz _root_.Go.Proofs.YtlhkfkecoekoeaaGreatDoor.Tryz
variable{w0:World}{H:View}{L:Ar}{w:World}
theorem Acf(m0:Nat):∀{w0:World}{H:View}{L:Ar}{w:World}{b:Nat}{f:Aa}{l:Int}{i:Int}{j:Bool}{E:Int->Int->Prop}{Q:Val->Int->Int->Bool->Prop}(p:I64 l)(g:I64 i)(hN:GlobN w0 H)(hS:St w0 H ([(b,oc #[sv f,i6 l,i6 i,.bool j] 62)]++L) w)(hV:Fq m0 f l i j E Q),
 Cl 23 #[(pq b)] w fun e w'=>(∃(r1:Val)(r2:Int)(r3:Int)(r4:Bool)(u1:Value)(H':View),Q r1 r2 r3 r4/\e=.returned (.agg #[u1])/\View.le H H'/\IsW H' u1 r1/\I64 r2/\I64 r3/\St w0 H' ([(b,oc #[sv f,i6 r2,i6 r3,.bool r4] 62)]++L) w')\/(∃e1 a1,E e1 a1/\e=.panicked (Dy e1 a1)/\∃H1,View.le H H1/\St w0 H1 L w'):=by
 induction m0 with
 |zero=>intro w0 H L w b f l i j E Q p g hN hS hV;exact hV.elim
 |succ m0 ih=>
  intro w0 H L w b f l i j E Q p g hN hS hV
  unfold Fq at hV
  refine BW func23 ntmps23 ?_
  refine z ?_
  refine WL.box (arr:=#[(pq b)]) rfl rfl rfl hS ?_
  intro c w hS
  refine aV hS ?_
  intro m w hS
  iterate 2 refine z ?_
  replace hS:=hS.f2
  refine z ?_
  replace hS:=hS.f3
  refine Rd call24 (Ve p g hS hV) ?_
  rintro _ w⟨g2,hV,rfl,n,hS⟩
  iterate 2 refine z ?_
  refine WL.alloc (arr:=#[ns]) rfl zeroValue42 rfl hS ?_
  intro d w hS
  refine WL.alloc (arr:=#[ns]) rfl zeroValue42 rfl hS ?_
  intro k w hS
  iterate 2 refine z ?_
  refine Rn hS (AR (vs:=[(pq d),(pq c)]) ⟨rfl,rfl,trivial⟩) ?_
  refine WL.alloc (arr:=#[.nilFunc]) rfl zeroValue1 rfl hS ?_
  intro o w hS
  refine Ee #[.func (.func 56) #[] #[(pq d),(pq c)]] sizeOf1 hS ?_
  intro w hS
  iterate 3 refine z ?_
  refine WC.quiet (C:=St w0 H ([(o,Obj.cells #[.func (.func 56) #[] #[(pq d),(pq c)]] 1 (0,0))]++([(k,oc #[ns] 42)]++([(d,oc #[ns] 42)]++([(b,oc #[sv f,i6 g2,i6 i,.bool j] 62)]++([(c,oc #[(pq b)] 60)]++([(m,oc #[.nilIface] 25)]++L))))))) mixed (by kernel_rfl) (hS.drawn _) (Rm ((Aj isAgg60 rfl rfl).of (fun _ h=>St.f5 h)) ?_)
  iterate 2 refine Rq ?_
  refine Rm ((Aj isAgg9 rfl rfl).of (fun _ h=>St.f4 h)) ?_
  refine Rm ((Aj isAgg60 rfl rfl).of (fun _ h=>St.f5 h)) ?_
  iterate 2 refine Rq ?_
  refine Rm ((Aj isAgg3 rfl rfl).of (fun _ h=>St.f4 h)) ?_
  obtain⟨d1,hV⟩:=hV
  refine Rm (My underlying9 rfl rfl d1) ?_
  refine Rq ?_
  refine Wq.nil fun w hS=>?_
  iterate 4 refine z ?_
  refine Rd call57 (GW hS hV) ?_
  rintro _ w⟨k8,hV,rfl,hS⟩
  iterate 2 refine z ?_
  refine Cf hV ?_ ?_<;>intro j5 hV
  refine z ?_
  replace hS:=hS.f5
  refine z ?_
  replace hS:=hS.f2
  refine z ?_
  replace hS:=hS.nilseg
  replace hS:=hS.f3.f2.f5.f6
  refine WL.callP rfl rfl rfl (Bf (vs:=[(pq b),sv ([125]:Aa),.func (.func 56) #[] #[(pq d),(pq c)]]) call58 ⟨rfl,rfl,rfl,trivial⟩) (YF (@ih) n g OwnSl.nil hN hS hV) (by rintro _ w⟨b0,h6,b5,rfl,i3,e8,hS⟩;exact⟨_,rfl,WQ.of fun a ha=>And.intro ha.defers (.inr ⟨b0,h6,b5,rfl,_,((View.le.refl _).trans e8),hS.drop.drop.drop⟩)⟩) ?_
  rintro _ w⟨g7,g8,k9,i9,l7,j1,i2,hV,rfl,e7,x,A,c4,hS⟩
  refine⟨_,rfl,?_⟩
  refine z ?_
  replace hS:=hS.f6.drop
  replace hS:=hS.f5.drop
  refine z ?_
  refine WC.drawn (σ:=[0,1,2,3,4]) [[],[],[1],[0,1,2],[0,1,2,3]] [2,3,4] mixed (by kernel_rfl) (hS.drawn _) ?_
  refine Wd.runb (off:=0) rfl rfl rfl rfl (fun _ _ _ h=>Aj isAgg60 rfl h) rfl (fun _ h=>St.f4 h) fun k3 d7=>?_
  refine Wd.runb (off:=0) rfl rfl rfl rfl (fun _ _ _ h=>Aj isAgg42 rfl h) rfl (fun _ h=>St.f2 h) fun k4 j8=>?_
  refine Wd.turn rfl rfl rfl fun w hS=>?_
  replace hS:=hS.f3
  refine Rd call60 (HA c4 hS hV) ?_
  rintro _ w⟨l0,l5,i4,hV,rfl,e9,c5,hS⟩
  refine WL.nil (DQ.mk2 hS ⟨il,.inr (d7 _ _ _ _ rfl (fun _ h=>St.f3 h)),trivial⟩ ?_)
  refine Wd.turn rfl rfl rfl fun w hS=>?_
  refine Rd call59 (LG x A c5 hS hV) ?_
  rintro _ w⟨g9,h0,T,a2,hV,rfl,f0,c6,hS⟩
  refine WL.nil (DQ.mk2 hS ⟨il,il,trivial⟩ ?_)
  refine Wd.turn rfl rfl rfl fun w hS=>?_
  replace hS:=hS.f4
  refine sA hS ?_
  intro w hS
  refine WL.nil (DQ.mk2 hS ⟨il,il,trivial⟩ ?_)
  refine Wd.nil fun w hS=>?_
  refine z ?_
  replace hS:=hS.f4.drop
  replace hS:=hS.f3.drop
  iterate 3 refine z ?_
  have d4:=An (P:=Tryz.prog) (cs:=[T]) isAgg25 sizeOf25 hS rfl
  replace hS:=hS.drop
  exact AZ (il) rfl rfl d4 (.inl ⟨g9,g7,g8,h0,T,a2,hV,rfl,((((View.le.refl _).trans e7).trans e9).trans f0),c6,x,A,hS⟩)
  iterate 2 refine z ?_
  refine Rd call57 (GW hS hV) ?_
  rintro _ w⟨l1,hV,rfl,hS⟩
  iterate 2 refine z ?_
  refine Cf hV ?_ ?_<;>intro j4 hV
  refine z ?_
  replace hS:=hS.f5
  refine z ?_
  replace hS:=hS.f2
  refine z ?_
  replace hS:=hS.nilseg
  replace hS:=hS.f3.f2.f5.f6
  refine WL.callP rfl rfl rfl (Bf (vs:=[(pq b),sv ([62,62]:Aa),.func (.func 56) #[] #[(pq d),(pq c)]]) call58 ⟨rfl,rfl,rfl,trivial⟩) (YF (@ih) n g OwnSl.nil hN hS hV) (by rintro _ w⟨b1,h7,b6,rfl,i5,f8,hS⟩;exact⟨_,rfl,WQ.of fun a ha=>And.intro ha.defers (.inr ⟨b1,h7,b6,rfl,_,((View.le.refl _).trans f8),hS.drop.drop.drop⟩)⟩) ?_
  rintro _ w⟨J,N,h1,a7,V,j2,a3,hV,rfl,f1,B,D,c7,hS⟩
  refine⟨_,rfl,?_⟩
  refine z ?_
  replace hS:=hS.f6.drop
  replace hS:=hS.f5.drop
  refine z ?_
  refine WC.drawn (σ:=[0,1,2,3,4]) [[],[],[1],[0,1,2],[0,1,2,3]] [2,3,4] mixed (by kernel_rfl) (hS.drawn _) ?_
  refine Wd.runb (off:=0) rfl rfl rfl rfl (fun _ _ _ h=>Aj isAgg60 rfl h) rfl (fun _ h=>St.f4 h) fun k5 d8=>?_
  refine Wd.runb (off:=0) rfl rfl rfl rfl (fun _ _ _ h=>Aj isAgg42 rfl h) rfl (fun _ h=>St.f2 h) fun k6 j9=>?_
  refine Wd.turn rfl rfl rfl fun w hS=>?_
  replace hS:=hS.f3
  obtain⟨i7,f9,c8,hS⟩:∃K,View.le a3 K/\IsSl K cV V a7/\St w0 K ([(b,oc #[sv f,i6 J,i6 N,.bool h1] 62)]++([(d,oc #[V] 42)]++([(c,oc #[(pq b)] 60)]++([(m,oc #[.nilIface] 25)]++L)))) w:=⟨_,hS.put_le,c7.share hS.put_le,hS.freeze⟩
  refine Rd call61 (Dq c8 hS hV) ?_
  rintro _ w⟨l2,l6,i8,hV,rfl,g0,c9,hS⟩
  refine WL.nil (DQ.mk2 hS ⟨il,.inr (d8 _ _ _ _ rfl (fun _ h=>St.f3 h)),trivial⟩ ?_)
  refine Wd.turn rfl rfl rfl fun w hS=>?_
  refine Rd call59 (LG B D c9 hS hV) ?_
  rintro _ w⟨h2,h3,U,a4,hV,rfl,g1,d0,hS⟩
  refine WL.nil (DQ.mk2 hS ⟨il,il,trivial⟩ ?_)
  refine Wd.turn rfl rfl rfl fun w hS=>?_
  replace hS:=hS.f4
  refine sA hS ?_
  intro w hS
  refine WL.nil (DQ.mk2 hS ⟨il,il,trivial⟩ ?_)
  refine Wd.nil fun w hS=>?_
  refine z ?_
  replace hS:=hS.f4.drop
  replace hS:=hS.f3.drop
  iterate 3 refine z ?_
  have d5:=An (P:=Tryz.prog) (cs:=[U]) isAgg25 sizeOf25 hS rfl
  replace hS:=hS.drop
  exact AZ (il) rfl rfl d5 (.inl ⟨h2,J,N,h3,U,a4,hV,rfl,(((((View.le.refl _).trans f1).trans f9).trans g0).trans g1),d0,B,D,hS⟩)
  iterate 2 refine z ?_
  refine Rd call57 (GW hS hV) ?_
  rintro _ w⟨l3,hV,rfl,hS⟩
  iterate 2 refine z ?_
  refine Cf hV ?_ ?_<;>intro j3 hV
  refine z ?_
  replace hS:=hS.f5
  refine z ?_
  refine Rn hS (AR (vs:=[(pq k),(pq c),(pq o)]) ⟨rfl,rfl,rfl,trivial⟩) ?_
  replace hS:=hS.nilseg
  replace hS:=hS.nilseg
  replace hS:=hS.f6.f5.f5.f5.f6.f7
  refine WL.callP rfl rfl rfl (Bf (vs:=[(pq b),.func (.func 63) #[] #[(pq k),(pq c),(pq o)]]) call62 ⟨rfl,rfl,trivial⟩) (Abk (@ih) n g OwnSl.nil OwnSl.nil hN hS hV) (by rintro _ w⟨a8,h4,b3,rfl,h8,e2,hS⟩;exact⟨_,rfl,WQ.of fun a ha=>And.intro ha.defers (.inr ⟨a8,h4,b3,rfl,_,((View.le.refl _).trans e2),hS.drop⟩)⟩) ?_
  rintro _ w⟨q,r,I,a5,a6,s,j0,t,b2,W,hV,rfl,e0,u,v,b7,b8,hS⟩
  refine⟨_,rfl,?_⟩
  refine z ?_
  replace hS:=hS.f5.drop
  refine z ?_
  refine WC.drawn (σ:=[0,1,2,3,4,5]) [[],[],[],[1,2],[0,1,2,3],[0,1,2,3,4]] [3,4,5] mixed (by kernel_rfl) (hS.drawn _) ?_
  refine Wd.runb (off:=0) rfl rfl rfl rfl (fun _ _ _ h=>Aj isAgg60 rfl h) rfl (fun _ h=>St.f4 h) fun k0 d6=>?_
  refine Wd.runb (off:=0) rfl rfl rfl rfl (fun _ _ _ h=>Aj isAgg42 rfl h) rfl (fun _ h=>St.f2 h) fun k1 j6=>?_
  refine Wd.runb (off:=0) rfl rfl rfl rfl (fun _ _ _ h=>Aj isAgg42 rfl h) rfl (fun _ h=>St.f5 h) fun k2 j7=>?_
  refine Wd.turn rfl rfl rfl fun w hS=>?_
  replace hS:=hS.f3
  obtain⟨Y,F,b9,hS⟩:∃K,View.le W K/\IsSl K cV s a5/\St w0 K ([(b,oc #[sv f,i6 q,i6 r,.bool I] 62)]++([(k,oc #[s] 42)]++([(c,oc #[(pq b)] 60)]++([(d,oc #[t] 42)]++(b2++([(m,oc #[.nilIface] 25)]++L)))))) w:=⟨_,hS.put_le,b7.share hS.put_le,hS.freeze⟩
  replace hS:=hS.f5
  obtain⟨h9,G,c0,hS⟩:∃K,View.le Y K/\IsSl K cV t a6/\St w0 K ([(b,oc #[sv f,i6 q,i6 r,.bool I] 62)]++([(k,oc #[s] 42)]++([(c,oc #[(pq b)] 60)]++([(d,oc #[t] 42)]++([(m,oc #[.nilIface] 25)]++L))))) w:=⟨_,hS.put_le,(b8.mono F).share hS.put_le,hS.freeze⟩
  refine Rd call65 (DY (b9.mono G) c0 hS hV) ?_
  rintro _ w⟨k7,l4,i0,hV,rfl,e3,c1,hS⟩
  refine WL.nil (DQ.mk2 hS ⟨il,il,.inr (d6 _ _ _ _ rfl (fun _ h=>St.f3 h)),trivial⟩ ?_)
  refine Wd.turn rfl rfl rfl fun w hS=>?_
  refine Rd call59 (LG u v c1 hS hV) ?_
  rintro _ w⟨g3,g4,O,Z,hV,rfl,e4,c2,hS⟩
  refine WL.nil (DQ.mk2 hS ⟨il,il,il,trivial⟩ ?_)
  refine Wd.turn rfl rfl rfl fun w hS=>?_
  replace hS:=hS.f5
  refine sA hS ?_
  intro w hS
  refine WL.nil (DQ.mk2 hS ⟨il,il,il,trivial⟩ ?_)
  refine Wd.nil fun w hS=>?_
  refine z ?_
  replace hS:=hS.f4.drop
  replace hS:=hS.f4.drop
  replace hS:=hS.f3.drop
  iterate 3 refine z ?_
  have d2:=An (P:=Tryz.prog) (cs:=[O]) isAgg25 sizeOf25 hS rfl
  replace hS:=hS.drop
  exact AZ (il) rfl rfl d2 (.inl ⟨g3,q,r,g4,O,Z,hV,rfl,((((((View.le.refl _).trans e0).trans F).trans G).trans e3).trans e4),c2,u,v,hS⟩)
  iterate 3 refine z ?_
  replace hS:=hS.f3.drop
  replace hS:=hS.f2.drop
  replace hS:=hS.drop
  refine z ?_
  replace hS:=hS.f2
  refine z ?_
  replace hS:=hS.f2
  refine WL.callP rfl rfl rfl (Bf (vs:=[(pq b)]) call66 ⟨rfl,trivial⟩) (YV n g hN hS hV) (by rintro _ w⟨a9,h5,b4,rfl,i1,e6,hS⟩;exact⟨_,rfl,WQ.of fun a ha=>And.intro ha.defers (.inr ⟨a9,h5,b4,rfl,_,((View.le.refl _).trans e6),hS.drop.drop⟩)⟩) ?_
  rintro _ w⟨g5,g6,S,a0,hV,rfl,e5,c3,d9,hS⟩
  refine⟨_,rfl,?_⟩
  replace hS:=hS.f3
  refine sA hS ?_
  intro w hS
  refine z ?_
  replace hS:=hS.f3.drop
  refine z ?_
  have d3:=An (P:=Tryz.prog) (cs:=[S]) isAgg25 sizeOf25 hS rfl
  replace hS:=hS.drop
  exact AZ (il) rfl rfl d3 (.inl ⟨g5,g6,i,j,S,a0,hV,rfl,((View.le.refl _).trans e5),c3,d9,g,hS⟩)
theorem ZU{a_1:Aa}{c:Aa}{Q:Int->Prop}(hS:St w0 H L w)(hV:Kr a_1 c Q):
 Cl 54 #[sv a_1,sv c] w (pI w0 H L Q):=by
 refine Co func54 ntmps54 ?_
 exact Z
def Vi(G:RV->RV->(Int->Prop)->Prop):Prop:=∀{w0:World}{H:View}{L:Ar}{w:World}{a_1:RV}{b:Value}{c:Value}{b_8:RV}{d:Value}{a:Value}{Q:Int->Prop}(n:I64 a_1.k)(o:I64 a_1.i)(h:IsSl H cR b a_1.ks)(j:IsSl H cR c a_1.vs)(l:I64 b_8.k)(m:I64 b_8.i)(f:IsSl H cR d b_8.ks)(g:IsSl H cR a b_8.vs)(hS:St w0 H (L) w)(hV:G a_1 b_8 Q),Calls Tryz.prog 20 #[.agg #[i6 a_1.k,i6 a_1.i,sv a_1.t,b,c],.agg #[i6 b_8.k,i6 b_8.i,sv b_8.t,d,a]] w fun e w'=>∃(r1:Int),Q r1/\e=.returned (i6 r1)/\I64 r1/\St w0 H (L) w'
theorem To{G:RV->RV->(Int->Prop)->Prop}(hG:Vi G){i:Value}{a_1:List RV}{j:Value}{g:List RV}{Q:Int->Prop}(c:IsSl H cR i a_1)(f:IsSl H cR j g)(hS:St w0 H L w)(hV:KR G a_1 g Q):
 Cl 55 #[i,j] w (pI w0 H L Q):=by
 refine Co func55 ntmps55 ?_
 have O:=c.bound
 replace hV:=hV O
 refine zz ?_
 refine Rn hS (Ao underlying30 rfl c) ?_
 have P:=f.bound
 replace hV:=hV P
 refine R hS ?_
 refine Rn hS (Ao underlying30 rfl f) ?_
 refine zz ?_
 refine Ce hV ?_ ?_<;>intro a0 hV
 refine zz ?_
 exact v1
 have E:=c.bound
 replace hV:=hV E
 refine zz ?_
 refine Rn hS (Ao underlying30 rfl c) ?_
 have F:=f.bound
 replace hV:=hV F
 refine R hS ?_
 refine Rn hS (Ao underlying30 rfl f) ?_
 refine zz ?_
 refine Ce hV ?_ ?_<;>intro Y hV
 refine zz ?_
 exact v1
 obtain⟨r,U,V,hV⟩:=hV
 refine zz ?_
 refine WC.loop (σ:=Int) (fun s a w=>∃d,s=d/\r d/\I64 d/\St w0 H (L) w/\Fr 35 [(0,i),(1,j),(5,i6 d)] a) U (0:Int) ?_ ?_
 exact y
 rintro d a w⟨_,rfl,hI,b1,hS,ha⟩
 refine Ab ha ?_
 replace hV:=hV _ hI
 have N:=c.bound
 replace hV:=hV N
 refine zz ?_
 refine Rn hS (Ao underlying30 rfl c) ?_
 refine zz ?_
 refine Ce hV ?_ ?_<;>intro W hV
 iterate 5 refine z ?_
 refine WC.drawn (σ:=[0,1,2,3,4,5,6,7,8,9]) [[],[],[0,1],[0,1,2],[],[],[4,5],[4,5,6],[0,1,2,3,4,5,6,7],[0,1,2,3,4,5,6,7,8]] [8] mixed (by kernel_rfl) (hS.drawn _) ?_
 refine Dm fun b4 a1=>?_
 refine Dm fun b5 a2=>?_
 obtain⟨C,hV⟩:=hV
 refine Wd.runx rfl rfl rfl rfl (AA (Au underlying30 sizeOf32 rfl rfl c C)) ?_
 intro b2 S
 intro b6 a3
 refine Wd.runs (fp:=([]:Ar)) (L:=L) rfl rfl rfl rfl (AT isAgg32 sizeOf32 rfl S) (fun _ h=>h) ?_
 rintro c4⟨_,rfl,hu⟩
 obtain⟨c6,c7,rfl,l,m,t,x⟩:=cR_rep.1 hu
 replace hV:=hV l m
 intro b7 a4
 refine Dm fun b8 a5=>?_
 refine Dm fun b9 a6=>?_
 obtain⟨D,hV⟩:=hV
 refine Wd.runx rfl rfl rfl rfl (AA (Au underlying30 sizeOf32 rfl rfl f D)) ?_
 intro b3 T
 intro c0 a7
 refine Wd.runs (fp:=([]:Ar)) (L:=L) rfl rfl rfl rfl (AT isAgg32 sizeOf32 rfl T) (fun _ h=>h) ?_
 rintro c5⟨_,rfl,hu⟩
 obtain⟨c8,c9,rfl,n,o,A,B⟩:=cR_rep.1 hu
 replace hV:=hV n o
 intro c1 a8
 refine Wd.turn rfl rfl rfl fun w hS=>?_
 refine Rd call20 (hG (a_1:=(ix a_1 d)) (b_8:=(ix g d)) l m t x n o A B hS hV) ?_
 rintro _ w⟨c3,hV,rfl,b0,hS⟩
 refine WL.nil (DQ.mk2 hS ⟨il,il,il,il,il,il,il,il,trivial⟩ ?_)
 refine Wd.run rfl rfl rfl rfl (fun _=>Ba rfl) fun c2 a9=>?_
 refine Wd.nil fun w hS=>?_
 refine zz ?_
 exact Z
 refine zz ?_
 exact v1
theorem Ny(m0:Nat):∀{w0:World}{H:View}{L:Ar}{w:World}{a_1:RV}{c:Value}{d:Value}{b_8:RV}{e:Value}{b:Value}{Q:Int->Prop}(B:I64 a_1.k)(C:I64 a_1.i)(l:IsSl H cR c a_1.ks)(m:IsSl H cR d a_1.vs)(x:I64 b_8.k)(A:I64 b_8.i)(h:IsSl H cR e b_8.ks)(j:IsSl H cR b b_8.vs)(hS:St w0 H L w)(hV:BX m0 a_1 b_8 Q),
 Cl 20 #[.agg #[i6 a_1.k,i6 a_1.i,sv a_1.t,c,d],.agg #[i6 b_8.k,i6 b_8.i,sv b_8.t,e,b]] w (pI w0 H L Q):=by
 induction m0 with
 |zero=>intro w0 H L w a_1 c d b_8 e b Q B C l m x A h j hS hV;exact hV.elim
 |succ m0 ih=>
  intro w0 H L w a_1 c d b_8 e b Q B C l m x A h j hS hV
  unfold BX at hV
  refine Co func20 ntmps20 ?_
  refine zz ?_
  refine WL.box (arr:=#[i6 a_1.k,i6 a_1.i,sv a_1.t,c,d]) rfl rfl rfl hS ?_
  intro u w hS
  refine WL.box (arr:=#[i6 b_8.k,i6 b_8.i,sv b_8.t,e,b]) rfl rfl rfl hS ?_
  intro v w hS
  refine zz ?_
  replace hS:=hS.f2
  refine zz ?_
  replace hS:=hS.f2
  refine zz ?_
  refine Cd ?_ ?_
  intro s
  replace hV:=hV.1 (od s)
  refine zz ?_
  replace hS:=hS.f2.drop
  replace hS:=hS.drop
  refine zz ?_
  exact v1
  intro s
  replace hV:=hV.2 (ov s)
  refine zz ?_
  replace hS:=hS.f2
  refine zz ?_
  replace hS:=hS.f2
  refine zz ?_
  refine Cd ?_ ?_
  intro r
  replace hV:=hV.1 (od r)
  refine zz ?_
  replace hS:=hS.f2.drop
  replace hS:=hS.drop
  refine zz ?_
  exact v1
  intro r
  replace hV:=hV.2 (ov r)
  refine zz ?_
  replace hS:=hS.f2
  refine zz ?_
  replace hS:=hS.f2
  refine zz ?_
  refine Cd ?_ ?_
  intro q
  replace hV:=hV.1 (od q)
  refine zz ?_
  replace hS:=hS.f2.drop
  replace hS:=hS.drop
  refine zz ?_
  exact v1
  intro q
  replace hV:=hV.2 (ov q)
  refine zz ?_
  replace hS:=hS.f2
  refine zz ?_
  replace hS:=hS.f2
  refine zz ?_
  refine Cd ?_ ?_
  intro p
  replace hV:=hV.1 (od p)
  refine zz ?_
  replace hS:=hS.f2.drop
  replace hS:=hS.drop
  refine zz ?_
  exact v1
  intro p
  replace hV:=hV.2 (ov p)
  refine zz ?_
  replace hS:=hS.f2
  refine zz ?_
  replace hS:=hS.f2
  refine R hS ?_
  refine Rd call54 (ZU hS hV) ?_
  rintro _ w⟨P,hV,rfl,I,hS⟩
  obtain⟨D,F,hV⟩:=hV
  iterate 2 refine z ?_
  refine WC.meet (fun a w=>∃f,D f/\I64 f/\St w0 H ([(u,oc #[i6 a_1.k,i6 a_1.i,sv a_1.t,c,d] 32)]++([(v,oc #[i6 b_8.k,i6 b_8.i,sv b_8.t,e,b] 32)]++L)) w/\Fr 46 [(2,(pq u)),(3,(pq v)),(5,i6 f)] a) ?_ ?_
  rintro a w⟨f,hI,J,hS,ha⟩
  refine Ab ha ?_
  have hV:=F _ hI
  obtain⟨E,G,hV⟩:=hV
  refine WC.meet (fun a w=>∃g,E g/\I64 g/\St w0 H (L) w/\Fr 46 [(5,i6 g)] a) ?_ ?_
  rintro a w⟨g,hI,N,hS,ha⟩
  refine Ab ha ?_
  have hV:=G _ hI
  refine zz ?_
  exact v1
  refine zz ?_
  refine Cd ?_ ?_
  intro o
  replace hV:=hV.1 (od o)
  refine zz ?_
  replace hS:=hS.f2
  refine R hS ?_
  refine Rd call55 (To (@ih) m j hS hV) ?_
  rintro _ w⟨T,hV,rfl,O,hS⟩
  refine zz ?_
  replace hS:=hS.drop
  replace hS:=hS.drop
  exact y
  intro o
  replace hV:=hV.2 (ov o)
  refine zz ?_
  replace hS:=hS.drop
  replace hS:=hS.drop
  exact y
  refine zz ?_
  refine Cd ?_ ?_
  intro n
  replace hV:=hV.1 (od n)
  refine zz ?_
  replace hS:=hS.f2
  refine zz ?_
  replace hS:=hS.f2
  refine R hS ?_
  refine Rd call55 (To (@ih) l h hS hV) ?_
  rintro _ w⟨S,hV,rfl,K,hS⟩
  refine zz ?_
  replace hS:=hS.f2
  exact y
  intro n
  replace hV:=hV.2 (ov n)
  refine zz ?_
  replace hS:=hS.f2
  exact y
theorem PQ(m0:Nat):∀{w0:World}{H:View}{L:Ar}{w:World}{v_1:RV}{c:Value}{d:Value}{Q:Int->Prop}(o:I64 v_1.k)(r:I64 v_1.i)(j:IsSl H cR c v_1.ks)(n:IsSl H cR d v_1.vs)(hS:St w0 H L w)(hV:DU m0 v_1 Q),
 Cl 14 #[.agg #[i6 v_1.k,i6 v_1.i,sv v_1.t,c,d]] w (pI w0 H L Q):=by
 induction m0 with
 |zero=>intro w0 H L w v_1 c d Q o r j n hS hV;exact hV.elim
 |succ m0 ih=>
  intro w0 H L w v_1 c d Q o r j n hS hV
  unfold DU at hV
  refine BW func14 ntmps14 ?_
  have c1:=@ih;have d1:=call14
  refine zz ?_
  refine WL.box (arr:=#[i6 v_1.k,i6 v_1.i,sv v_1.t,c,d]) rfl rfl rfl hS ?_
  intro b_8 w hS
  obtain⟨C,P,T,hV⟩:=hV
  refine zz ?_
  refine WC.loop (σ:=Int×Int) (fun s a w=>∃g f,s=(g,f)/\C (g,f)/\I64 g/\I64 f/\St w0 H ([(b_8,oc #[i6 v_1.k,i6 v_1.i,sv v_1.t,c,d] 32)]++L) w/\Fr 41 [(1,(pq b_8)),(3,i6 g),(4,i6 f)] a) P ((1:Int),(0:Int)) ?_ ?_
  exact y
  rintro _ a w⟨g,f,rfl,hI,a0,a1,hS,ha⟩
  refine Ab ha ?_
  replace hV:=hV _ hI
  have G:Len v_1.ks:=j.bound
  replace hV:=hV G
  refine zz ?_
  refine Rn hS (Ao underlying30 rfl j) ?_
  refine zz ?_
  refine Ce hV ?_ ?_<;>intro U hV
  obtain⟨F,hV⟩:=hV
  refine zz ?_
  refine Rx hS (Au underlying30 sizeOf32 rfl rfl j F) ?_
  intro a5 N
  refine Rx hS (AE isAgg32 sizeOf32 rfl N) ?_
  rintro a7⟨_,rfl,hu⟩
  obtain⟨a8,a9,rfl,x,A,D,E⟩:=cR_rep.1 hu
  replace hV:=hV x A
  refine Rd call14 (ih (v_1:=(ix v_1.ks f)) x A D E hS hV) ?_
  rintro _ w⟨a6,hV,rfl,a2,hS⟩
  obtain⟨V,hV⟩:=hV
  obtain⟨W,hV⟩:=hV
  refine zz ?_
  exact y
  obtain⟨B,O,S,hV⟩:=hV
  refine zz ?_
  refine WC.loop (σ:=Int×Int) (fun s a w=>∃m l,s=(m,l)/\B (m,l)/\I64 m/\I64 l/\St w0 H ([(b_8,oc #[i6 v_1.k,i6 v_1.i,sv v_1.t,c,d] 32)]++L) w/\Fr 41 [(1,(pq b_8)),(3,i6 m),(6,i6 l)] a) O (g,(0:Int)) ?_ ?_
  exact y
  rintro _ a w⟨m,l,rfl,hI,a3,a4,hS,ha⟩
  refine Ab ha ?_
  replace hV:=hV _ hI
  have Y:Len v_1.vs:=n.bound
  exact Z
theorem IE{v_1:RV}{c:Value}{d:Value}{Q:RV->Prop}(j:I64 v_1.k)(l:I64 v_1.i)(f:IsSl H cR c v_1.ks)(g:IsSl H cR d v_1.vs)(hS:St w0 H L w)(hV:FQ v_1 Q):
 Cl 80 #[.agg #[i6 v_1.k,i6 v_1.i,sv v_1.t,c,d]] w (pR w0 H L Q):=by
 refine BW func80 ntmps80 ?_
 refine zz ?_
 refine WL.box (arr:=#[i6 v_1.k,i6 v_1.i,sv v_1.t,c,d]) rfl rfl rfl hS ?_
 intro b_8 w hS
 refine aR hS ?_
 intro m w hS
 replace hS:=hS.f2
 refine zz ?_
 refine Rn hS (Ac (cs:=[i6 v_1.k,i6 v_1.i,sv v_1.t,c,d]) isAgg32 sizeOf32 rfl rfl rfl) ?_
 obtain⟨mf,hV⟩:=hV
 refine Rd call14 (PQ mf (v_1:=v_1) j l f g hS hV) ?_
 rintro _ w⟨o,hV,rfl,n,hS⟩
 exact Z
theorem GX{c:Bool}{Q:RV->Prop}(hS:St w0 H L w)(hV:AQ c Q):
 Cl 83 #[.bool c] w (pR w0 H L Q):=by
 refine BW func83 ntmps83 ?_
 exact Z
theorem CT{a:Int}{Q:RV->Prop}(c:I64 a)(hS:St w0 H L w)(hV:BU a Q):
 Cl 81 #[i6 a] w (pR w0 H L Q):=by
 refine BW func81 ntmps81 ?_
 refine zz ?_
 refine aR hS ?_
 intro b w hS
 refine zz ?_
 refine Rn hS (Aq (vs:=[i6 (2:Int),i6 a]) (zc:=#[i6 0,i6 0,sv ([]:Aa),ns,ns]) (cs:=#[i6 (2:Int),i6 a,sv ([]:Aa),ns,ns]) (places:=#[(0,1),(1,1),(2,1),(3,1),(4,1)]) underlying32 zeroValue32 (fun w=>by simp[sizeOf2,sizeOf3,sizeOf30,sizeOf9]) rfl ⟨rfl,rfl,trivial⟩ rfl Zf) ?_
 refine sE hS ?_
 intro w hS
 refine zz ?_
 exact vc
theorem Hb{n:Value}{g:List RV}{v_4:RV}{d:Value}{f:Value}{Q:Int->Bool->Prop}(l:IsSl H cR n g)(E:I64 v_4.k)(F:I64 v_4.i)(x:IsSl H cR d v_4.ks)(r:IsSl H cR f v_4.vs)(hS:St w0 H L w)(hV:DC g v_4 Q):
 Cl 78 #[n,.agg #[i6 v_4.k,i6 v_4.i,sv v_4.t,d,f]] w fun e w'=>∃(r1:Int)(r2:Bool),Q r1 r2/\e=.returned (.tuple #[i6 r1,.bool r2])/\I64 r1/\St w0 H (L) w':=by
 refine Co func78 ntmps78 ?_
 refine zz ?_
 refine WL.box (arr:=#[i6 v_4.k,i6 v_4.i,sv v_4.t,d,f]) rfl rfl rfl hS ?_
 intro j w hS
 have B:=l.bound
 replace hV:=hV B
 refine zz ?_
 refine Rn hS (Ao underlying30 rfl l) ?_
 obtain⟨q,G,I,hV⟩:=hV
 refine zz ?_
 refine WC.loop (σ:=Int×Int) (fun s a w=>∃b c,s=(b,c)/\q (b,c)/\I64 b/\I64 c/\St w0 H ([(j,oc #[i6 v_4.k,i6 v_4.i,sv v_4.t,d,f] 32)]++L) w/\Fr 34 [(0,n),(3,(pq j)),(6,i6 b),(7,i6 c)] a) G ((0:Int),(g.length:Int)) ?_ ?_
 exact y
 rintro _ a w⟨b,c,rfl,hI,D,a0,hS,ha⟩
 refine Ab ha ?_
 replace hV:=hV _ hI
 refine zz ?_
 refine Ce hV ?_ ?_<;>intro N hV
 obtain⟨P,hV⟩:=hV
 obtain⟨m,hV⟩:=hV
 refine zz ?_
 refine Rn hS (Ru rfl rfl m) ?_
 iterate 3 refine z ?_
 refine WC.drawn (σ:=[0,1,2,3,4,5,6]) [[],[],[0,1],[0,1,2],[],[0,1,2,3,4],[0,1,2,3,4,5]] [5] mixed (by kernel_rfl) (hS.drawn _) ?_
 refine Dm fun a7 W=>?_
 refine Dm fun a2 Y=>?_
 obtain⟨A,hV⟩:=hV
 refine Wd.runx rfl rfl rfl rfl (AA (Au underlying30 sizeOf32 rfl rfl l A)) ?_
 intro a1 C
 intro a3 S
 refine Wd.runs (fp:=([]:Ar)) (L:=[(j,oc #[i6 v_4.k,i6 v_4.i,sv v_4.t,d,f] 32)]++L) rfl rfl rfl rfl (AT isAgg32 sizeOf32 rfl C) (fun _ h=>h) ?_
 rintro a9⟨_,rfl,hu⟩
 obtain⟨b0,b1,rfl,o,p,u,v⟩:=cR_rep.1 hu
 replace hV:=hV o p
 intro a4 T
 refine Wd.runbs (off:=0) (k:=5) (cs:=[i6 v_4.k,i6 v_4.i,sv v_4.t,d,f]) rfl rfl rfl rfl (fun _ _ _ h=>Ac isAgg32 sizeOf32 rfl h rfl) rfl (fun _ h=>h) fun a5 U=>?_
 refine Wd.turn rfl rfl rfl fun w hS=>?_
 obtain⟨mf,hV⟩:=hV
 refine Rd call20 (Ny mf (a_1:=(ix g ((b+c).tdiv (2:Int)))) (b_8:=v_4) o p u v E F x r hS hV) ?_
 rintro _ w⟨a8,hV,rfl,Z,hS⟩
 refine WL.nil (DQ.mk2 hS ⟨il,il,il,il,il,trivial⟩ ?_)
 refine Wd.run rfl rfl rfl rfl (fun _=>Ba rfl) fun a6 V=>?_
 refine Wd.nil fun w hS=>?_
 refine zz ?_
 refine Ce hV ?_ ?_<;>intro K hV
 replace hS:=hS.drop
 refine zz ?_
 exact Yb rfl rfl rfl (⟨((b+c).tdiv (2:Int)),true,hV,rfl,m.2,hS⟩)
 refine zz ?_
 refine Ce hV ?_ ?_<;>intro J hV
 obtain⟨O,hV⟩:=hV
 refine zz ?_
 exact y
 refine zz ?_
 exact Wt fun a ha=>⟨(b,((b+c).tdiv (2:Int))),⟨b,((b+c).tdiv (2:Int)),rfl,hV.1,D,m.2,hS,ha.os⟩,hV.2⟩
 replace hS:=hS.drop
 refine zz ?_
 exact v2
theorem QC{G:Value}{j:List RV}{p:Ar}{l:Int}{v_8:RV}{g:Value}{f:Value}{Q:(List RV)->Prop}(K:OwnSl H cR 32 G j p)(b1:I64 l)(T:I64 v_8.k)(U:I64 v_8.i)(q:IsSl H cR g v_8.ks)(r:IsSl H cR f v_8.vs)(hS:St w0 H (p++L) w)(hV:KY j l v_8 Q):
 Cl 79 #[G,i6 l,.agg #[i6 v_8.k,i6 v_8.i,sv v_8.t,g,f]] w fun e w'=>∃(r1:List RV)(v1:Value)(fp1:Ar)(H':View),Q r1/\e=.returned (v1)/\View.le H H'/\OwnSl H' cR 32 v1 r1 fp1/\St w0 H' (fp1++L) w':=by
 refine Li func79 ntmps79 ?_
 refine zz ?_
 refine WL.box (arr:=#[i6 v_8.k,i6 v_8.i,sv v_8.t,g,f]) rfl rfl rfl hS ?_
 intro m w hS
 refine zz ?_
 refine Rn hS bR ?_
 refine WL.builds (c:=cR) (xs:=[(RV.mk 0 0 ([]:Aa) ([]:List RV) ([]:List RV))]) (vs:=[.agg #[i6 0,i6 0,sv ([]:Aa),ns,ns]]) (css:=[[i6 0,i6 0,sv ([]:Aa),ns,ns]]) rfl underlying30 info32 rfl ⟨rfl,trivial⟩ rfl (by decide) rfl (by simp;rfl) ⟨[i6 0,i6 0,sv ([]:Aa),ns,ns],_,rfl,(cR_rep.2 ⟨_,_,rfl,i0,i0,IsSl.nil,IsSl.nil⟩),rfl⟩ hS rfl (by decide) ?_
 intro b6 w a1 J hS
 obtain⟨D,hV⟩:=hV
 replace hS:=hS.f3
 refine WL.append (c:=cR) (xs:=j) (ys:=([(RV.mk 0 0 ([]:Aa) ([]:List RV) ([]:List RV))])) rfl underlying30 info32 rfl rfl rfl hS K (J.src hS.f2) D.1 D.2 ?_
 intro b7 w a2 u hS
 replace hS:=hS.f2.drop
 have N:Len (j++([(RV.mk 0 0 ([]:Aa) ([]:List RV) ([]:List RV))])):=u.bound
 replace hV:=hV N
 refine zz ?_
 refine Rn hS (AP underlying30 rfl u) ?_
 obtain⟨a8,hV⟩:=hV
 replace hS:=hS.f2.f2
 obtain⟨I,V,a3,hV⟩:=hV
 refine zz ?_
 refine WC.loop (σ:=(List RV)×Int) (fun s a w=>∃d b o n,s=(d,b)/\I (d,b)/\OwnSl H cR 32 o d n/\I64 b/\St w0 H (n++([(m,oc #[i6 v_8.k,i6 v_8.i,sv v_8.t,g,f] 32)]++L)) w/\Fr 33 [(0,o),(1,i6 l),(5,(pq m)),(7,i6 b)] a) V ((j++([(RV.mk 0 0 ([]:Aa) ([]:List RV) ([]:List RV))])),(((j++([(RV.mk 0 0 ([]:Aa) ([]:List RV) ([]:List RV))])).length:Int)-(1:Int))) ?_ ?_
 exact y
 rintro _ a w⟨d,b,o,n,rfl,hI,h,b0,hS,ha⟩
 refine Ab ha ?_
 replace hV:=hV _ hI
 refine zz ?_
 refine Ce hV ?_ ?_<;>intro a6 hV
 obtain⟨a9,hV⟩:=hV
 obtain⟨B,hV⟩:=hV
 refine zz ?_
 refine Rx hS (Ai underlying30 sizeOf32 rfl rfl h B) ?_
 intro b3 P
 refine Rx hS (BG (H:=H) (L:=[(m,oc #[i6 v_8.k,i6 v_8.i,sv v_8.t,g,f] 32)]++L) (Bt isAgg32 sizeOf32 rfl h P B)) ?_
 rintro b5⟨_,rfl,hu⟩
 obtain⟨W,Y,rfl,E,F,v,x⟩:=cR_rep.1 hu
 replace hV:=hV E F
 obtain⟨C,hV⟩:=hV
 refine Rx hS (Ai underlying30 sizeOf32 rfl rfl h C) ?_
 intro b4 S
 refine WL.store_own_agg (c:=cR) (z:=(ix d (b-(1:Int)))) (m':=[i6 ((ix d (b-(1:Int))).k),i6 ((ix d (b-(1:Int))).i),sv ((ix d (b-(1:Int))).t),W,Y]) sizeOf32 rfl rfl rfl ⟨rfl,rfl,rfl,(IsSl.one v),(IsSl.one x),trivial⟩ (cR_rep.2 ⟨_,_,rfl,E,F,v,x⟩) hS h S C ?_
 intro w Z a4 hS
 obtain⟨a7,hV⟩:=hV
 replace hS:=hS.f2.f2
 refine zz ?_
 exact y
 replace hS:=hS.f2
 refine zz ?_
 refine Rn hS (Ac (cs:=[i6 v_8.k,i6 v_8.i,sv v_8.t,g,f]) isAgg32 sizeOf32 rfl rfl rfl) ?_
 obtain⟨A,hV⟩:=hV
 refine Rx hS (Ai underlying30 sizeOf32 rfl rfl h A) ?_
 intro b2 O
 replace hS:=hS.f2
 refine WL.store_own_agg (c:=cR) (z:=v_8) (m':=[i6 v_8.k,i6 v_8.i,sv v_8.t,g,f]) sizeOf32 rfl rfl rfl ⟨rfl,rfl,rfl,(IsSl.one q),(IsSl.one r),trivial⟩ (cR_rep.2 ⟨_,_,rfl,T,U,q,r⟩) hS h O A ?_
 intro w a0 a5 hS
 replace hS:=hS.f2.drop
 refine zz ?_
 exact v1
theorem EO{n:Value}{l:List RV}{b:Ar}{Q:RV->Prop}(k:Bor H cR n l b)(hS:St w0 H (b++L) w)(hV:CR l Q):
 Cl 36 #[n] w (pR w0 H (b++L) Q):=by
 refine BW func36 ntmps36 ?_
 refine zz ?_
 refine aR hS ?_
 intro i w hS
 refine zz ?_
 refine Rn hS (Aq (vs:=[i6 (5:Int)]) (zc:=#[i6 0,i6 0,sv ([]:Aa),ns,ns]) (cs:=#[i6 (5:Int),i6 0,sv ([]:Aa),ns,ns]) (places:=#[(0,1),(1,1),(2,1),(3,1),(4,1)]) underlying32 zeroValue32 (fun w=>by simp[sizeOf2,sizeOf3,sizeOf30,sizeOf9]) rfl ⟨rfl,trivial⟩ rfl Zf) ?_
 refine aR hS ?_
 intro g w hS
 refine sE hS ?_
 intro w hS
 replace hS:=hS.nilseg
 replace hS:=hS.f2.f3.f4
 obtain⟨D,a1,a6,hV⟩:=hV
 refine zz ?_
 refine WC.loop (σ:=(List RV)×Int) (fun s a w=>∃e c d f p,s=(e,c)/\D (e,c)/\View.le H d/\OwnSl d cR 32 f e p/\I64 c/\St w0 d (b++([(i,Obj.cells #[i6 0,i6 0,sv ([]:Aa),ns,ns] 32 (0,0))]++([(g,Obj.cells #[i6 (5:Int),i6 0,sv ([]:Aa),f,ns] 32 (0,0))]++(p++L)))) w/\Fr 37 [(0,n),(2,(pq i)),(3,(pq g)),(4,i6 c)] a) a1 (([]:List RV),(0:Int)) ?_ ?_
 exact y
 rintro _ a w⟨e,c,d,f,p,rfl,hI,m,r,d2,hS,ha⟩
 refine Ab ha ?_
 replace hV:=hV _ hI
 have W:=(k.mono m).bound
 replace hV:=hV W
 refine zz ?_
 refine Rn hS (CN underlying30 rfl (k.mono m)) ?_
 refine zz ?_
 refine Ce hV ?_ ?_<;>intro b1 hV
 obtain⟨E,G,hV⟩:=hV
 iterate 2 refine z ?_
 refine WC.meet (fun a w=>∃o j t q,E o/\View.le d j/\OwnSl j cR 32 t o q/\St w0 j (b++([(i,Obj.cells #[i6 0,i6 0,sv ([]:Aa),ns,ns] 32 (0,0))]++([(g,Obj.cells #[i6 (5:Int),i6 0,sv ([]:Aa),t,ns] 32 (0,0))]++(q++L)))) w/\Fr 37 [(0,n),(2,(pq i)),(3,(pq g)),(4,i6 c)] a) ?_ ?_
 rintro a w⟨o,j,t,q,hI,d5,a7,hS,ha⟩
 refine Ab ha ?_
 have hV:=G _ hI
 obtain⟨b2,hV⟩:=hV
 replace hS:=hS.f4.f4.f4.f4
 refine zz ?_
 exact y
 iterate 2 refine z ?_
 refine WC.drawn (σ:=[0,1,2,3,4,5,6,7,8,9,10,11]) [[],[0],[],[],[2,3],[2,3,4],[0,1,2,3,4,5],[0,1,2,3,4,5,6],[0,1,2,3,4,5,6,7],[0,1,2,3,4,5,6,7],[0,1,2,3,4,5,6,7,8],[0,1,2,3,4,5,6,7,8,9,10]] [6] mixed (by kernel_rfl) (hS.drawn _) ?_
 refine Wd.run rfl rfl rfl rfl (fun _=>Af (o':=3) underlying32 rfl sizeOf30 rfl rfl) fun e1 b3=>?_
 refine Wd.runb (off:=3) rfl rfl rfl rfl (fun _ _ _ h=>Aj isAgg30 rfl h) rfl (fun _ h=>St.f3 h) fun e2 b4=>?_
 refine Dm fun e3 b5=>?_
 refine Dm fun e4 b6=>?_
 obtain⟨U,hV⟩:=hV
 refine Wd.runx rfl rfl rfl rfl (AA (Ag underlying30 sizeOf32 rfl rfl (k.mono m) U)) ?_
 intro d9 Y
 intro e5 b7
 refine Wd.runs (fp:=b) rfl rfl rfl rfl (Ad isAgg32 sizeOf32 rfl Y) (fun _ h=>h) ?_
 rintro g7⟨_,rfl,hu⟩
 obtain⟨g9,h0,rfl,v,x,N,O⟩:=cR_rep.1 hu
 replace hV:=hV v x
 intro e6 b8
 refine Wd.turn rfl rfl rfl fun w hS=>?_
 replace hS:=hS.f4
 have I:=hS.freeze
 refine Rd call78 (Hb (v_4:=(ix l c)) (r.share hS.put_le) v x (by exact(N.mono hS.put_le)) (by exact(O.mono hS.put_le)) I hV) ?_
 rintro _ w⟨g3,g4,hV,rfl,a0,J⟩
 have F:=hS.back J
 replace hS:=F
 refine WL.nil (DQ.mk2 hS ⟨il,il,il,il,il,il,trivial⟩ ?_)
 refine Dm fun e7 b9=>?_
 refine Wd.run rfl rfl rfl rfl (fun _=>DR rfl rfl) fun e8 c0=>?_
 refine Wd.run rfl rfl rfl rfl (fun _=>DR rfl rfl) fun e9 c1=>?_
 refine Wd.run rfl rfl rfl rfl (fun _=>Ba rfl) fun f0 c2=>?_
 refine Wd.run rfl rfl rfl rfl (fun _=>Ba rfl) fun f1 c3=>?_
 refine Wd.nil fun w hS=>?_
 refine zz ?_
 refine Cf hV ?_ ?_<;>intro b0 hV
 refine WC.drawn (σ:=[0,1,2,3,4,5,6,7,8,9]) [[],[0],[],[],[],[3,4],[3,4,5],[0,1,2,3,4,5,6],[0,1,2,3,4,5,6,7],[0,1,2,3,4,5,6,7,8]] [7,9] mixed (by kernel_rfl) (hS.drawn _) ?_
 refine Wd.run rfl rfl rfl rfl (fun _=>Af (o':=3) underlying32 rfl sizeOf30 rfl rfl) fun f5 c4=>?_
 refine Wd.runb (off:=3) rfl rfl rfl rfl (fun _ _ _ h=>Aj isAgg30 rfl h) rfl (fun _ h=>St.f4 h) fun f6 c5=>?_
 refine Dm fun f7 c6=>?_
 refine Dm fun f8 c7=>?_
 refine Dm fun f9 c8=>?_
 obtain⟨V,hV⟩:=hV
 refine Wd.runx rfl rfl rfl rfl (AA (Ag underlying30 sizeOf32 rfl rfl (k.mono m) V)) ?_
 intro e0 Z
 intro g0 c9
 refine Wd.runs (fp:=b) rfl rfl rfl rfl (Ad isAgg32 sizeOf32 rfl Z) (fun _ h=>St.f2 h) ?_
 rintro g8⟨_,rfl,hu⟩
 obtain⟨h1,h2,rfl,A,B,P,S⟩:=cR_rep.1 hu
 replace hV:=hV A B
 intro g1 d0
 refine Wd.turn rfl rfl rfl fun w hS=>?_
 refine Rd call79 (QC (v_8:=(ix l c)) r a0 A B P S hS hV) ?_
 rintro _ w⟨g5,C,a5,a2,hV,rfl,d6,u,hS⟩
 refine WL.nil (DQ.mk2 hS ⟨il,il,il,il,il,il,il,trivial⟩ ?_)
 refine Wd.run rfl rfl rfl rfl (fun _=>Af (o':=3) underlying32 rfl sizeOf30 rfl rfl) fun g2 d1=>?_
 refine Wd.turn rfl rfl rfl fun w hS=>?_
 replace hS:=hS.f4
 refine Ee #[i6 (5:Int),i6 0,sv ([]:Aa),C,ns] sizeOf30 hS ?_ (cs:=[C]) (hc:=(congrArg Array.toList (AN (OwnSl.one u)))) (hone:=⟨(OwnSl.one u),trivial⟩)
 intro w hS
 refine WL.nil (DQ.mk2 hS ⟨il,il,il,il,il,il,il,il,trivial⟩ ?_)
 refine Wd.nil fun w hS=>?_
 replace hS:=hS.f2.f2.f4.f4
 refine zz ?_
 exact y
 replace hS:=hS.f4.f4.f4
 refine zz ?_
 exact y
 replace hS:=hS.f3
 refine zz ?_
 refine Rn hS (Ac (cs:=[i6 (5:Int),i6 0,sv ([]:Aa),f,ns]) isAgg32 sizeOf32 rfl rfl rfl) ?_
 replace hS:=hS.f4
 obtain⟨a3,d7,T,hS⟩:∃K,View.le d K/\IsSl K cR f e/\St w0 K ([(g,Obj.cells #[i6 (5:Int),i6 0,sv ([]:Aa),f,ns] 32 (0,0))]++(b++([(i,Obj.cells #[i6 0,i6 0,sv ([]:Aa),ns,ns] 32 (0,0))]++L))) w:=⟨_,hS.put_le,r.share hS.put_le,hS.freeze⟩
 refine Rd call80 (IE (v_1:=(RV.mk (5:Int) 0 ([]:Aa) e ([]:List RV))) (by exact(show I64 (5:Int) by unfold I64;omega)) (by exact i0) T (by exact IsSl.nil) hS hV) ?_
 rintro _ w⟨g6,h3,h4,a4,hV,rfl,d8,d3,d4,a8,a9,hS⟩
 replace hS:=hS.f3
 refine sE hS ?_
 intro w hS
 replace hS:=hS.f2.drop
 refine zz ?_
 exact vc
theorem Kl{q:Value}{p:List RV}{r:Value}{E:List RV}{Q:RV->Prop}(o:IsSl H cR q p)(a6:IsSl H cR r E)(hS:St w0 H L w)(hV:FU p E Q):
 Cl 71 #[q,r] w (pR w0 H L Q):=by
 refine Co func71 ntmps71 ?_
 refine zz ?_
 refine aR hS ?_
 intro d w hS
 refine zz ?_
 refine Rn hS (Aq (vs:=[i6 (6:Int)]) (zc:=#[i6 0,i6 0,sv ([]:Aa),ns,ns]) (cs:=#[i6 (6:Int),i6 0,sv ([]:Aa),ns,ns]) (places:=#[(0,1),(1,1),(2,1),(3,1),(4,1)]) underlying32 zeroValue32 (fun w=>by simp[sizeOf2,sizeOf3,sizeOf30,sizeOf9]) rfl ⟨rfl,trivial⟩ rfl Zf) ?_
 refine aR hS ?_
 intro c w hS
 refine sE hS ?_
 intro w hS
 replace hS:=hS.nilseg
 replace hS:=hS.nilseg
 replace hS:=hS.f2.f3.f4
 obtain⟨Z,c4,d0,hV⟩:=hV
 refine zz ?_
 refine WC.loop (σ:=(List RV)×(List RV)×Int) (fun s a w=>∃j k e g f m b i,s=(j,k,e)/\Z (j,k,e)/\View.le H g/\OwnSl g cR 32 f j m/\OwnSl g cR 32 b k i/\I64 e/\St w0 g ([(d,Obj.cells #[i6 0,i6 0,sv ([]:Aa),ns,ns] 32 (0,0))]++([(c,Obj.cells #[i6 (6:Int),i6 0,sv ([]:Aa),f,b] 32 (0,0))]++(m++(i++L)))) w/\Fr 48 [(0,q),(1,r),(4,(pq d)),(5,(pq c)),(6,i6 e)] a) c4 (([]:List RV),([]:List RV),(0:Int)) ?_ ?_
 exact y
 rintro _ a w⟨j,k,e,g,f,m,b,i,rfl,hI,n,B,F,g8,hS,ha⟩
 refine Ab ha ?_
 replace hV:=hV _ hI
 have b8:=(o.mono n).bound
 replace hV:=hV b8
 refine zz ?_
 refine Rn hS (Ao underlying30 rfl (o.mono n)) ?_
 refine zz ?_
 refine Ce hV ?_ ?_<;>intro d6 hV
 obtain⟨a0,a3,hV⟩:=hV
 iterate 2 refine z ?_
 refine WC.meet (fun a w=>∃u v l C x D A,a0 (u,v)/\View.le g l/\OwnSl l cR 32 C u x/\OwnSl l cR 32 D v A/\St w0 l ([(d,Obj.cells #[i6 0,i6 0,sv ([]:Aa),ns,ns] 32 (0,0))]++([(c,Obj.cells #[i6 (6:Int),i6 0,sv ([]:Aa),C,D] 32 (0,0))]++(x++(A++L)))) w/\Fr 48 [(0,q),(1,r),(4,(pq d)),(5,(pq c)),(6,i6 e)] a) ?_ ?_
 rintro a w⟨u,v,l,C,x,D,A,hI,h1,d1,d2,hS,ha⟩
 refine Ab ha ?_
 have hV:=a3 _ hI
 obtain⟨d7,hV⟩:=hV
 replace hS:=hS.f4.f4.f4.f4
 refine zz ?_
 exact y
 iterate 2 refine z ?_
 refine WC.drawn (σ:=[0,1,2,3,4,5,6,7,8,9,10,11]) [[],[0],[],[],[2,3],[2,3,4],[0,1,2,3,4,5],[0,1,2,3,4,5,6],[0,1,2,3,4,5,6,7],[0,1,2,3,4,5,6,7],[0,1,2,3,4,5,6,7,8],[0,1,2,3,4,5,6,7,8,9,10]] [6] mixed (by kernel_rfl) (hS.drawn _) ?_
 refine Wd.run rfl rfl rfl rfl (fun _=>Af (o':=3) underlying32 rfl sizeOf30 rfl rfl) fun h7 d8=>?_
 refine Wd.runb (off:=3) rfl rfl rfl rfl (fun _ _ _ h=>Aj isAgg30 rfl h) rfl (fun _ h=>St.f2 h) fun h8 d9=>?_
 refine Dm fun h9 e0=>?_
 refine Dm fun i1 e1=>?_
 obtain⟨b5,hV⟩:=hV
 refine Wd.runx rfl rfl rfl rfl (AA (Au underlying30 sizeOf32 rfl rfl (o.mono n) b5)) ?_
 intro h4 b9
 intro i2 e2
 refine Wd.runs (fp:=([]:Ar)) (L:=[(d,Obj.cells #[i6 0,i6 0,sv ([]:Aa),ns,ns] 32 (0,0))]++([(c,Obj.cells #[i6 (6:Int),i6 0,sv ([]:Aa),f,b] 32 (0,0))]++(m++(i++L)))) rfl rfl rfl rfl (AT isAgg32 sizeOf32 rfl b9) (fun _ h=>h) ?_
 rintro l1⟨_,rfl,hu⟩
 obtain⟨l4,l5,rfl,J,N,a7,a8⟩:=cR_rep.1 hu
 replace hV:=hV J N
 intro i3 e3
 refine Wd.turn rfl rfl rfl fun w hS=>?_
 replace hS:=hS.f3
 have a4:=hS.freeze
 refine Rd call78 (Hb (v_4:=(ix p e)) (B.share hS.put_le) J N (by exact(a7.mono hS.put_le)) (by exact(a8.mono hS.put_le)) a4 hV) ?_
 rintro _ w⟨k6,k7,hV,rfl,O,a5⟩
 have a2:=hS.back a5
 replace hS:=a2
 refine WL.nil (DQ.mk2 hS ⟨il,il,il,il,il,il,trivial⟩ ?_)
 refine Dm fun i4 e4=>?_
 refine Wd.run rfl rfl rfl rfl (fun _=>DR rfl rfl) fun i5 e5=>?_
 refine Wd.run rfl rfl rfl rfl (fun _=>DR rfl rfl) fun i7 e6=>?_
 refine Wd.run rfl rfl rfl rfl (fun _=>Ba rfl) fun i8 e7=>?_
 refine Wd.run rfl rfl rfl rfl (fun _=>Ba rfl) fun i9 e8=>?_
 refine Wd.nil fun w hS=>?_
 refine zz ?_
 refine Cf hV ?_ ?_<;>intro d5 hV
 refine z ?_
 refine WC.drawn (σ:=[0,1,2,3,4,5,6,7,8,9]) [[],[0],[],[],[],[3,4],[3,4,5],[0,1,2,3,4,5,6],[0,1,2,3,4,5,6,7],[0,1,2,3,4,5,6,7,8]] [7,9] mixed (by kernel_rfl) (hS.drawn _) ?_
 refine Wd.run rfl rfl rfl rfl (fun _=>Af (o':=3) underlying32 rfl sizeOf30 rfl rfl) fun j0 e9=>?_
 refine Wd.runb (off:=3) rfl rfl rfl rfl (fun _ _ _ h=>Aj isAgg30 rfl h) rfl (fun _ h=>St.f3 h) fun j1 f0=>?_
 refine Dm fun j2 f1=>?_
 refine Dm fun j3 f5=>?_
 refine Dm fun j4 f6=>?_
 obtain⟨b6,hV⟩:=hV
 refine Wd.runx rfl rfl rfl rfl (AA (Au underlying30 sizeOf32 rfl rfl (o.mono n) b6)) ?_
 intro h5 c0
 intro j5 f7
 refine Wd.runs (fp:=([]:Ar)) (L:=m++([(d,Obj.cells #[i6 0,i6 0,sv ([]:Aa),ns,ns] 32 (0,0))]++([(c,Obj.cells #[i6 (6:Int),i6 0,sv ([]:Aa),f,b] 32 (0,0))]++(i++L)))) rfl rfl rfl rfl (AT isAgg32 sizeOf32 rfl c0) (fun _ h=>h) ?_
 rintro l2⟨_,rfl,hu⟩
 obtain⟨l6,l7,rfl,P,S,a9,b0⟩:=cR_rep.1 hu
 replace hV:=hV P S
 intro j6 f8
 refine Wd.turn rfl rfl rfl fun w hS=>?_
 refine Rd call79 (QC (v_8:=(ix p e)) B O P S a9 b0 hS hV) ?_
 rintro _ w⟨k8,t,a1,c5,hV,rfl,V,G,hS⟩
 refine WL.nil (DQ.mk2 hS ⟨il,il,il,il,il,il,il,trivial⟩ ?_)
 refine Wd.run rfl rfl rfl rfl (fun _=>Af (o':=3) underlying32 rfl sizeOf30 rfl rfl) fun j7 f9=>?_
 refine Wd.turn rfl rfl rfl fun w hS=>?_
 replace hS:=hS.f3
 refine Ee #[i6 (6:Int),i6 0,sv ([]:Aa),t,b] sizeOf30 hS ?_ (cs:=[t]) (hc:=(congrArg Array.toList (AN (OwnSl.one G)))) (hone:=⟨(OwnSl.one G),trivial⟩)
 intro w hS
 refine WL.nil (DQ.mk2 hS ⟨il,il,il,il,il,il,il,il,trivial⟩ ?_)
 refine Wd.nil fun w hS=>?_
 refine z ?_
 refine WC.drawn (σ:=[0,1,2,3,4,5,6,7,8,9]) [[],[0],[],[],[],[3,4],[3,4,5],[0,1,2,3,4,5,6],[0,1,2,3,4,5,6,7],[0,1,2,3,4,5,6,7,8]] [7,9] mixed (by kernel_rfl) (hS.drawn _) ?_
 refine Wd.run rfl rfl rfl rfl (fun _=>Af (o':=4) underlying32 rfl sizeOf30 rfl rfl) fun j8 g0=>?_
 refine Wd.runb (off:=4) rfl rfl rfl rfl (fun _ _ _ h=>Aj isAgg30 rfl h) rfl (fun _ h=>h) fun j9 g1=>?_
 refine Dm fun k0 g2=>?_
 refine Dm fun k1 g3=>?_
 refine Dm fun k2 g4=>?_
 obtain⟨b7,hV⟩:=hV
 refine Wd.runx rfl rfl rfl rfl (AA (Au underlying30 sizeOf32 rfl rfl ((a6.mono n).mono V) b7)) ?_
 intro h6 c1
 intro k3 g5
 refine Wd.runs (fp:=([]:Ar)) (L:=[(c,Obj.cells #[i6 (6:Int),i6 0,sv ([]:Aa),t,b] 32 (0,0))]++(a1++([(d,Obj.cells #[i6 0,i6 0,sv ([]:Aa),ns,ns] 32 (0,0))]++(i++L)))) rfl rfl rfl rfl (AT isAgg32 sizeOf32 rfl c1) (fun _ h=>h) ?_
 rintro l3⟨_,rfl,hu⟩
 obtain⟨l8,l9,rfl,T,U,b1,b2⟩:=cR_rep.1 hu
 replace hV:=hV T U
 intro k4 g6
 refine Wd.turn rfl rfl rfl fun w hS=>?_
 replace hS:=hS.f4
 refine Rd call79 (QC (v_8:=(ix E e)) (F.mono V) O T U b1 b2 hS hV) ?_
 rintro _ w⟨k9,W,c9,c6,hV,rfl,h2,I,hS⟩
 refine WL.nil (DQ.mk2 hS ⟨il,il,il,il,il,il,il,trivial⟩ ?_)
 refine Wd.run rfl rfl rfl rfl (fun _=>Af (o':=4) underlying32 rfl sizeOf30 rfl rfl) fun k5 g7=>?_
 refine Wd.turn rfl rfl rfl fun w hS=>?_
 replace hS:=hS.f2
 refine Ee #[i6 (6:Int),i6 0,sv ([]:Aa),t,W] sizeOf30 hS ?_ (cs:=[W]) (hc:=(congrArg Array.toList (AN (OwnSl.one I)))) (hone:=⟨(OwnSl.one I),trivial⟩)
 intro w hS
 refine WL.nil (DQ.mk2 hS ⟨il,il,il,il,il,il,il,il,trivial⟩ ?_)
 refine Wd.nil fun w hS=>?_
 replace hS:=hS.f2.f3.f3.f4
 refine zz ?_
 exact y
 replace hS:=hS.f4.f2.f4.f4
 refine zz ?_
 exact y
 replace hS:=hS.f2
 refine zz ?_
 refine Rn hS (Ac (cs:=[i6 (6:Int),i6 0,sv ([]:Aa),f,b]) isAgg32 sizeOf32 rfl rfl rfl) ?_
 replace hS:=hS.f3
 obtain⟨Y,c2,b3,hS⟩:∃K,View.le g K/\IsSl K cR f j/\St w0 K ([(c,Obj.cells #[i6 (6:Int),i6 0,sv ([]:Aa),f,b] 32 (0,0))]++([(d,Obj.cells #[i6 0,i6 0,sv ([]:Aa),ns,ns] 32 (0,0))]++(i++L))) w:=⟨_,hS.put_le,B.share hS.put_le,hS.freeze⟩
 replace hS:=hS.f3
 obtain⟨c7,c3,b4,hS⟩:∃K,View.le Y K/\IsSl K cR b k/\St w0 K ([(c,Obj.cells #[i6 (6:Int),i6 0,sv ([]:Aa),f,b] 32 (0,0))]++([(d,Obj.cells #[i6 0,i6 0,sv ([]:Aa),ns,ns] 32 (0,0))]++L)) w:=⟨_,hS.put_le,(F.mono c2).share hS.put_le,hS.freeze⟩
 refine Rd call80 (IE (v_1:=(RV.mk (6:Int) 0 ([]:Aa) j k)) (by exact(show I64 (6:Int) by unfold I64;omega)) (by exact i0) (by exact(b3.mono c3)) b4 hS hV) ?_
 rintro _ w⟨l0,m0,m1,c8,hV,rfl,h3,g9,h0,d3,d4,hS⟩
 replace hS:=hS.f2
 refine sE hS ?_
 intro w hS
 replace hS:=hS.f2.drop
 refine zz ?_
 exact vc
theorem Hc{C:Value}{e:List RV}{l:Ar}{Q:RV->Prop}(x:Bor H cR C e l)(hS:St w0 H (l++L) w)(hV:Ea e Q):
 Cl 37 #[C] w (pR w0 H (l++L) Q):=by
 refine BW func37 ntmps37 ?_
 refine zz ?_
 refine aR hS ?_
 intro p w hS
 refine zz ?_
 refine Rn hS (Aq (vs:=[i6 (6:Int)]) (zc:=#[i6 0,i6 0,sv ([]:Aa),ns,ns]) (cs:=#[i6 (6:Int),i6 0,sv ([]:Aa),ns,ns]) (places:=#[(0,1),(1,1),(2,1),(3,1),(4,1)]) underlying32 zeroValue32 (fun w=>by simp[sizeOf2,sizeOf3,sizeOf30,sizeOf9]) rfl ⟨rfl,trivial⟩ rfl Zf) ?_
 refine aR hS ?_
 intro o w hS
 refine sE hS ?_
 intro w hS
 refine zz ?_
 replace hS:=hS.nilseg
 replace hS:=hS.nilseg
 replace hS:=hS.f2.f3.f4.f5
 obtain⟨W,b6,c5,hV⟩:=hV
 refine WC.loop (σ:=(List RV)×(List RV)×Int) (fun s a w=>∃g j b n m v f q,s=(g,j,b)/\W (g,j,b)/\View.le H n/\OwnSl n cR 32 m g v/\OwnSl n cR 32 f j q/\I64 b/\St w0 n (l++([(p,Obj.cells #[i6 0,i6 0,sv ([]:Aa),ns,ns] 32 (0,0))]++([(o,Obj.cells #[i6 (6:Int),i6 0,sv ([]:Aa),m,f] 32 (0,0))]++(v++(q++L))))) w/\Fr 33 [(0,C),(2,(pq p)),(3,(pq o)),(4,i6 b)] a) b6 (([]:List RV),([]:List RV),(0:Int)) ?_ ?_
 exact y
 rintro _ a w⟨g,j,b,n,m,v,f,q,rfl,hI,A,G,I,d5,hS,ha⟩
 refine Ab ha ?_
 replace hV:=hV _ hI
 have a8:=(x.mono A).bound
 replace hV:=hV a8
 refine zz ?_
 refine Rn hS (CN underlying30 rfl (x.mono A)) ?_
 refine zz ?_
 refine Ce hV ?_ ?_<;>intro c8 hV
 obtain⟨a6,hV⟩:=hV
 refine zz ?_
 refine Rd call81 (CT a6 hS hV) ?_
 rintro _ w⟨d,r,u,b7,hV,rfl,B,b2,b3,Y,Z,hS⟩
 refine aR hS ?_
 intro c0 w hS
 refine sE hS ?_
 intro w hS
 refine zz ?_
 replace hS:=hS.f4
 refine R hS ?_
 replace hS:=hS.f2
 refine Rn hS (Ac (cs:=[i6 d.k,i6 d.i,sv d.t,r,u]) isAgg32 sizeOf32 rfl rfl rfl) ?_
 refine WL.builds (c:=cR) (xs:=[d]) (vs:=[.agg #[i6 d.k,i6 d.i,sv d.t,r,u]]) (css:=[[i6 d.k,i6 d.i,sv d.t,r,u]]) rfl underlying30 info32 rfl ⟨rfl,trivial⟩ rfl (by decide) rfl (by simp;rfl) ⟨[i6 d.k,i6 d.i,sv d.t,r,u],_,rfl,(cR_rep.2 ⟨_,_,rfl,b2,b3,Y,Z⟩),rfl⟩ hS rfl (by decide) ?_
 intro e9 w c1 a0 hS
 obtain⟨O,hV⟩:=hV
 replace hS:=hS.f6
 refine WL.append (c:=cR) (xs:=g) (ys:=([d])) rfl underlying30 info32 rfl rfl rfl hS (G.mono B) (a0.src hS.f2) O.1 O.2 ?_
 intro D w c2 J hS
 refine R hS ?_
 replace hS:=hS.f4
 refine Ee #[i6 (6:Int),i6 0,sv ([]:Aa),D,f] sizeOf30 hS ?_ (cs:=[D]) (hc:=(congrArg Array.toList (AN (OwnSl.one J)))) (hone:=⟨(OwnSl.one J),trivial⟩)
 intro w hS
 refine zz ?_
 replace hS:=hS.f4.drop
 replace hS:=hS.f3.drop
 refine WC.drawn (σ:=[0,1,2,3,4,5,6,7,8,9]) [[],[0],[],[],[2,3],[2,3,4],[2,3,4,5],[0,1,2,3,4,5,6],[0,1,2,3,4,5,6,7],[0,1,2,3,4,5,6,7,8]] [6,7,9] mixed (by kernel_rfl) (hS.drawn _) ?_
 refine Wd.run rfl rfl rfl rfl (fun _=>Af (o':=4) underlying32 rfl sizeOf30 rfl rfl) fun e0 b0=>?_
 refine Wd.runb (off:=4) rfl rfl rfl rfl (fun _ _ _ h=>Aj isAgg30 rfl h) rfl (fun _ h=>h) fun e1 b1=>?_
 refine Dm fun e2 d0=>?_
 refine Dm fun e3 d1=>?_
 obtain⟨a7,hV⟩:=hV
 refine Wd.runx rfl rfl rfl rfl (AA (Ag underlying30 sizeOf32 rfl rfl ((x.mono A).mono B) a7)) ?_
 intro d9 a9
 intro e4 d2
 refine Wd.runs (fp:=l) rfl rfl rfl rfl (Ad isAgg32 sizeOf32 rfl a9) (fun _ h=>St.f3 h) ?_
 rintro e8⟨_,rfl,hu⟩
 obtain⟨E,F,rfl,P,S,a1,a2⟩:=cR_rep.1 hu
 replace hV:=hV P S
 intro e5 d3
 refine Wd.turn rfl rfl rfl fun w hS=>?_
 refine WL.builds (c:=cR) (xs:=[(ix e b)]) (vs:=[.agg #[i6 ((ix e b).k),i6 ((ix e b).i),sv ((ix e b).t),E,F]]) (css:=[[i6 ((ix e b).k),i6 ((ix e b).i),sv ((ix e b).t),E,F]]) rfl underlying30 info32 rfl ⟨rfl,trivial⟩ rfl (by decide) rfl (by simp;rfl) ⟨[i6 ((ix e b).k),i6 ((ix e b).i),sv ((ix e b).t),E,F],_,rfl,(cR_rep.2 ⟨_,_,rfl,P,S,a1,a2⟩),rfl⟩ hS rfl (by decide) ?_
 intro f0 w c3 a3 hS
 refine WL.nil (DQ.mk2 hS ⟨il,il,il,il,.inr (b1 _ _ _ _ rfl (fun _ h=>St.f2 h)),.inr (b0 _),trivial⟩ ?_)
 refine Wd.turn rfl rfl rfl fun w hS=>?_
 obtain⟨T,hV⟩:=hV
 replace hS:=hS.f6
 refine WL.append (c:=cR) (xs:=j) (ys:=([(ix e b)])) rfl underlying30 info32 rfl rfl rfl hS (I.mono B) (a3.src hS.f2) T.1 T.2 ?_
 intro U w c4 N hS
 refine WL.nil (DQ.mk2 hS ⟨il,il,il,il,il,il,trivial⟩ ?_)
 refine Wd.run rfl rfl rfl rfl (fun _=>Af (o':=4) underlying32 rfl sizeOf30 rfl rfl) fun e6 d4=>?_
 refine Wd.turn rfl rfl rfl fun w hS=>?_
 replace hS:=hS.f3
 refine Ee #[i6 (6:Int),i6 0,sv ([]:Aa),D,U] sizeOf30 hS ?_ (cs:=[U]) (hc:=(congrArg Array.toList (AN (OwnSl.one N)))) (hone:=⟨(OwnSl.one N),trivial⟩)
 intro w hS
 refine WL.nil (DQ.mk2 hS ⟨il,il,il,il,il,il,il,trivial⟩ ?_)
 refine Wd.nil fun w hS=>?_
 refine zz ?_
 replace hS:=hS.f3.drop
 obtain⟨c9,hV⟩:=hV
 refine zz ?_
 replace hS:=hS.f2.f3.f3.f5.f5
 exact y
 refine zz ?_
 replace hS:=hS.f3
 refine Rn hS (Ac (cs:=[i6 (6:Int),i6 0,sv ([]:Aa),m,f]) isAgg32 sizeOf32 rfl rfl rfl) ?_
 replace hS:=hS.f4
 obtain⟨V,b4,a4,hS⟩:∃K,View.le n K/\IsSl K cR m g/\St w0 K ([(o,Obj.cells #[i6 (6:Int),i6 0,sv ([]:Aa),m,f] 32 (0,0))]++(l++([(p,Obj.cells #[i6 0,i6 0,sv ([]:Aa),ns,ns] 32 (0,0))]++(q++L)))) w:=⟨_,hS.put_le,G.share hS.put_le,hS.freeze⟩
 replace hS:=hS.f4
 obtain⟨b8,b5,a5,hS⟩:∃K,View.le V K/\IsSl K cR f j/\St w0 K ([(o,Obj.cells #[i6 (6:Int),i6 0,sv ([]:Aa),m,f] 32 (0,0))]++(l++([(p,Obj.cells #[i6 0,i6 0,sv ([]:Aa),ns,ns] 32 (0,0))]++L))) w:=⟨_,hS.put_le,(I.mono b4).share hS.put_le,hS.freeze⟩
 refine Rd call80 (IE (v_1:=(RV.mk (6:Int) 0 ([]:Aa) g j)) (by exact(show I64 (6:Int) by unfold I64;omega)) (by exact i0) (by exact(a4.mono b5)) a5 hS hV) ?_
 rintro _ w⟨e7,f1,f7,b9,hV,rfl,d8,d6,d7,c6,c7,hS⟩
 replace hS:=hS.f3
 refine sE hS ?_
 intro w hS
 refine zz ?_
 replace hS:=hS.f2.drop
 refine zz ?_
 exact vc
theorem RL{v_1:RV}{d:Value}{f:Value}{Q:Bool->Prop}(C:I64 v_1.k)(D:I64 v_1.i)(j:IsSl H cR d v_1.ks)(A:IsSl H cR f v_1.vs)(hS:St w0 H L w)(hV:Ic v_1 Q):
 Cl 33 #[.agg #[i6 v_1.k,i6 v_1.i,sv v_1.t,d,f]] w (pB w0 H L Q):=by
 refine BW func33 ntmps33 ?_
 refine zz ?_
 refine WL.box (arr:=#[i6 v_1.k,i6 v_1.i,sv v_1.t,d,f]) rfl rfl rfl hS ?_
 intro b_8 w hS
 obtain⟨l,r,x,hV⟩:=hV
 refine zz ?_
 refine WC.loop (σ:=Int) (fun s a w=>∃c,s=c/\l c/\I64 c/\St w0 H ([(b_8,oc #[i6 v_1.k,i6 v_1.i,sv v_1.t,d,f] 32)]++L) w/\Fr 32 [(1,(pq b_8)),(3,i6 c)] a) r (0:Int) ?_ ?_
 exact y
 rintro c a w⟨_,rfl,hI,E,hS,ha⟩
 refine Ab ha ?_
 replace hV:=hV _ hI
 have o:Len v_1.ks:=j.bound
 replace hV:=hV o
 refine zz ?_
 refine Rn hS (Ao underlying30 rfl j) ?_
 refine zz ?_
 refine Ce hV ?_ ?_<;>intro B hV
 obtain⟨m,n,hV⟩:=hV
 iterate 4 refine z ?_
 refine WC.meet (fun a w=>∃g,m g/\St w0 H ([(b_8,oc #[i6 v_1.k,i6 v_1.i,sv v_1.t,d,f] 32)]++L) w/\Fr 32 [(1,(pq b_8)),(3,i6 c),(28,.bool g)] a) ?_ ?_
 rintro a w⟨g,hI,hS,ha⟩
 refine Ab ha ?_
 have hV:=n _ hI
 exact Z
 exact Z
 refine zz ?_
 replace hS:=hS.drop
 refine zz ?_
 exact v1
theorem WB{f:Int}{Q:Aa->Prop}(P:I64 f)(hS:St w0 H L w)(hV:IU f Q):
 Cl 31 #[i6 f] w fun e w'=>∃(r1:Aa),Q r1/\e=.returned (sv r1)/\St w0 H (L) w':=by
 refine BW func31 ntmps31 ?_
 obtain⟨m,n,hV⟩:=hV
 iterate 8 refine z ?_
 refine WC.meet (fun a w=>∃g,m g/\IntKind.u64.has g/\St w0 H (L) w/\Fr 35 [(0,i6 f),(3,.int .u64 g)] a) ?_ ?_
 rintro a w⟨g,hI,S,hS,ha⟩
 refine Ab ha ?_
 have hV:=n _ hI
 obtain⟨l,A,D,hV⟩:=hV
 refine zz ?_
 refine WC.loop (σ:=Int×Aa) (fun s a w=>∃d i,s=(d,i)/\l (d,i)/\IntKind.u64.has d/\St w0 H (L) w/\Fr 35 [(0,i6 f),(3,.int .u64 d),(4,sv i)] a) A (g,([]:Aa)) ?_ ?_
 exact y
 rintro _ a w⟨d,i,rfl,hI,j,hS,ha⟩
 refine Ab ha ?_
 replace hV:=hV _ hI
 refine zz ?_
 refine Ce hV ?_ ?_<;>intro F hV
 obtain⟨t,hV⟩:=hV
 refine zz ?_
 refine Rn hS (Wi rfl rfl j t) ?_
 refine Rn hS (CI rfl rfl) ?_
 refine R hS ?_
 refine WL.build1 (c:=cB8) (y:=u8 (IntKind.u8.wrap (IntKind.u64.wrap ((48:Int)+(d.tmod (10:Int)))))) rfl underlying71 info5 rfl rfl (Hg (Ec _ _)) hS ?_
 intro T w B o hS
 refine Rn hS (Gg (L:=L) underlying71 underlying5 underlying9 rfl o) ?_
 obtain⟨G,hV⟩:=hV
 replace hS:=hS.drop
 obtain⟨x,hV⟩:=hV
 refine zz ?_
 refine Rn hS (VZ rfl rfl j x) ?_
 refine zz ?_
 exact y
 refine zz ?_
 refine Rn hS (CI rfl rfl) ?_
 refine R hS ?_
 refine WL.build1 (c:=cB8) (y:=u8 (IntKind.u8.wrap (IntKind.u64.wrap ((48:Int)+d)))) rfl underlying71 info5 rfl rfl (Hg (Ec _ _)) hS ?_
 intro U w C r hS
 refine Rn hS (Gg (L:=L) underlying71 underlying5 underlying9 rfl r) ?_
 obtain⟨N,hV⟩:=hV
 replace hS:=hS.drop
 refine zz ?_
 refine Ce hV ?_ ?_<;>intro E hV
 obtain⟨O,hV⟩:=hV
 refine zz ?_
 exact v1
 refine zz ?_
 exact v1
 exact Z
def AbW(G:RV->(Aa->Prop)->Prop):Prop:=∀{w0:World}{H:View}{L:Ar}{w:World}{v_1:RV}{a:Value}{b:Value}{Q:Aa->Prop}(f:I64 v_1.k)(g:I64 v_1.i)(c:IsSl H cR a v_1.ks)(d:IsSl H cR b v_1.vs)(hS:St w0 H (L) w)(hV:G v_1 Q),Calls Tryz.prog 12 #[.agg #[i6 v_1.k,i6 v_1.i,sv v_1.t,a,b]] w fun e w'=>∃(r1:Aa),Q r1/\e=.returned (sv r1)/\St w0 H (L) w'
theorem Te{G:RV->(Aa->Prop)->Prop}(hG:AbW G){f:Value}{i:List RV}{Q:Aa->Prop}(g:IsSl H cR f i)(hS:St w0 H L w)(hV:Ks G i Q):
 Cl 32 #[f] w fun e w'=>∃(r1:Aa),Q r1/\e=.returned (sv r1)/\St w0 H (L) w':=by
 refine BW func32 ntmps32 ?_
 obtain⟨n,D,E,hV⟩:=hV
 refine zz ?_
 refine WC.loop (σ:=Aa×Int) (fun s a w=>∃d c,s=(d,c)/\n (d,c)/\I64 c/\St w0 H (L) w/\Fr 25 [(0,f),(3,sv d),(4,i6 c)] a) D (([]:Aa),(0:Int)) ?_ ?_
 exact y
 rintro _ a w⟨d,c,rfl,hI,P,hS,ha⟩
 refine Ab ha ?_
 replace hV:=hV _ hI
 have B:=g.bound
 replace hV:=hV B
 refine zz ?_
 refine Rn hS (Ao underlying30 rfl g) ?_
 refine zz ?_
 refine Ce hV ?_ ?_<;>intro F hV
 obtain⟨o,r,hV⟩:=hV
 iterate 4 refine z ?_
 refine WC.meet (fun a w=>∃j,o j/\St w0 H (L) w/\Fr 25 [(0,f),(3,sv j),(4,i6 c)] a) ?_ ?_
 rintro a w⟨j,hI,hS,ha⟩
 refine Ab ha ?_
 have hV:=r _ hI
 obtain⟨A,hV⟩:=hV
 refine zz ?_
 refine Rx hS (Au underlying30 sizeOf32 rfl rfl g A) ?_
 intro S C
 refine Rx hS (AE isAgg32 sizeOf32 rfl C) ?_
 rintro U⟨_,rfl,hu⟩
 obtain⟨V,W,rfl,l,m,t,x⟩:=cR_rep.1 hu
 replace hV:=hV l m
 refine Rd call12 (hG (v_1:=(ix i c)) l m t x hS hV) ?_
 rintro _ w⟨T,hV,rfl,hS⟩
 obtain⟨N,hV⟩:=hV
 obtain⟨O,hV⟩:=hV
 refine zz ?_
 exact y
 exact Z
 refine zz ?_
 exact v1
theorem AbB(m0:Nat):∀{w0:World}{H:View}{L:Ar}{w:World}{v_1:RV}{d:Value}{f:Value}{Q:Aa->Prop}(G:I64 v_1.k)(l:I64 v_1.i)(g:IsSl H cR d v_1.ks)(j:IsSl H cR f v_1.vs)(hS:St w0 H L w)(hV:DZ m0 v_1 Q),
 Cl 12 #[.agg #[i6 v_1.k,i6 v_1.i,sv v_1.t,d,f]] w fun e w'=>∃(r1:Aa),Q r1/\e=.returned (sv r1)/\St w0 H (L) w':=by
 induction m0 with
 |zero=>intro w0 H L w v_1 d f Q G l g j hS hV;exact hV.elim
 |succ m0 ih=>
  intro w0 H L w v_1 d f Q G l g j hS hV
  unfold DZ at hV
  refine BW func12 ntmps12 ?_
  refine z ?_
  refine WL.box (arr:=#[i6 v_1.k,i6 v_1.i,sv v_1.t,d,f]) rfl rfl rfl hS ?_
  intro b_8 w hS
  iterate 12 refine z ?_
  refine Cd ?_ ?_
  intro F
  replace hV:=hV.1 (od F)
  iterate 6 refine z ?_
  replace hS:=hS.drop
  refine Cd ?_ ?_
  intro o
  replace hV:=hV.1 (od o)
  iterate 7 refine z ?_
  exact v1
  intro o
  replace hV:=hV.2 (ov o)
  iterate 2 refine z ?_
  refine WC.sub (m:=[]) trivial ?_
  iterate 6 refine z ?_
  exact v1
  intro F
  replace hV:=hV.2 (ov F)
  iterate 4 refine z ?_
  refine Cd ?_ ?_
  intro E
  replace hV:=hV.1 (od E)
  iterate 3 refine z ?_
  refine Rd call31 (WB l hS hV) ?_
  rintro _ w⟨c5,hV,rfl,hS⟩
  iterate 2 refine z ?_
  replace hS:=hS.drop
  iterate 3 refine z ?_
  exact v1
  intro E
  replace hV:=hV.2 (ov E)
  iterate 4 refine z ?_
  refine Cd ?_ ?_
  intro D
  replace hV:=hV.1 (od D)
  obtain⟨b6,hV⟩:=hV
  obtain⟨b7,hV⟩:=hV
  iterate 7 refine z ?_
  replace hS:=hS.drop
  iterate 3 refine z ?_
  exact v1
  intro D
  replace hV:=hV.2 (ov D)
  iterate 4 refine z ?_
  refine Cd ?_ ?_
  intro C
  replace hV:=hV.1 (od C)
  iterate 5 refine z ?_
  replace hS:=hS.drop
  iterate 3 refine z ?_
  exact v1
  intro C
  replace hV:=hV.2 (ov C)
  iterate 4 refine z ?_
  refine Cd ?_ ?_
  intro B
  replace hV:=hV.1 (od B)
  iterate 3 refine z ?_
  refine Rd call32 (Te (@ih) g hS hV) ?_
  rintro _ w⟨c8,hV,rfl,hS⟩
  iterate 2 refine z ?_
  replace hS:=hS.drop
  obtain⟨b8,hV⟩:=hV
  obtain⟨b9,hV⟩:=hV
  iterate 9 refine z ?_
  exact v1
  intro B
  replace hV:=hV.2 (ov B)
  iterate 4 refine z ?_
  refine Cd ?_ ?_
  intro A
  replace hV:=hV.1 (od A)
  refine z ?_
  refine Rn hS (Ac (cs:=[i6 v_1.k,i6 v_1.i,sv v_1.t,d,f]) isAgg32 sizeOf32 rfl rfl rfl) ?_
  refine Rd call33 (RL (v_1:=v_1) G l g j hS hV) ?_
  rintro _ w⟨c9,hV,rfl,hS⟩
  iterate 6 refine z ?_
  refine Cd ?_ ?_
  intro x
  replace hV:=hV.1 x
  iterate 3 refine z ?_
  refine Rd call32 (Te (@ih) j hS hV) ?_
  rintro _ w⟨d0,hV,rfl,hS⟩
  iterate 2 refine z ?_
  replace hS:=hS.drop
  obtain⟨c0,hV⟩:=hV
  obtain⟨c1,hV⟩:=hV
  iterate 10 refine z ?_
  exact v1
  intro x
  replace hV:=hV.2 x
  obtain⟨U,a8,a9,hV⟩:=hV
  iterate 10 refine z ?_
  refine WC.loop (σ:=Aa×Int) (fun s a w=>∃n c,s=(n,c)/\U (n,c)/\I64 c/\St w0 H ([(b_8,oc #[i6 v_1.k,i6 v_1.i,sv v_1.t,d,f] 32)]++L) w/\Fr 83 [(1,(pq b_8)),(6,sv n),(7,i6 c)] a) a8 (([]:Aa),(0:Int)) ?_ ?_
  exact y
  rintro _ a w⟨n,c,rfl,hI,c2,hS,ha⟩
  refine Ab ha ?_
  replace hV:=hV _ hI
  have a5:Len v_1.ks:=g.bound
  replace hV:=hV a5
  iterate 5 refine z ?_
  refine Rn hS (Ao underlying30 rfl g) ?_
  iterate 2 refine z ?_
  refine Cd ?_ ?_
  intro r
  replace hV:=hV.1 (od r)
  obtain⟨V,W,hV⟩:=hV
  iterate 4 refine z ?_
  refine WC.meet (fun a w=>∃N,V N/\St w0 H ([(b_8,oc #[i6 v_1.k,i6 v_1.i,sv v_1.t,d,f] 32)]++L) w/\Fr 83 [(1,(pq b_8)),(6,sv N),(7,i6 c)] a) ?_ ?_
  rintro a w⟨N,hI,hS,ha⟩
  refine Ab ha ?_
  have hV:=W _ hI
  obtain⟨a3,hV⟩:=hV
  iterate 4 refine z ?_
  refine Rx hS (Au underlying30 sizeOf32 rfl rfl g a3) ?_
  intro c3 a6
  refine Rx hS (AE isAgg32 sizeOf32 rfl a6) ?_
  rintro d1⟨_,rfl,hu⟩
  obtain⟨d3,d4,rfl,O,P,Y,a0⟩:=cR_rep.1 hu
  replace hV:=hV O P
  refine Rd call12 (ih (v_1:=(ix v_1.ks c)) O P Y a0 hS hV) ?_
  rintro _ w⟨c6,hV,rfl,hS⟩
  obtain⟨a4,hV⟩:=hV
  iterate 6 refine z ?_
  refine Rx hS (Au underlying30 sizeOf32 rfl rfl j a4) ?_
  intro c4 a7
  refine Rx hS (AE isAgg32 sizeOf32 rfl a7) ?_
  rintro d2⟨_,rfl,hu⟩
  obtain⟨d5,d6,rfl,S,T,a1,a2⟩:=cR_rep.1 hu
  replace hV:=hV S T
  refine Rd call12 (ih (v_1:=(ix v_1.vs c)) S T a1 a2 hS hV) ?_
  rintro _ w⟨c7,hV,rfl,hS⟩
  obtain⟨b0,hV⟩:=hV
  obtain⟨b1,hV⟩:=hV
  obtain⟨b2,hV⟩:=hV
  obtain⟨b3,hV⟩:=hV
  iterate 18 refine z ?_
  exact y
  exact Z
  intro r
  replace hV:=hV.2 (ov r)
  iterate 5 refine z ?_
  replace hS:=hS.drop
  obtain⟨b4,hV⟩:=hV
  obtain⟨b5,hV⟩:=hV
  iterate 9 refine z ?_
  exact v1
  intro A
  replace hV:=hV.2 (ov A)
  iterate 3 refine z ?_
  replace hS:=hS.drop
  iterate 4 refine z ?_
  exact v1
theorem Sy{s_1:Aa}{Q:Bool->Prop}(hS:St w0 H L w)(hV:ET s_1 Q):
 Cl 116 #[sv s_1] w (pB w0 H L Q):=by
 refine BW func116 ntmps116 ?_
 refine zz ?_
 refine WL.buildn (c:=cStr) (xs:=[([109,111,100,117,108,101]:Aa),([99,111,110,115,116,97,110,116]:Aa),([97,116,111,109,115]:Aa),([115,121,109,109,101,116,114,105,99]:Aa),([118,97,114,105,97,98,108,101]:Aa),([100,101,102,105,110,101]:Aa),([105,110,105,116]:Aa),([97,99,116,105,111,110]:Aa),([102,97,105,114]:Aa),([119,101,97,107]:Aa),([115,116,114,111,110,103]:Aa),([105,110,118,97,114,105,97,110,116]:Aa),([112,114,111,112,101,114,116,121]:Aa),([97,110,100]:Aa),([111,114]:Aa),([110,111,116]:Aa),([105,109,112,108,105,101,115]:Aa),([105,102,102]:Aa),([105,110]:Aa),([117,110,105,111,110]:Aa),([105,110,116,101,114]:Aa),([109,105,110,117,115]:Aa),([115,117,98,115,101,116]:Aa),([112,111,119,101,114,115,101,116]:Aa),([102,108,97,116,116,101,110]:Aa),([100,111,109,97,105,110]:Aa),([117,110,99,104,97,110,103,101,100]:Aa),([101,110,97,98,108,101,100]:Aa),([97,108,119,97,121,115]:Aa),([101,118,101,110,116,117,97,108,108,121]:Aa),([117,110,116,105,108]:Aa),([108,101,97,100,115,116,111]:Aa),([99,104,111,111,115,101]:Aa),([97,108,108]:Aa),([115,111,109,101]:Aa),([101,97,99,104]:Aa),([116,104,111,115,101]:Aa),([102,117,110]:Aa),([105,102]:Aa),([116,104,101,110]:Aa),([101,108,115,101]:Aa),([108,101,116]:Aa),([110,105,108]:Aa),([116,114,117,101]:Aa),([102,97,108,115,101]:Aa),([115,105,122,101]:Aa),([108,101,110]:Aa),([104,101,97,100]:Aa),([116,97,105,108]:Aa),([97,112,112,101,110,100]:Aa),([118,97,108,117,101,115]:Aa),([115,101,113,115]:Aa)]) (vs:=[sv ([109,111,100,117,108,101]:Aa),sv ([99,111,110,115,116,97,110,116]:Aa),sv ([97,116,111,109,115]:Aa),sv ([115,121,109,109,101,116,114,105,99]:Aa),sv ([118,97,114,105,97,98,108,101]:Aa),sv ([100,101,102,105,110,101]:Aa),sv ([105,110,105,116]:Aa),sv ([97,99,116,105,111,110]:Aa),sv ([102,97,105,114]:Aa),sv ([119,101,97,107]:Aa),sv ([115,116,114,111,110,103]:Aa),sv ([105,110,118,97,114,105,97,110,116]:Aa),sv ([112,114,111,112,101,114,116,121]:Aa),sv ([97,110,100]:Aa),sv ([111,114]:Aa),sv ([110,111,116]:Aa),sv ([105,109,112,108,105,101,115]:Aa),sv ([105,102,102]:Aa),sv ([105,110]:Aa),sv ([117,110,105,111,110]:Aa),sv ([105,110,116,101,114]:Aa),sv ([109,105,110,117,115]:Aa),sv ([115,117,98,115,101,116]:Aa),sv ([112,111,119,101,114,115,101,116]:Aa),sv ([102,108,97,116,116,101,110]:Aa),sv ([100,111,109,97,105,110]:Aa),sv ([117,110,99,104,97,110,103,101,100]:Aa),sv ([101,110,97,98,108,101,100]:Aa),sv ([97,108,119,97,121,115]:Aa),sv ([101,118,101,110,116,117,97,108,108,121]:Aa),sv ([117,110,116,105,108]:Aa),sv ([108,101,97,100,115,116,111]:Aa),sv ([99,104,111,111,115,101]:Aa),sv ([97,108,108]:Aa),sv ([115,111,109,101]:Aa),sv ([101,97,99,104]:Aa),sv ([116,104,111,115,101]:Aa),sv ([102,117,110]:Aa),sv ([105,102]:Aa),sv ([116,104,101,110]:Aa),sv ([101,108,115,101]:Aa),sv ([108,101,116]:Aa),sv ([110,105,108]:Aa),sv ([116,114,117,101]:Aa),sv ([102,97,108,115,101]:Aa),sv ([115,105,122,101]:Aa),sv ([108,101,110]:Aa),sv ([104,101,97,100]:Aa),sv ([116,97,105,108]:Aa),sv ([97,112,112,101,110,100]:Aa),sv ([118,97,108,117,101,115]:Aa),sv ([115,101,113,115]:Aa)]) rfl underlying43 info9 rfl rfl ⟨rfl,rfl,rfl,rfl,rfl,rfl,rfl,rfl,rfl,rfl,rfl,rfl,rfl,rfl,rfl,rfl,rfl,rfl,rfl,rfl,rfl,rfl,rfl,rfl,rfl,rfl,rfl,rfl,rfl,rfl,rfl,rfl,rfl,rfl,rfl,rfl,rfl,rfl,rfl,rfl,rfl,rfl,rfl,rfl,rfl,rfl,rfl,rfl,rfl,rfl,rfl,rfl,trivial⟩ rfl ⟨_,_,rfl,Ax,⟨_,_,rfl,Ax,⟨_,_,rfl,Ax,⟨_,_,rfl,Ax,⟨_,_,rfl,Ax,⟨_,_,rfl,Ax,⟨_,_,rfl,Ax,⟨_,_,rfl,Ax,⟨_,_,rfl,Ax,⟨_,_,rfl,Ax,⟨_,_,rfl,Ax,⟨_,_,rfl,Ax,⟨_,_,rfl,Ax,⟨_,_,rfl,Ax,⟨_,_,rfl,Ax,⟨_,_,rfl,Ax,⟨_,_,rfl,Ax,⟨_,_,rfl,Ax,⟨_,_,rfl,Ax,⟨_,_,rfl,Ax,⟨_,_,rfl,Ax,⟨_,_,rfl,Ax,⟨_,_,rfl,Ax,⟨_,_,rfl,Ax,⟨_,_,rfl,Ax,⟨_,_,rfl,Ax,⟨_,_,rfl,Ax,⟨_,_,rfl,Ax,⟨_,_,rfl,Ax,⟨_,_,rfl,Ax,⟨_,_,rfl,Ax,⟨_,_,rfl,Ax,⟨_,_,rfl,Ax,⟨_,_,rfl,Ax,⟨_,_,rfl,Ax,⟨_,_,rfl,Ax,⟨_,_,rfl,Ax,⟨_,_,rfl,Ax,⟨_,_,rfl,Ax,⟨_,_,rfl,Ax,⟨_,_,rfl,Ax,⟨_,_,rfl,Ax,⟨_,_,rfl,Ax,⟨_,_,rfl,Ax,⟨_,_,rfl,Ax,⟨_,_,rfl,Ax,⟨_,_,rfl,Ax,⟨_,_,rfl,Ax,⟨_,_,rfl,Ax,⟨_,_,rfl,Ax,⟨_,_,rfl,Ax,⟨_,_,rfl,Ax,rfl⟩⟩⟩⟩⟩⟩⟩⟩⟩⟩⟩⟩⟩⟩⟩⟩⟩⟩⟩⟩⟩⟩⟩⟩⟩⟩⟩⟩⟩⟩⟩⟩⟩⟩⟩⟩⟩⟩⟩⟩⟩⟩⟩⟩⟩⟩⟩⟩⟩⟩⟩⟩ hS rfl ?_
 intro r w j f hS
 obtain⟨i,o,t,hV⟩:=hV
 refine zz ?_
 refine WC.loop (σ:=Int) (fun s a w=>∃d,s=d/\i d/\I64 d/\St w0 H (j++L) w/\Fr 18 [(0,sv s_1),(3,r),(4,i6 d)] a) o (0:Int) ?_ ?_
 exact y
 rintro d a w⟨_,rfl,hI,A,hS,ha⟩
 refine Ab ha ?_
 replace hV:=hV _ hI
 have l:Len ([([109,111,100,117,108,101]:Aa),([99,111,110,115,116,97,110,116]:Aa),([97,116,111,109,115]:Aa),([115,121,109,109,101,116,114,105,99]:Aa),([118,97,114,105,97,98,108,101]:Aa),([100,101,102,105,110,101]:Aa),([105,110,105,116]:Aa),([97,99,116,105,111,110]:Aa),([102,97,105,114]:Aa),([119,101,97,107]:Aa),([115,116,114,111,110,103]:Aa),([105,110,118,97,114,105,97,110,116]:Aa),([112,114,111,112,101,114,116,121]:Aa),([97,110,100]:Aa),([111,114]:Aa),([110,111,116]:Aa),([105,109,112,108,105,101,115]:Aa),([105,102,102]:Aa),([105,110]:Aa),([117,110,105,111,110]:Aa),([105,110,116,101,114]:Aa),([109,105,110,117,115]:Aa),([115,117,98,115,101,116]:Aa),([112,111,119,101,114,115,101,116]:Aa),([102,108,97,116,116,101,110]:Aa),([100,111,109,97,105,110]:Aa),([117,110,99,104,97,110,103,101,100]:Aa),([101,110,97,98,108,101,100]:Aa),([97,108,119,97,121,115]:Aa),([101,118,101,110,116,117,97,108,108,121]:Aa),([117,110,116,105,108]:Aa),([108,101,97,100,115,116,111]:Aa),([99,104,111,111,115,101]:Aa),([97,108,108]:Aa),([115,111,109,101]:Aa),([101,97,99,104]:Aa),([116,104,111,115,101]:Aa),([102,117,110]:Aa),([105,102]:Aa),([116,104,101,110]:Aa),([101,108,115,101]:Aa),([108,101,116]:Aa),([110,105,108]:Aa),([116,114,117,101]:Aa),([102,97,108,115,101]:Aa),([115,105,122,101]:Aa),([108,101,110]:Aa),([104,101,97,100]:Aa),([116,97,105,108]:Aa),([97,112,112,101,110,100]:Aa),([118,97,108,117,101,115]:Aa),([115,101,113,115]:Aa)]):=f.bound
 replace hV:=hV l
 refine zz ?_
 refine Rn hS (AP underlying43 rfl f) ?_
 refine zz ?_
 refine Ce hV ?_ ?_<;>intro x hV
 obtain⟨g,hV⟩:=hV
 refine zz ?_
 refine Rx hS (Ai underlying43 sizeOf9 rfl rfl f g) ?_
 intro B m
 refine Rx hS (BG (H:=H) (L:=L) (AD isAgg9 rfl rfl f m g)) ?_
 intro C n
 obtain rfl:=Nq n
 refine zz ?_
 exact Z
 replace hS:=hS.drop
 refine zz ?_
 exact v1
theorem PR{a:Int}{Q:Bool->Prop}(f:IntKind.u8.has a)(hS:St w0 H L w)(hV:IW a Q):
 Cl 115 #[.int .u8 a] w (pB w0 H L Q):=by
 refine BW func115 ntmps115 ?_
 iterate 3 refine z ?_
 refine WC.seq ?_
 refine WC.via (m:=[(2,.bool (decide ((((97:Int)<=a)/\(a<=(122:Int)))\/(((65:Int)<=a)/\(a<=(90:Int))))))]) ?_ ?_
 refine zz ?_
 rcases DG (decide ((97:Int)<=a)) with b|b
 iterate 3 refine z ?_
 refine WL.up (s:=8) rfl (De b:decide (a<=(122:Int))=decide (((97:Int)<=a)/\(a<=(122:Int)))) (R hS ?_)
 rcases DG (decide (((97:Int)<=a)/\(a<=(122:Int)))) with c|c
 iterate 7 refine z ?_
 refine WL.up (s:=16) rfl (Bg c:true=decide ((((97:Int)<=a)/\(a<=(122:Int)))\/(((65:Int)<=a)/\(a<=(90:Int))))) (R hS ?_)
 exact WL.nil At.os
 refine zz ?_
 rcases DG (decide ((65:Int)<=a)) with d|d
 iterate 3 refine z ?_
 refine WL.up (s:=15) rfl (De d:decide (a<=(90:Int))=decide (((65:Int)<=a)/\(a<=(90:Int)))) (z ?_)
 refine WL.up (s:=16) rfl (CQ c:decide (((65:Int)<=a)/\(a<=(90:Int)))=decide ((((97:Int)<=a)/\(a<=(122:Int)))\/(((65:Int)<=a)/\(a<=(90:Int))))) (R hS ?_)
 exact WL.nil At.os
 iterate 3 refine z ?_
 refine WL.up (s:=15) rfl (Bj d:false=decide (((65:Int)<=a)/\(a<=(90:Int)))) (z ?_)
 refine WL.up (s:=16) rfl (CQ c:decide (((65:Int)<=a)/\(a<=(90:Int)))=decide ((((97:Int)<=a)/\(a<=(122:Int)))\/(((65:Int)<=a)/\(a<=(90:Int))))) (R hS ?_)
 exact WL.nil At.os
 iterate 3 refine z ?_
 refine WL.up (s:=8) rfl (Bj b:false=decide (((97:Int)<=a)/\(a<=(122:Int)))) (R hS ?_)
 refine Ug (Bj b).symm ?_
 refine R hS ?_
 refine Ug (Bj b).symm ?_
 refine R hS ?_
 refine Ug (Bj b).symm ?_
 refine R hS ?_
 rcases DG (decide ((65:Int)<=a)) with e|e
 refine zz ?_
 refine Ug (Bj b).symm ?_
 refine z ?_
 refine WL.up (s:=15) rfl (De e:decide (a<=(90:Int))=decide (((65:Int)<=a)/\(a<=(90:Int)))) (Rn hS (FA rfl (Bj b).symm rfl) ?_)
 refine WL.up (s:=16) rfl (CQ (Bj b).symm:decide (((65:Int)<=a)/\(a<=(90:Int)))=decide ((((97:Int)<=a)/\(a<=(122:Int)))\/(((65:Int)<=a)/\(a<=(90:Int))))) (R hS ?_)
 exact WL.nil At.os
 refine zz ?_
 refine Ug (Bj b).symm ?_
 refine z ?_
 refine WL.up (s:=15) rfl (Bj e:false=decide (((65:Int)<=a)/\(a<=(90:Int)))) (Rn hS (FA rfl (Bj b).symm rfl) ?_)
 refine WL.up (s:=16) rfl (CQ (Bj b).symm:decide (((65:Int)<=a)/\(a<=(90:Int)))=decide ((((97:Int)<=a)/\(a<=(122:Int)))\/(((65:Int)<=a)/\(a<=(90:Int))))) (R hS ?_)
 exact WL.nil At.os
 refine zz ?_
 exact v1
theorem Om{a:Int}{Q:Bool->Prop}(c:IntKind.u8.has a)(hS:St w0 H L w)(hV:Gy a Q):
 Cl 113 #[.int .u8 a] w (pB w0 H L Q):=by
 refine BW func113 ntmps113 ?_
 iterate 3 refine z ?_
 refine WC.seq ?_
 refine WC.via (m:=[(2,.bool (decide (((48:Int)<=a)/\(a<=(57:Int)))))]) ?_ ?_
 refine zz ?_
 rcases DG (decide ((48:Int)<=a)) with b|b
 iterate 3 refine z ?_
 refine WL.up (s:=8) rfl (De b) (R hS ?_)
 exact WL.nil At.os
 iterate 3 refine z ?_
 refine WL.up (s:=8) rfl (Bj b:false=decide (((48:Int)<=a)/\(a<=(57:Int)))) (R hS ?_)
 exact WL.nil At.os
 refine zz ?_
 exact v1
theorem Aaq{d:Int}{Q:Bool->Prop}(f:IntKind.u8.has d)(hS:St w0 H L w)(hV:NF d Q):
 Cl 196 #[.int .u8 d] w (pB w0 H L Q):=by
 refine BW func196 ntmps196 ?_
 refine zz ?_
 refine Rd call115 (PR f hS hV) ?_
 rintro _ w⟨b,hV,rfl,hS⟩
 refine zz ?_
 refine Rd call113 (Om f hS hV) ?_
 rintro _ w⟨c,hV,rfl,hS⟩
 iterate 2 refine z ?_
 refine WC.seq ?_
 refine WC.via (m:=[(2,.bool (decide (((b=true)\/(c=true))\/(d=(95:Int)))))]) ?_ ?_
 refine zz ?_
 rcases DG b with a|a
 iterate 2 refine z ?_
 refine WL.up (s:=12) rfl (Bg ((AH _).symm.trans a):true=decide ((b=true)\/(c=true))) (R hS ?_)
 refine WL.skip_g rfl rfl rfl (Bg ((AH _).symm.trans a)).symm rfl rfl (WL.skip_g rfl rfl rfl (Bg ((AH _).symm.trans a)).symm rfl rfl (Rn hS (Dp rfl (Bg ((AH _).symm.trans a)).symm rfl) ?_))
 refine WL.up (s:=16) rfl (Bg (Bg ((AH _).symm.trans a)).symm:true=decide (((b=true)\/(c=true))\/(d=(95:Int)))) (R hS ?_)
 exact WL.nil At.os
 iterate 2 refine z ?_
 refine WL.up (s:=12) rfl ((AH _).trans (CQ ((AH _).symm.trans a):decide (c=true)=decide ((b=true)\/(c=true)))) (R hS ?_)
 rcases DG (decide ((b=true)\/(c=true))) with e|e
 iterate 3 refine z ?_
 refine WL.up (s:=16) rfl (Bg e:true=decide (((b=true)\/(c=true))\/(d=(95:Int)))) (R hS ?_)
 exact WL.nil At.os
 iterate 3 refine z ?_
 refine WL.up (s:=16) rfl (CQ e) (R hS ?_)
 exact WL.nil At.os
 refine zz ?_
 exact v1
theorem AcQ{s_1:Aa}{d:Int}{Q:Int->Prop}(n:I64 d)(hS:St w0 H L w)(hV:Re s_1 d Q):
 Cl 112 #[sv s_1,i6 d] w (pI w0 H L Q):=by
 refine Co func112 ntmps112 ?_
 have c1:=@Aaq;have d1:=call196
 obtain⟨i,j,hV⟩:=hV
 iterate 3 refine z ?_
 refine WC.meet (fun a w=>∃f,i f/\I64 f/\St w0 H (L) w/\Fr 19 [(1,i6 f)] a) ?_ ?_
 rintro a w⟨f,hI,o,hS,ha⟩
 refine Ab ha ?_
 have hV:=j _ hI
 refine zz ?_
 exact v1
 obtain⟨g,l,m,hV⟩:=hV
 refine zz ?_
 refine WC.loop (σ:=Int) (fun s a w=>∃c,s=c/\g c/\I64 c/\St w0 H (L) w/\Fr 19 [(0,sv s_1),(1,i6 c)] a) l d ?_ ?_
 exact y
 rintro c a w⟨_,rfl,hI,r,hS,ha⟩
 refine Ab ha ?_
 replace hV:=hV _ hI
 exact Z
theorem WV{s_1:Aa}{d:Int}{Q:Int->Prop}(B:I64 d)(hS:St w0 H L w)(hV:Lh s_1 d Q):
 Cl 111 #[sv s_1,i6 d] w (pI w0 H L Q):=by
 refine Co func111 ntmps111 ?_
 obtain⟨r,hV⟩:=hV
 obtain⟨g,l,m,hV⟩:=hV
 iterate 10 refine z ?_
 refine WC.loop (σ:=Int) (fun s a w=>∃c,s=c/\g c/\I64 c/\St w0 H (L) w/\Fr 36 [(0,sv s_1),(5,i6 c)] a) l (d+(1:Int)) ?_ ?_
 exact y
 rintro c a w⟨_,rfl,hI,C,hS,ha⟩
 refine Ab ha ?_
 replace hV:=hV _ hI
 obtain⟨A,hV⟩:=hV
 iterate 7 refine z ?_
 refine Ce hV ?_ ?_<;>intro o hV
 obtain⟨x,hV⟩:=hV
 iterate 11 refine z ?_
 refine Ce hV ?_ ?_<;>intro n hV
 obtain⟨t,hV⟩:=hV
 iterate 12 refine z ?_
 exact v1
 obtain⟨i,j,hV⟩:=hV
 iterate 2 refine z ?_
 refine WC.meet (fun a w=>∃f,i f/\St w0 H (L) w/\Fr 36 [(0,sv s_1),(5,i6 c),(35,.bool f)] a) ?_ ?_
 rintro a w⟨f,hI,hS,ha⟩
 refine Ab ha ?_
 have hV:=j _ hI
 exact Z
 exact Z
 iterate 9 refine z ?_
 exact v1
theorem AaW{s_1:Aa}{Q:Int->Bool->Prop}(hS:St w0 H L w)(hV:ML s_1 Q):
 Cl 197 #[sv s_1] w fun e w'=>∃(r1:Int)(r2:Bool),Q r1 r2/\e=.returned (.tuple #[.int .u64 r1,.bool r2])/\IntKind.u64.has r1/\St w0 H (L) w':=by
 refine BW func197 ntmps197 ?_
 obtain⟨f,g,i,hV⟩:=hV
 refine zz ?_
 refine WC.loop (σ:=Int×Int) (fun s a w=>∃d c,s=(d,c)/\f (d,c)/\IntKind.u64.has d/\I64 c/\St w0 H (L) w/\Fr 28 [(0,sv s_1),(4,.int .u64 d),(5,i6 c)] a) g ((0:Int),(0:Int)) ?_ ?_
 exact y
 rintro _ a w⟨d,c,rfl,hI,j,l,hS,ha⟩
 refine Ab ha ?_
 replace hV:=hV _ hI
 exact Z
theorem Ey{f:Nat}{m:Aa}{d:Int}{c:Int}{j:Int}{g:Int}{l:Bool}{i:Int}{n:Int}{Q:Int->Int->Prop}(A:I64 d)(B:I64 c)(o:I64 j)(r:I64 g)(t:I64 i)(x:I64 n)(hS:St w0 H ([(f,oc #[sv m,i6 d,i6 c,i6 j,i6 g,.bool l] 67)]++L) w)(hV:BP m d c j g l i n Q):
 Cl 28 #[(pq f),i6 i,i6 n] w fun e w'=>∃(r1:Int)(r2:Int),Q r1 r2/\e=.returned (.tuple #[])/\I64 r1/\I64 r2/\St w0 H ([(f,oc #[sv m,i6 d,i6 c,i6 r1,i6 r2,.bool l] 67)]++L) w':=by
 refine Li func28 ntmps28 ?_
 exact Z
theorem Qd{f:Nat}{d:Aa}{r:Int}{i:Int}{j:Int}{g:Int}{l:Bool}{Q:Int->Prop}(U:I64 r)(V:I64 i)(P:I64 j)(S:I64 g)(hS:St w0 H ([(f,oc #[sv d,i6 r,i6 i,i6 j,i6 g,.bool l] 67)]++L) w)(hV:Kh d r i j g l Q):
 Cl 27 #[(pq f)] w fun e w'=>∃(r1:Int),Q r1/\e=.returned (.tuple #[])/\I64 r1/\St w0 H ([(f,oc #[sv d,i6 r1,i6 i,i6 j,i6 g,.bool l] 67)]++L) w':=by
 refine BW func27 ntmps27 ?_
 obtain⟨x,D,E,hV⟩:=hV
 refine zz ?_
 refine WC.loop (σ:=Int) (fun s a w=>∃c,s=c/\x c/\I64 c/\St w0 H ([(f,oc #[sv d,i6 c,i6 i,i6 j,i6 g,.bool l] 67)]++L) w/\Fr 56 [(0,(pq f))] a) D r ?_ ?_
 exact y
 rintro c a w⟨_,rfl,hI,T,hS,ha⟩
 refine Ab ha ?_
 replace hV:=hV _ hI
 obtain⟨A,B,hV⟩:=hV
 refine z ?_
 refine WC.meet (fun a w=>∃t,A t/\St w0 H ([(f,oc #[sv d,i6 c,i6 i,i6 j,i6 g,.bool l] 67)]++L) w/\Fr 56 [(0,(pq f)),(47,.bool t)] a) ?_ ?_
 rintro a w⟨t,hI,hS,ha⟩
 refine Ab ha ?_
 have hV:=B _ hI
 exact Z
 refine WC.quiet (C:=St w0 H ([(f,oc #[sv d,i6 c,i6 i,i6 j,i6 g,.bool l] 67)]++L)) mixed (by kernel_rfl) (hS.drawn _) ?_
 iterate 8 refine Rq ?_
 obtain⟨O,hV⟩:=hV
 iterate 3 refine Rq ?_
 rcases DG (decide (c<(d.length:Int))) with m|m
 replace hV:=hV.1 (od m)
 iterate 8 refine Rq ?_
 refine Uq m ?_
 obtain⟨F,hV⟩:=hV
 iterate 3 refine Rq ?_
 rcases DG (decide ((AS d c)=(32:Int))) with n|n
 replace hV:=hV.1 (od n)
 iterate 24 refine Rq ?_
 refine Wq.nil fun w hS=>?_
 exact y
 replace hV:=hV.2 (ov n)
 iterate 8 refine Rq ?_
 refine Uq n ?_
 obtain⟨G,hV⟩:=hV
 iterate 4 refine Rq ?_
 rcases DG (decide ((AS d c)=(9:Int))) with o|o
 replace hV:=hV.1 (od o)
 iterate 12 refine Rq ?_
 refine Wq.nil fun w hS=>?_
 exact y
 replace hV:=hV.2 (ov o)
 iterate 8 refine Rq ?_
 refine Uq o ?_
 obtain⟨N,hV⟩:=hV
 iterate 4 refine Rq ?_
 refine Wq.nil fun w hS=>?_
 exact y
 replace hV:=hV.2 (ov m)
 iterate 35 refine Rq ?_
 refine Wq.nil fun w hS=>?_
 exact y
theorem IS{g:Nat}{f:Aa}{o:Int}{d:Int}{b:Int}{c:Int}{h:Bool}{k:Aa}{Q:Bool->Int->Prop}(u:I64 o)(v:I64 d)(s:I64 b)(t:I64 c)(hS:St w0 H ([(g,oc #[sv f,i6 o,i6 d,i6 b,i6 c,.bool h] 67)]++L) w)(hV:Et f o d b c h k Q):
 Cl 68 #[(pq g),sv k] w fun e w'=>∃(r1:Bool)(r2:Int),Q r1 r2/\e=.returned (.bool r1)/\I64 r2/\St w0 H ([(g,oc #[sv f,i6 r2,i6 d,i6 b,i6 c,.bool h] 67)]++L) w':=by
 refine Co func68 ntmps68 ?_
 iterate 5 refine z ?_
 refine Rd call27 (Qd u v s t hS hV) ?_
 rintro _ w⟨l,hV,rfl,J,hS⟩
 obtain⟨p,q,hV⟩:=hV
 iterate 2 refine z ?_
 refine WC.meet (fun a w=>∃n,p n/\St w0 H ([(g,oc #[sv f,i6 l,i6 d,i6 b,i6 c,.bool h] 67)]++L) w/\Fr 57 [(0,(pq g)),(1,sv k),(46,.bool n)] a) ?_ ?_
 rintro a w⟨n,hI,hS,ha⟩
 refine Ab ha ?_
 have hV:=q _ hI
 refine Cf hV ?_ ?_<;>intro x hV
 iterate 5 refine z ?_
 exact v1
 obtain⟨I,hV⟩:=hV
 obtain⟨D,hV⟩:=hV
 iterate 13 refine z ?_
 refine Ee #[sv f,i6 (l+(k.length:Int)),i6 d,i6 b,i6 c,.bool h] sizeOf3 hS ?_
 intro w hS
 refine z ?_
 refine WC.sub (m:=[]) trivial ?_
 iterate 4 refine z ?_
 exact v1
 refine WC.quiet (C:=St w0 H ([(g,oc #[sv f,i6 l,i6 d,i6 b,i6 c,.bool h] 67)]++L)) mixed (by kernel_rfl) (hS.drawn _) ?_
 iterate 6 refine Rq ?_
 rcases DG (decide (b≠(0:Int))) with i|i
 replace hV:=hV.1 (od i)
 iterate 34 refine Rq ?_
 refine Wq.nil fun w hS=>?_
 exact y
 replace hV:=hV.2 (ov i)
 iterate 4 refine Rq ?_
 refine Uq i ?_
 obtain⟨E,hV⟩:=hV
 iterate 5 refine Rq ?_
 refine Uq i ?_
 obtain⟨A,hV⟩:=hV
 iterate 2 refine Rq ?_
 refine Uq i ?_
 obtain⟨F,hV⟩:=hV
 iterate 4 refine Rq ?_
 rcases DG (decide (((f.length:Int)-l)<(k.length:Int))) with j|j
 replace hV:=hV.1 (od j)
 iterate 19 refine Rq ?_
 refine Wq.nil fun w hS=>?_
 exact y
 replace hV:=hV.2 (ov j)
 iterate 13 refine Rq ?_
 refine Uq j ?_
 obtain⟨G,hV⟩:=hV
 refine Rq ?_
 refine Uq j ?_
 obtain⟨B,hV⟩:=hV
 refine Rq ?_
 refine Uq j ?_
 obtain⟨r,hV⟩:=hV
 refine Rm (Ft underlying9 rfl rfl rfl r) ?_
 iterate 3 refine Rq ?_
 refine Wq.nil fun w hS=>?_
 exact y
theorem VQ{d:Nat}{j:Aa}{l:Int}{c:Int}{g:Int}{f:Int}{i:Bool}{m:Aa}{Q:Int->Int->Int->Prop}(r:I64 l)(t:I64 c)(n:I64 g)(o:I64 f)(hS:St w0 H ([(d,oc #[sv j,i6 l,i6 c,i6 g,i6 f,.bool i] 67)]++L) w)(hV:Hr j l c g f i m Q):
 Cl 110 #[(pq d),sv m] w fun e w'=>∃(r1:Int)(r2:Int)(r3:Int),Q r1 r2 r3/\e=.returned (.tuple #[])/\I64 r1/\I64 r2/\I64 r3/\St w0 H ([(d,oc #[sv j,i6 r1,i6 c,i6 r2,i6 r3,.bool i] 67)]++L) w':=by
 refine Co func110 ntmps110 ?_
 have c1:=@Ey;have d1:=call28
 refine zz ?_
 refine Rd call68 (IS r t n o hS hV) ?_
 rintro _ w⟨A,B,hV,rfl,x,hS⟩
 exact Z
theorem NW{l:Nat}{m:Aa}{j:Int}{d:Int}{f:Int}{c:Int}{x:Bool}{v_14:RV}{v_15:Value}{g:Value}{Q:RV->Bool->Prop}(O:I64 j)(P:I64 d)(E:I64 f)(F:I64 c)(G:I64 v_14.k)(N:I64 v_14.i)(C:IsSl H cR v_15 v_14.ks)(D:IsSl H cR g v_14.vs)(hS:St w0 H ([(l,oc #[sv m,i6 j,i6 d,i6 f,i6 c,.bool x] 67)]++L) w)(hV:It m j d f c x v_14 Q):
 Cl 70 #[(pq l),.agg #[i6 v_14.k,i6 v_14.i,sv v_14.t,v_15,g]] w fun e w'=>∃(r1:RV)(r2:Bool)(u1:Value)(w1:Value)(H':View),Q r1 r2/\e=.returned (.agg #[i6 r1.k,i6 r1.i,sv r1.t,u1,w1])/\View.le H H'/\I64 r1.k/\I64 r1.i/\IsSl H' cR u1 r1.ks/\IsSl H' cR w1 r1.vs/\St w0 H' ([(l,oc #[sv m,i6 j,i6 d,i6 f,i6 c,.bool r2] 67)]++L) w':=by
 refine Co func70 ntmps70 ?_
 refine zz ?_
 refine WL.box (arr:=#[i6 v_14.k,i6 v_14.i,sv v_14.t,v_15,g]) rfl rfl rfl hS ?_
 intro o w hS
 refine aR hS ?_
 intro r w hS
 obtain⟨A,B,hV⟩:=hV
 refine z ?_
 refine WC.meet (fun a w=>∃n,A n/\St w0 H ([(o,oc #[i6 v_14.k,i6 v_14.i,sv v_14.t,v_15,g] 32)]++([(r,Obj.cells #[i6 0,i6 0,sv ([]:Aa),ns,ns] 32 (0,0))]++([(l,oc #[sv m,i6 j,i6 d,i6 f,i6 c,.bool n] 67)]++L))) w/\Fr 12 [(3,(pq o)),(4,(pq r))] a) ?_ ?_
 rintro a w⟨n,hI,hS,ha⟩
 refine Ab ha ?_
 have hV:=B _ hI
 refine zz ?_
 refine Rn hS (Ac (cs:=[i6 v_14.k,i6 v_14.i,sv v_14.t,v_15,g]) isAgg32 sizeOf32 rfl rfl rfl) ?_
 replace hS:=hS.f2
 refine sE hS ?_
 intro w hS
 replace hS:=hS.f2.drop
 refine zz ?_
 exact vc
 replace hS:=hS.f2
 exact Z
theorem Xt{d:Nat}{C:Aa}{F:Int}{j:Int}{o:Int}{n:Int}{r:Bool}{E:Aa}{c:Bool}{A:Int}{f:Int}{Q:RV->Int->Int->Int->Prop}(a0:I64 F)(a1:I64 j)(V:I64 o)(W:I64 n)(Y:I64 A)(c0:I64 f)(hS:St w0 H ([(d,oc #[sv C,i6 F,i6 j,i6 o,i6 n,.bool r] 67)]++L) w)(hV:IX C F j o n r E c A f Q):
 Cl 114 #[(pq d),sv E,.bool c,i6 A,i6 f] w fun e w'=>∃(r1:RV)(r2:Int)(r3:Int)(r4:Int)(u1:Value)(w1:Value)(H':View),Q r1 r2 r3 r4/\e=.returned (.agg #[i6 r1.k,i6 r1.i,sv r1.t,u1,w1])/\View.le H H'/\I64 r1.k/\I64 r1.i/\IsSl H' cR u1 r1.ks/\IsSl H' cR w1 r1.vs/\I64 r2/\I64 r3/\I64 r4/\St w0 H' ([(d,oc #[sv C,i6 r2,i6 j,i6 r3,i6 r4,.bool r] 67)]++L) w':=by
 refine En5 func114 ntmps114 ?_
 refine zz ?_
 refine aR hS ?_
 intro g w hS
 obtain⟨a3,a5,hV⟩:=hV
 refine z ?_
 refine WC.meet (fun a w=>∃O,a3 O/\St w0 H ([(d,oc #[sv C,i6 F,i6 j,i6 o,i6 n,.bool r] 67)]++([(g,Obj.cells #[i6 0,i6 0,sv ([]:Aa),ns,ns] 32 (0,0))]++L)) w/\Fr 77 [(0,(pq d)),(1,sv E),(2,.bool c),(3,i6 A),(4,i6 f),(10,(pq g)),(11,.bool O)] a) ?_ ?_
 rintro a w⟨O,hI,hS,ha⟩
 refine Ab ha ?_
 have hV:=a5 _ hI
 replace hS:=hS.f2.f2
 obtain⟨a2,a7,a9,hV⟩:=hV
 refine zz ?_
 refine WC.loop (σ:=Bool×Int) (fun s a w=>∃l B,s=(l,B)/\a2 (l,B)/\I64 B/\St w0 H ([(d,oc #[sv C,i6 F,i6 j,i6 o,i6 n,.bool r] 67)]++([(g,Obj.cells #[i6 0,i6 0,sv ([]:Aa),ns,ns] 32 (0,0))]++L)) w/\Fr 77 [(0,(pq d)),(1,sv E),(2,.bool c),(3,i6 A),(4,i6 f),(10,(pq g)),(11,.bool l),(12,i6 B)] a) a7 (O,(0:Int)) ?_ ?_
 exact y
 rintro _ a w⟨l,B,rfl,hI,c1,hS,ha⟩
 refine Ab ha ?_
 replace hV:=hV _ hI
 obtain⟨b7,hV⟩:=hV
 refine zz ?_
 refine Ce hV ?_ ?_<;>intro b4 hV
 obtain⟨b6,hV⟩:=hV
 refine zz ?_
 refine Rd call113 (Om (IJ (x:=E) (i:=B)) hS hV) ?_
 rintro _ w⟨P,hV,rfl,hS⟩
 refine z ?_
 refine WL.nx ?_
 refine WC.via (m:=[(0,(pq d)),(1,sv E),(2,.bool c),(3,i6 A),(4,i6 f),(10,(pq g)),(11,.bool (decide ((l=true)/\(P=true)))),(12,i6 B)]) ?_ ?_
 refine zz ?_
 rcases DG l with S|S
 iterate 2 refine z ?_
 refine WL.up (s:=41) rfl ((AH _).trans (De ((AH _).symm.trans S):decide (P=true)=decide ((l=true)/\(P=true)))) (R hS ?_)
 exact WL.nil At.os
 iterate 2 refine z ?_
 refine WL.up (s:=41) rfl (Bj ((AH _).symm.trans S):false=decide ((l=true)/\(P=true))) (R hS ?_)
 exact WL.nil At.os
 obtain⟨b5,hV⟩:=hV
 replace hS:=hS.f2.f2
 refine zz ?_
 exact y
 refine zz ?_
 refine Cf hV ?_ ?_<;>intro b3 hV
 refine zz ?_
 refine Rd call28 (Ey a0 a1 V W (show I64 (1:Int) by unfold I64;omega) Y hS hV) ?_
 rintro _ w⟨c9,d0,hV,rfl,c2,c3,hS⟩
 refine zz ?_
 refine Rn hS bR ?_
 replace hS:=hS.f2
 refine sE hS ?_
 intro w hS
 refine zz ?_
 exact vc
 refine zz ?_
 refine Rd call197 (AaW hS hV) ?_
 rintro _ w⟨D,U,hV,rfl,c4,hS⟩
 iterate 7 refine z ?_
 refine WC.seq ?_
 refine WC.via (m:=[(0,(pq d)),(2,.bool c),(3,i6 A),(4,i6 f),(10,(pq g)),(14,.int .u64 D),(62,.bool (decide (((!U)=true)\/((D=(9223372036854775808:Int))/\((!c)=true)))))]) ?_ ?_
 refine zz ?_
 rcases DG (!U) with G|G
 iterate 7 refine z ?_
 refine WL.up (s:=62) rfl (Bg ((AH _).symm.trans G):true=decide (((!U)=true)\/((D=(9223372036854775808:Int))/\((!c)=true)))) ?_
 exact WL.nil At.os
 refine zz ?_
 rcases DG (decide (D=(9223372036854775808:Int))) with T|T
 iterate 3 refine z ?_
 refine WL.up (s:=61) rfl ((AH _).trans (De T:decide ((!c)=true)=decide ((D=(9223372036854775808:Int))/\((!c)=true)))) (z ?_)
 refine WL.up (s:=62) rfl (CQ ((AH _).symm.trans G)) ?_
 exact WL.nil At.os
 iterate 3 refine z ?_
 refine WL.up (s:=61) rfl (Bj T:false=decide ((D=(9223372036854775808:Int))/\((!c)=true))) (z ?_)
 refine WL.up (s:=62) rfl (CQ ((AH _).symm.trans G)) ?_
 exact WL.nil At.os
 refine zz ?_
 refine Ce hV ?_ ?_<;>intro b2 hV
 refine zz ?_
 refine Rd call28 (Ey a0 a1 V W (show I64 (5:Int) by unfold I64;omega) Y hS hV) ?_
 rintro _ w⟨d1,d2,hV,rfl,c5,c6,hS⟩
 refine zz ?_
 refine Rn hS bR ?_
 replace hS:=hS.f2
 refine sE hS ?_
 intro w hS
 refine zz ?_
 exact vc
 refine zz ?_
 refine Ee #[sv C,i6 f,i6 j,i6 o,i6 n,.bool r] sizeOf3 hS ?_
 intro w hS
 obtain⟨a4,a6,hV⟩:=hV
 refine z ?_
 refine WC.meet (fun a w=>∃N,a4 N/\IntKind.u64.has N/\St w0 H ([(g,Obj.cells #[i6 0,i6 0,sv ([]:Aa),ns,ns] 32 (0,0))]++([(d,oc #[sv C,i6 f,i6 j,i6 o,i6 n,.bool r] 67)]++L)) w/\Fr 77 [(10,(pq g)),(14,.int .u64 N)] a) ?_ ?_
 rintro a w⟨N,hI,c7,hS,ha⟩
 refine Ab ha ?_
 have hV:=a6 _ hI
 refine zz ?_
 refine Rd call81 (CT (Ck _) hS hV) ?_
 rintro _ w⟨d3,d4,d5,a8,hV,rfl,c8,b8,b9,b0,b1,hS⟩
 refine sE hS ?_
 intro w hS
 refine zz ?_
 exact vc
 exact Z
 exact Z
theorem WE{l:Nat}{c:Aa}{f:Int}{n:Int}{B:Int}{A:Int}{o:Bool}{Q:RV->Int->Int->Int->Prop}(g:I64 f)(E:I64 n)(C:I64 B)(D:I64 A)(hS:St w0 H ([(l,oc #[sv c,i6 f,i6 n,i6 B,i6 A,.bool o] 67)]++L) w)(hV:Ll c f n B A o Q):
 Cl 72 #[(pq l)] w fun e w'=>∃(r1:RV)(r2:Int)(r3:Int)(r4:Int)(u1:Value)(w1:Value)(H':View),Q r1 r2 r3 r4/\e=.returned (.agg #[i6 r1.k,i6 r1.i,sv r1.t,u1,w1])/\View.le H H'/\I64 r1.k/\I64 r1.i/\IsSl H' cR u1 r1.ks/\IsSl H' cR w1 r1.vs/\I64 r2/\I64 r3/\I64 r4/\St w0 H' ([(l,oc #[sv c,i6 r2,i6 n,i6 r3,i6 r4,.bool o] 67)]++L) w':=by
 refine BW func72 ntmps72 ?_
 have c1:=@Ey;have d1:=call28
 refine zz ?_
 refine aR hS ?_
 intro r w hS
 replace hS:=hS.f2
 obtain⟨d0,hV⟩:=hV
 refine zz ?_
 refine Ce hV ?_ ?_<;>intro c3 hV
 refine zz ?_
 refine Rd call28 (Ey g E C D (show I64 (1:Int) by unfold I64;omega) g hS hV) ?_
 rintro _ w⟨g3,g4,hV,rfl,e2,e3,hS⟩
 refine zz ?_
 refine Rn hS bR ?_
 replace hS:=hS.f2
 refine sE hS ?_
 intro w hS
 refine zz ?_
 exact vc
 obtain⟨c7,hV⟩:=hV
 refine zz ?_
 refine Ce hV ?_ ?_<;>intro c2 hV
 refine zz ?_
 refine Rd call111 (WV g hS hV) ?_
 rintro _ w⟨T,hV,rfl,e4,hS⟩
 refine zz ?_
 refine Ce hV ?_ ?_<;>intro c4 hV
 refine zz ?_
 refine Rd call28 (Ey g E C D (show I64 (1:Int) by unfold I64;omega) g hS hV) ?_
 rintro _ w⟨g5,g6,hV,rfl,e5,e6,hS⟩
 refine zz ?_
 refine Rn hS bR ?_
 replace hS:=hS.f2
 refine sE hS ?_
 intro w hS
 refine zz ?_
 exact vc
 refine zz ?_
 refine Ee #[sv c,i6 T,i6 n,i6 B,i6 A,.bool o] sizeOf3 hS ?_
 intro w hS
 obtain⟨c5,hV⟩:=hV
 obtain⟨c6,hV⟩:=hV
 obtain⟨a2,hV⟩:=hV
 refine zz ?_
 refine Rn hS (Ft underlying9 rfl rfl rfl a2) ?_
 refine Rn hS (Aq (vs:=[i6 (3:Int),sv ((c.take (T-(1:Int)).toNat).drop (f+(1:Int)).toNat)]) (zc:=#[i6 0,i6 0,sv ([]:Aa),ns,ns]) (cs:=#[i6 (3:Int),i6 0,sv ((c.take (T-(1:Int)).toNat).drop (f+(1:Int)).toNat),ns,ns]) (places:=#[(0,1),(1,1),(2,1),(3,1),(4,1)]) underlying32 zeroValue32 (fun w=>by simp[sizeOf2,sizeOf3,sizeOf30,sizeOf9]) rfl ⟨rfl,rfl,trivial⟩ rfl Zf) ?_
 replace hS:=hS.f2
 refine sE hS ?_
 intro w hS
 refine zz ?_
 exact vc
 obtain⟨W,a1,hV⟩:=hV
 iterate 6 refine z ?_
 refine WC.meet (fun a w=>∃d,W d/\I64 d/\St w0 H ([(l,oc #[sv c,i6 f,i6 n,i6 B,i6 A,.bool o] 67)]++([(r,Obj.cells #[i6 0,i6 0,sv ([]:Aa),ns,ns] 32 (0,0))]++L)) w/\Fr 142 [(0,(pq l)),(2,(pq r)),(3,i6 f),(5,i6 d)] a) ?_ ?_
 rintro a w⟨d,hI,a4,hS,ha⟩
 refine Ab ha ?_
 have hV:=a1 _ hI
 refine zz ?_
 refine Rd call112 (AcQ a4 hS hV) ?_
 rintro _ w⟨j,hV,rfl,a5,hS⟩
 obtain⟨a3,hV⟩:=hV
 refine zz ?_
 refine Rn hS (Ft underlying9 rfl rfl rfl a3) ?_
 refine zz ?_
 refine Ce hV ?_ ?_<;>intro c0 hV
 refine zz ?_
 refine Rd call28 (Ey g E C D (show I64 (1:Int) by unfold I64;omega) g hS hV) ?_
 rintro _ w⟨g7,g8,hV,rfl,e7,e8,hS⟩
 refine zz ?_
 refine Rn hS bR ?_
 replace hS:=hS.f2
 refine sE hS ?_
 intro w hS
 refine zz ?_
 exact vc
 obtain⟨c8,hV⟩:=hV
 refine zz ?_
 refine Rd call113 (Om (IJ (x:=((c.take j.toNat).drop d.toNat)) (i:=(0:Int))) hS hV) ?_
 rintro _ w⟨g9,hV,rfl,hS⟩
 refine zz ?_
 refine Cf hV ?_ ?_<;>intro b9 hV
 refine zz ?_
 refine Rd call114 (Xt g E C D g a5 hS hV) ?_
 rintro _ w⟨h0,h1,h2,h3,h8,h9,a8,hV,rfl,f7,e9,f0,b3,b4,f1,f3,f4,hS⟩
 replace hS:=hS.f2
 refine sE hS ?_
 intro w hS
 refine zz ?_
 exact vc
 obtain⟨c9,hV⟩:=hV
 refine zz ?_
 refine Rd call115 (PR (IJ (x:=((c.take j.toNat).drop d.toNat)) (i:=(0:Int))) hS hV) ?_
 rintro _ w⟨P,hV,rfl,hS⟩
 iterate 3 refine z ?_
 refine WC.seq ?_
 refine WC.via (m:=[(0,(pq l)),(2,(pq r)),(3,i6 f),(6,i6 j),(7,sv ((c.take j.toNat).drop d.toNat)),(109,.bool (decide ((f<d)\/((!P)=true))))]) ?_ ?_
 refine zz ?_
 rcases DG (decide (f<d)) with S|S
 iterate 3 refine z ?_
 refine WL.up (s:=109) rfl (Bg S:true=decide ((f<d)\/((!P)=true))) ?_
 exact WL.nil At.os
 iterate 3 refine z ?_
 refine WL.up (s:=109) rfl ((AH _).trans (CQ S:decide ((!P)=true)=decide ((f<d)\/((!P)=true)))) ?_
 exact WL.nil At.os
 refine zz ?_
 refine Ce hV ?_ ?_<;>intro b8 hV
 refine zz ?_
 refine Rd call28 (Ey g E C D (show I64 (1:Int) by unfold I64;omega) g hS hV) ?_
 rintro _ w⟨f8,f9,hV,rfl,d2,d3,hS⟩
 refine zz ?_
 refine Rn hS bR ?_
 replace hS:=hS.f2
 refine sE hS ?_
 intro w hS
 refine zz ?_
 exact vc
 refine zz ?_
 refine Ee #[sv c,i6 j,i6 n,i6 B,i6 A,.bool o] sizeOf3 hS ?_
 intro w hS
 refine zz ?_
 refine Ce hV ?_ ?_<;>intro b7 hV
 refine zz ?_
 refine Rn hS bR ?_
 replace hS:=hS.f2
 refine sE hS ?_
 intro w hS
 refine zz ?_
 exact vc
 refine zz ?_
 refine Ce hV ?_ ?_<;>intro b6 hV
 refine zz ?_
 refine Rd call83 (GX hS hV) ?_
 rintro _ w⟨g0,h4,h5,a6,hV,rfl,f5,d4,d5,a9,b0,hS⟩
 replace hS:=hS.f2
 refine sE hS ?_
 intro w hS
 refine zz ?_
 exact vc
 refine zz ?_
 refine Ce hV ?_ ?_<;>intro b5 hV
 refine zz ?_
 refine Rd call83 (GX hS hV) ?_
 rintro _ w⟨g1,h6,h7,a7,hV,rfl,f6,d6,d7,b1,b2,hS⟩
 replace hS:=hS.f2
 refine sE hS ?_
 intro w hS
 refine zz ?_
 exact vc
 refine zz ?_
 refine Rd call116 (Sy hS hV) ?_
 rintro _ w⟨g2,hV,rfl,hS⟩
 obtain⟨U,Y,hV⟩:=hV
 iterate 2 refine z ?_
 refine WC.meet (fun a w=>∃F G,U (F,G)/\I64 F/\I64 G/\St w0 H ([(l,oc #[sv c,i6 j,i6 n,i6 F,i6 G,.bool o] 67)]++([(r,Obj.cells #[i6 0,i6 0,sv ([]:Aa),ns,ns] 32 (0,0))]++L)) w/\Fr 142 [(0,(pq l)),(2,(pq r)),(3,i6 f),(7,sv ((c.take j.toNat).drop d.toNat))] a) ?_ ?_
 rintro a w⟨F,G,hI,d8,d9,hS,ha⟩
 refine Ab ha ?_
 have hV:=Y _ hI
 obtain⟨V,a0,hV⟩:=hV
 refine WC.meet (fun a w=>∃N O,V (N,O)/\I64 N/\I64 O/\St w0 H ([(r,Obj.cells #[i6 0,i6 0,sv ([]:Aa),ns,ns] 32 (0,0))]++([(l,oc #[sv c,i6 j,i6 n,i6 N,i6 O,.bool o] 67)]++L)) w/\Fr 142 [(2,(pq r)),(7,sv ((c.take j.toNat).drop d.toNat))] a) ?_ ?_
 rintro a w⟨N,O,hI,e0,e1,hS,ha⟩
 refine Ab ha ?_
 have hV:=a0 _ hI
 refine zz ?_
 refine Rn hS (Aq (vs:=[i6 (4:Int),sv ((c.take j.toNat).drop d.toNat)]) (zc:=#[i6 0,i6 0,sv ([]:Aa),ns,ns]) (cs:=#[i6 (4:Int),i6 0,sv ((c.take j.toNat).drop d.toNat),ns,ns]) (places:=#[(0,1),(1,1),(2,1),(3,1),(4,1)]) underlying32 zeroValue32 (fun w=>by simp[sizeOf2,sizeOf3,sizeOf30,sizeOf9]) rfl ⟨rfl,rfl,trivial⟩ rfl Zf) ?_
 refine sE hS ?_
 intro w hS
 refine zz ?_
 exact vc
 exact Z
 exact Z
 exact Z
def Yf(G:Aa->Int->Int->Int->Int->Bool->(RV->Int->Int->Int->Int->Bool->Prop)->Prop):Prop:=∀{w0:World}{H:View}{L:Ar}{w:World}{a:Nat}{f:Aa}{g:Int}{c:Int}{d:Int}{b:Int}{h:Bool}{Q:RV->Int->Int->Int->Int->Bool->Prop}(m:I64 g)(n:I64 c)(j:I64 d)(l:I64 b)(hS:St w0 H ([(a,oc #[sv f,i6 g,i6 c,i6 d,i6 b,.bool h] 67)]++L) w)(hV:G f g c d b h Q),Calls Tryz.prog 26 #[(pq a)] w fun e w'=>∃(r1:RV)(r2:Int)(r3:Int)(r4:Int)(r5:Int)(r6:Bool)(u1:Value)(w1:Value)(H':View),Q r1 r2 r3 r4 r5 r6/\e=.returned (.agg #[i6 r1.k,i6 r1.i,sv r1.t,u1,w1])/\View.le H H'/\I64 r1.k/\I64 r1.i/\IsSl H' cR u1 r1.ks/\IsSl H' cR w1 r1.vs/\I64 r2/\I64 r3/\I64 r4/\I64 r5/\St w0 H' ([(a,oc #[sv f,i6 r2,i6 r3,i6 r4,i6 r5,.bool r6] 67)]++L) w'
end Go.Proofs.YtlhkfkecoekoeaaGreatDoor
