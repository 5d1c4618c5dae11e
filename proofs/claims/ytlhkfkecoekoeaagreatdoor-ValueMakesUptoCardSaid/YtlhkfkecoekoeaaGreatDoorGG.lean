/- Part G of the proof: walks. No condition beyond those that each theorem names. -/
import Derived.Test.YtlhkfkecoekoeaaGreatDoorGF
set_option linter.unusedVariables false
set_option linter.unusedSimpArgs false
set_option maxRecDepth 100000
set_option maxHeartbeats 1000000
namespace Go.Proofs.YtlhkfkecoekoeaaGreatDoor
open Go.Vc _root_.Go.Proofs.Tryz _root_.Go.Proofs.YtlhkfkecoekoeaaGreatDoor.Tryz
variable{w0:World}{H:View}{L:Ar}{w:World}
theorem Ua{C:Aa}{a_2:RV}{G:Value}{v_4:Value}{b_9:RV}{E:Value}{F:Value}{Q:RV->Prop}(i4:I64 a_2.k)(b4:I64 a_2.i)(g6:IsSl H cR G a_2.ks)(g7:IsSl H cR v_4 a_2.vs)(h0:I64 b_9.k)(e3:I64 b_9.i)(f0:IsSl H cR E b_9.ks)(f1:IsSl H cR F b_9.vs)(hS:St w0 H L w)(hV:AU C a_2 b_9 Q):
 Cl 42 #[sv C,.agg #[i6 a_2.k,i6 a_2.i,sv a_2.t,G,v_4],.agg #[i6 b_9.k,i6 b_9.i,sv b_9.t,E,F]] w (pR w0 H L Q):=by
 refine Li func42 ntmps42 ?_
 have c1:=@GX;have d1:=call83
 have c2:=@CT;have d2:=call81
 refine zz ?_
 refine WL.box (arr:=#[i6 a_2.k,i6 a_2.i,sv a_2.t,G,v_4]) rfl rfl rfl hS ?_
 intro c6 w hS
 refine WL.box (arr:=#[i6 b_9.k,i6 b_9.i,sv b_9.t,E,F]) rfl rfl rfl hS ?_
 intro c7 w hS
 refine aR hS ?_
 intro c w hS
 obtain⟨d4,e0,hV⟩:=hV
 refine z ?_
 refine WC.meet (fun a w=>∃b5,d4 b5/\St w0 H ([(c6,oc #[i6 a_2.k,i6 a_2.i,sv a_2.t,G,v_4] 32)]++([(c7,oc #[i6 b_9.k,i6 b_9.i,sv b_9.t,E,F] 32)]++([(c,Obj.cells #[i6 0,i6 0,sv ([]:Aa),ns,ns] 32 (0,0))]++L))) w/\Fr 107 [(0,sv C),(4,(pq c6)),(5,(pq c7)),(6,(pq c)),(7,.bool b5)] a) ?_ ?_
 rintro a w⟨b5,hI,hS,ha⟩
 refine Ab ha ?_
 have hV:=e0 _ hI
 refine zz ?_
 replace hS:=hS.drop
 refine zz ?_
 replace hS:=hS.drop
 refine zz ?_
 refine Cd ?_ ?_
 intro b3
 replace hV:=hV.1 (od b3)
 obtain⟨d6,e2,hV⟩:=hV
 refine WC.meet (fun a w=>∃A B a0 a1 a2 j c4 c5,d6 (A,B,a0,a1,a2)/\View.le H j/\I64 A/\I64 B/\IsSl j cR c4 a1/\IsSl j cR c5 a2/\St w0 j ([(c,oc #[i6 A,i6 B,sv a0,c4,c5] 32)]++L) w/\Fr 107 [(6,(pq c))] a) ?_ ?_
 rintro a w⟨A,B,a0,a1,a2,j,c4,c5,hI,j5,i5,i7,g4,g5,hS,ha⟩
 refine Ab ha ?_
 have hV:=e2 _ hI
 refine zz ?_
 exact vc
 exact Z
 intro b3
 replace hV:=hV.2 (ov b3)
 refine zz ?_
 refine Cd ?_ ?_
 intro b2
 replace hV:=hV.1 (od b2)
 obtain⟨c9,d7,hV⟩:=hV
 refine WC.meet (fun a w=>∃l m N O P d b6 b7,c9 (l,m,N,O,P)/\View.le H d/\I64 l/\I64 m/\IsSl d cR b6 O/\IsSl d cR b7 P/\St w0 d ([(c,oc #[i6 l,i6 m,sv N,b6,b7] 32)]++L) w/\Fr 107 [(6,(pq c))] a) ?_ ?_
 rintro a w⟨l,m,N,O,P,d,b6,b7,hI,i8,g8,g9,e8,e9,hS,ha⟩
 refine Ab ha ?_
 have hV:=d7 _ hI
 refine zz ?_
 exact vc
 exact Z
 intro b2
 replace hV:=hV.2 (ov b2)
 refine zz ?_
 refine Cd ?_ ?_
 intro b1
 replace hV:=hV.1 (od b1)
 obtain⟨d0,d8,hV⟩:=hV
 refine WC.meet (fun a w=>∃n o S T U f b8 b9,d0 (n,o,S,T,U)/\View.le H f/\I64 n/\I64 o/\IsSl f cR b8 T/\IsSl f cR b9 U/\St w0 f ([(c,oc #[i6 n,i6 o,sv S,b8,b9] 32)]++L) w/\Fr 107 [(6,(pq c))] a) ?_ ?_
 rintro a w⟨n,o,S,T,U,f,b8,b9,hI,i9,h1,h2,f2,f3,hS,ha⟩
 refine Ab ha ?_
 have hV:=d8 _ hI
 refine zz ?_
 exact vc
 exact Z
 intro b1
 replace hV:=hV.2 (ov b1)
 refine zz ?_
 refine Cd ?_ ?_
 intro b0
 replace hV:=hV.1 (od b0)
 obtain⟨d3,d9,hV⟩:=hV
 refine WC.meet (fun a w=>∃r x V W Y g c0 c3,d3 (r,x,V,W,Y)/\View.le H g/\I64 r/\I64 x/\IsSl g cR c0 W/\IsSl g cR c3 Y/\St w0 g ([(c,oc #[i6 r,i6 x,sv V,c0,c3] 32)]++L) w/\Fr 107 [(6,(pq c))] a) ?_ ?_
 rintro a w⟨r,x,V,W,Y,g,c0,c3,hI,j0,h3,h4,f4,f5,hS,ha⟩
 refine Ab ha ?_
 have hV:=d9 _ hI
 refine zz ?_
 exact vc
 exact Z
 intro b0
 replace hV:=hV.2 (ov b0)
 refine zz ?_
 refine Cd ?_ ?_
 intro a9
 replace hV:=hV.1 a9
 refine zz ?_
 refine Rn hS bR ?_
 refine sE hS ?_
 intro w hS
 refine zz ?_
 exact vc
 intro a9
 replace hV:=hV.2 a9
 refine zz ?_
 refine Cd ?_ ?_
 intro a8
 replace hV:=hV.1 (od a8)
 refine zz ?_
 refine Rn hS (CI rfl rfl) ?_
 refine Rd call81 (CT (Ck _) hS hV) ?_
 rintro _ w⟨j6,k0,k1,e4,hV,rfl,j1,h5,h6,f6,f7,hS⟩
 refine sE hS ?_
 intro w hS
 refine zz ?_
 exact vc
 intro a8
 replace hV:=hV.2 (ov a8)
 refine zz ?_
 refine Cd ?_ ?_
 intro a7
 replace hV:=hV.1 (od a7)
 refine zz ?_
 refine Rn hS (EH rfl rfl) ?_
 refine Rd call81 (CT (Ck _) hS hV) ?_
 rintro _ w⟨j7,k2,k3,e5,hV,rfl,j2,h7,h8,f8,f9,hS⟩
 refine sE hS ?_
 intro w hS
 refine zz ?_
 exact vc
 intro a7
 replace hV:=hV.2 (ov a7)
 refine zz ?_
 refine Cd ?_ ?_
 intro a6
 replace hV:=hV.1 (od a6)
 refine zz ?_
 refine Rn hS (Il rfl rfl) ?_
 refine Rd call81 (CT (Ck _) hS hV) ?_
 rintro _ w⟨j8,k4,k5,e6,hV,rfl,j3,h9,i0,g0,g1,hS⟩
 refine sE hS ?_
 intro w hS
 refine zz ?_
 exact vc
 intro a6
 replace hV:=hV.2 (ov a6)
 refine zz ?_
 refine Cd ?_ ?_
 intro a5
 replace hV:=hV.1 (od a5)
 refine zz ?_
 refine Rd call86 (AaR b4 e3 hS hV) ?_
 rintro _ w⟨j9,k6,k7,e7,hV,rfl,j4,i1,i2,g2,g3,hS⟩
 refine sE hS ?_
 intro w hS
 refine zz ?_
 exact vc
 intro a5
 replace hV:=hV.2 (ov a5)
 refine zz ?_
 refine Cd ?_ ?_
 intro a4
 replace hV:=hV.1 (od a4)
 refine zz ?_
 refine Rn hS bR ?_
 refine sE hS ?_
 intro w hS
 refine zz ?_
 exact vc
 intro a4
 replace hV:=hV.2 (ov a4)
 refine zz ?_
 refine Rn hS (Kj rfl b4) ?_
 obtain⟨d5,e1,hV⟩:=hV
 iterate 2 refine z ?_
 refine WC.meet (fun a w=>∃D,d5 D/\I64 D/\St w0 H ([(c,Obj.cells #[i6 0,i6 0,sv ([]:Aa),ns,ns] 32 (0,0))]++L) w/\Fr 107 [(0,sv C),(6,(pq c)),(8,i6 a_2.i),(9,i6 b_9.i),(10,i6 D)] a) ?_ ?_
 rintro a w⟨D,hI,i3,hS,ha⟩
 refine Ab ha ?_
 have hV:=e1 _ hI
 exact Z
 refine zz ?_
 refine Cd ?_ ?_
 intro a3
 replace hV:=hV.1 (od a3)
 obtain⟨c8,hV⟩:=hV
 refine zz ?_
 refine Rn hS (Ru rfl rfl c8) ?_
 refine zz ?_
 exact Wt fun a ha=>⟨(a_2.i.tdiv b_9.i),hV,c8.2,hS,ha.os⟩
 intro a3
 replace hV:=hV.2 (ov a3)
 refine zz ?_
 exact Wt fun a ha=>⟨(Hx a_2.i),hV,(GA _ b4),hS,ha.os⟩
 exact Z
theorem Xq{B:Value}{c0:List RV}{O:Value}{d:List RV}{Q:RV->Prop}(U:IsSl H cR B c0)(E:IsSl H cR O d)(hS:St w0 H L w)(hV:Ly c0 d Q):
 Cl 88 #[B,O] w (pR w0 H L Q):=by
 refine Co func88 ntmps88 ?_
 refine zz ?_
 refine aR hS ?_
 intro e w hS
 refine zz ?_
 refine WL.build0 (α:=RV) (c:=cR) rfl underlying30 sizeOf32 hS ?_
 intro g0 w g8 d0 hS
 obtain⟨c1,l,d1,hS⟩:∃K,View.le H K/\IsSl K cR g0 ([]:List RV)/\St w0 K ([(e,Obj.cells #[i6 0,i6 0,sv ([]:Aa),ns,ns] 32 (0,0))]++L) w:=⟨_,hS.put_le,d0.share hS.put_le,hS.freeze⟩
 refine WL.build1 (c:=(JR cR)) rfl underlying124 info30 rfl rfl (HE d1) hS ?_
 intro l6 w g9 h9 hS
 refine zz ?_
 replace hS:=hS.f2
 obtain⟨c2,f6,h8,hV⟩:=hV
 refine WC.loop (σ:=(List (List RV))×Int) (fun s a w=>∃h p n A o,s=(h,p)/\c2 (h,p)/\View.le c1 n/\OwnSl n (JR cR) 30 A h o/\I64 p/\St w0 n ([(e,Obj.cells #[i6 0,i6 0,sv ([]:Aa),ns,ns] 32 (0,0))]++(o++L)) w/\Fr 93 [(0,B),(1,O),(4,(pq e)),(5,A),(6,i6 p)] a) f6 ([([]:List RV)],(0:Int)) ?_ ?_
 exact y
 rintro _ a w⟨h,p,n,A,o,rfl,hI,j,f,j7,hS,ha⟩
 refine Ab ha ?_
 replace hV:=hV _ hI
 have e1:=((U.mono l).mono j).bound
 replace hV:=hV e1
 refine zz ?_
 refine Rn hS (Ao underlying30 rfl ((U.mono l).mono j)) ?_
 refine zz ?_
 refine Ce hV ?_ ?_<;>intro j1 hV
 have e2:=f.bound
 replace hV:=hV e2
 refine zz ?_
 refine Rn hS (AP underlying124 rfl f) ?_
 have e3:=((E.mono l).mono j).bound
 replace hV:=hV e3
 refine R hS ?_
 refine Rn hS (Ao underlying30 rfl ((E.mono l).mono j)) ?_
 obtain⟨j2,hV⟩:=hV
 refine zz ?_
 refine Ce hV ?_ ?_<;>intro i8 hV
 refine zz ?_
 refine Rn hS bR ?_
 refine sE hS ?_
 intro w hS
 refine zz ?_
 replace hS:=hS.f2.drop
 refine zz ?_
 exact vc
 refine zz ?_
 replace hS:=hS.nilseg
 replace hS:=hS.f3.f3
 obtain⟨c3,f7,h7,hV⟩:=hV
 refine WC.loop (σ:=(List (List RV))×Int) (fun s a w=>∃J g C Z T,s=(J,g)/\c3 (J,g)/\View.le n C/\OwnSl C (JR cR) 30 Z J T/\I64 g/\St w0 C ([(e,Obj.cells #[i6 0,i6 0,sv ([]:Aa),ns,ns] 32 (0,0))]++(o++(T++L))) w/\Fr 93 [(0,B),(1,O),(4,(pq e)),(5,A),(6,i6 p),(7,Z),(8,i6 g)] a) f7 (([]:List (List RV)),(0:Int)) ?_ ?_
 exact y
 rintro _ a w⟨J,g,C,Z,T,rfl,hI,q,i1,j8,hS,ha⟩
 refine Ab ha ?_
 replace hV:=hV _ hI
 have e4:=(f.mono q).bound
 replace hV:=hV e4
 refine zz ?_
 refine Rn hS (AP underlying124 rfl (f.mono q)) ?_
 refine zz ?_
 refine Ce hV ?_ ?_<;>intro i7 hV
 refine zz ?_
 replace hS:=hS.f3.f3.f3
 obtain⟨c4,f8,h6,hV⟩:=hV
 refine WC.loop (σ:=(List (List RV))×Int) (fun s a w=>∃N b u a0 D,s=(N,b)/\c4 (N,b)/\View.le C u/\OwnSl u (JR cR) 30 a0 N D/\I64 b/\St w0 u ([(e,Obj.cells #[i6 0,i6 0,sv ([]:Aa),ns,ns] 32 (0,0))]++(o++(D++L))) w/\Fr 93 [(0,B),(1,O),(4,(pq e)),(5,A),(6,i6 p),(7,a0),(8,i6 g),(9,i6 b)] a) f8 (J,(0:Int)) ?_ ?_
 exact y
 rintro _ a w⟨N,b,u,a0,D,rfl,hI,G,d2,j9,hS,ha⟩
 refine Ab ha ?_
 replace hV:=hV _ hI
 have e5:=((((E.mono l).mono j).mono q).mono G).bound
 replace hV:=hV e5
 refine zz ?_
 refine Rn hS (Ao underlying30 rfl ((((E.mono l).mono j).mono q).mono G)) ?_
 refine zz ?_
 refine Ce hV ?_ ?_<;>intro i5 hV
 obtain⟨a7,hV⟩:=hV
 refine zz ?_
 refine Rx hS (Ai underlying124 sizeOf30 rfl rfl ((f.mono q).mono G) a7) ?_
 intro k6 e7
 replace hS:=hS.f2
 refine Rx hS (BG (H:=u) (L:=[(e,Obj.cells #[i6 0,i6 0,sv ([]:Aa),ns,ns] 32 (0,0))]++(D++L)) (AD isAgg30 rfl rfl ((f.mono q).mono G) e7 a7)) ?_
 intro l3 W
 replace W:=Bq W
 obtain⟨a9,hV⟩:=hV
 replace hS:=hS.nilseg
 refine WL.append (c:=cR) (xs:=([]:List RV)) (ys:=(ix h g)) rfl underlying30 info32 rfl rfl rfl hS OwnSl.nil (W.src hS) a9.1 a9.2 ?_
 intro l7 w h0 a3 hS
 rw[List.nil_append] at a3
 obtain⟨e0,hV⟩:=hV
 refine zz ?_
 refine Rx hS (Au underlying30 sizeOf32 rfl rfl ((((E.mono l).mono j).mono q).mono G) e0) ?_
 intro k7 e8
 refine Rx hS (AE isAgg32 sizeOf32 rfl e8) ?_
 rintro l4⟨_,rfl,hu⟩
 obtain⟨a1,a2,rfl,b0,b1,d3,d4⟩:=cR_rep.1 hu
 replace hV:=hV b0 b1
 refine WL.builds (c:=cR) (xs:=[(ix d b)]) (vs:=[.agg #[i6 ((ix d b).k),i6 ((ix d b).i),sv ((ix d b).t),a1,a2]]) (css:=[[i6 ((ix d b).k),i6 ((ix d b).i),sv ((ix d b).t),a1,a2]]) rfl underlying30 info32 rfl ⟨rfl,trivial⟩ rfl (by decide) rfl (by simp;rfl) ⟨[i6 ((ix d b).k),i6 ((ix d b).i),sv ((ix d b).t),a1,a2],_,rfl,(cR_rep.2 ⟨_,_,rfl,b0,b1,d3,d4⟩),rfl⟩ hS rfl (by decide) ?_
 intro l8 w h1 d5 hS
 obtain⟨b2,hV⟩:=hV
 replace hS:=hS.f2
 refine WL.append (c:=cR) (xs:=(ix h g)) (ys:=([(ix d b)])) rfl underlying30 info32 rfl rfl rfl hS a3 (d5.src hS.f2) b2.1 b2.2 ?_
 intro g1 w h2 d6 hS
 refine zz ?_
 replace hS:=hS.f2.drop
 refine zz ?_
 obtain⟨g2,f1,d8,hS⟩:∃K,View.le u K/\IsSl K cR g1 ((ix h g)++([(ix d b)]))/\St w0 K (o++([(e,Obj.cells #[i6 0,i6 0,sv ([]:Aa),ns,ns] 32 (0,0))]++(D++L))) w:=⟨_,hS.put_le,d6.share hS.put_le,hS.freeze⟩
 refine WL.build1 (c:=(JR cR)) rfl underlying124 info30 rfl rfl (HE d8) hS ?_
 intro l9 w h3 d7 hS
 obtain⟨b3,hV⟩:=hV
 replace hS:=hS.f4
 refine WL.append (c:=(JR cR)) (xs:=N) (ys:=([((ix h g)++([(ix d b)]))])) rfl underlying124 info30 rfl rfl rfl hS (d2.mono f1) (d7.src hS.f2) b3.1 b3.2 ?_
 intro m0 w h4 i2 hS
 refine zz ?_
 replace hS:=hS.f2.drop
 obtain⟨j3,hV⟩:=hV
 refine zz ?_
 replace hS:=hS.f2.f3
 exact y
 obtain⟨j4,hV⟩:=hV
 refine zz ?_
 replace hS:=hS.f3.f3.f3
 exact y
 refine zz ?_
 replace hS:=hS.f2.drop
 obtain⟨j5,hV⟩:=hV
 refine zz ?_
 replace hS:=hS.f2.f2
 exact y
 refine zz ?_
 refine Rn hS (Aq (vs:=[i6 (5:Int)]) (zc:=#[i6 0,i6 0,sv ([]:Aa),ns,ns]) (cs:=#[i6 (5:Int),i6 0,sv ([]:Aa),ns,ns]) (places:=#[(0,1),(1,1),(2,1),(3,1),(4,1)]) underlying32 zeroValue32 (fun w=>by simp[sizeOf2,sizeOf3,sizeOf30,sizeOf9]) rfl ⟨rfl,trivial⟩ rfl Zf) ?_
 refine aR hS ?_
 intro P w hS
 refine sE hS ?_
 intro w hS
 refine zz ?_
 replace hS:=hS.nilseg
 replace hS:=hS.f2.f4.f4
 obtain⟨c5,f9,c7,hV⟩:=hV
 refine WC.loop (σ:=(List RV)×Int) (fun s a w=>∃x F v r S,s=(x,F)/\c5 (x,F)/\View.le n v/\OwnSl v cR 32 r x S/\I64 F/\St w0 v ([(e,Obj.cells #[i6 0,i6 0,sv ([]:Aa),ns,ns] 32 (0,0))]++(o++([(P,Obj.cells #[i6 (5:Int),i6 0,sv ([]:Aa),r,ns] 32 (0,0))]++(S++L)))) w/\Fr 93 [(0,B),(4,(pq e)),(5,A),(11,(pq P)),(12,i6 F)] a) f9 (([]:List RV),(0:Int)) ?_ ?_
 exact fun a ha=>⟨([]:List RV),(0:Int),n,ns,([]:Ar),rfl,c7,(View.le.refl _),OwnSl.nil,i0,hS,ha.os⟩
 rintro _ a w⟨x,F,v,r,S,rfl,hI,I,V,k0,hS,ha⟩
 refine Ab ha ?_
 replace hV:=hV _ hI
 have e6:=(f.mono I).bound
 replace hV:=hV e6
 refine zz ?_
 refine Rn hS (AP underlying124 rfl (f.mono I)) ?_
 refine zz ?_
 refine Ce hV ?_ ?_<;>intro j0 hV
 obtain⟨a8,hV⟩:=hV
 refine zz ?_
 refine Rx hS (Ai underlying124 sizeOf30 rfl rfl (f.mono I) a8) ?_
 intro k8 e9
 replace hS:=hS.f2
 refine Rx hS (BG (H:=v) (L:=[(e,Obj.cells #[i6 0,i6 0,sv ([]:Aa),ns,ns] 32 (0,0))]++([(P,Obj.cells #[i6 (5:Int),i6 0,sv ([]:Aa),r,ns] 32 (0,0))]++(S++L))) (AD isAgg30 rfl rfl (f.mono I) e9 a8)) ?_
 intro l5 Y
 replace Y:=Bq Y
 refine Rd call71 (Kl (((U.mono l).mono j).mono I) Y hS hV) ?_
 rintro _ w⟨m,b7,b8,g3,hV,rfl,b6,b4,b5,a4,a5,hS⟩
 refine aR hS ?_
 intro g7 w hS
 refine sE hS ?_
 intro w hS
 refine zz ?_
 refine Ce hV ?_ ?_<;>intro i9 hV
 refine zz ?_
 refine Rn hS bR ?_
 replace hS:=hS.f3
 refine sE hS ?_
 intro w hS
 refine zz ?_
 replace hS:=hS.f3.drop
 replace hS:=hS.f3.drop
 replace hS:=hS.f3.drop
 replace hS:=hS.f2.drop
 refine zz ?_
 exact vc
 refine zz ?_
 replace hS:=hS.f4
 refine R hS ?_
 replace hS:=hS.f2
 refine Rn hS (Ac (cs:=[i6 m.k,i6 m.i,sv m.t,b7,b8]) isAgg32 sizeOf32 rfl rfl rfl) ?_
 replace hS:=hS.f5
 have c8:=hS.freeze
 refine Rd call78 (Hb (v_4:=m) ((V.mono b6).share hS.put_le) b4 b5 (by exact(a4.mono hS.put_le)) (by exact(a5.mono hS.put_le)) c8 hV) ?_
 rintro _ w⟨k9,l0,hV,rfl,f0,c9⟩
 have c6:=hS.back c9
 replace hS:=c6
 refine zz ?_
 replace hS:=hS.f3
 refine zz ?_
 replace hS:=hS.f3
 refine Rn hS (Ac (cs:=[i6 m.k,i6 m.i,sv m.t,b7,b8]) isAgg32 sizeOf32 rfl rfl rfl) ?_
 replace hS:=hS.f3
 refine Rd call79 (QC (v_8:=m) (V.mono b6) f0 b4 b5 a4 a5 hS hV) ?_
 rintro _ w⟨l1,b9,h5,g4,hV,rfl,k3,a6,hS⟩
 refine R hS ?_
 replace hS:=hS.f3
 refine Ee #[i6 (5:Int),i6 0,sv ([]:Aa),b9,ns] sizeOf30 hS ?_ (cs:=[b9]) (hc:=(congrArg Array.toList (AN (OwnSl.one a6)))) (hone:=⟨(OwnSl.one a6),trivial⟩)
 intro w hS
 refine zz ?_
 replace hS:=hS.f3.drop
 obtain⟨j6,hV⟩:=hV
 refine zz ?_
 replace hS:=hS.f2.f2.f3.f4
 exact y
 refine zz ?_
 replace hS:=hS.f2.drop
 refine zz ?_
 replace hS:=hS.f2
 refine Rn hS (Ac (cs:=[i6 (5:Int),i6 0,sv ([]:Aa),r,ns]) isAgg32 sizeOf32 rfl rfl rfl) ?_
 replace hS:=hS.f3
 obtain⟨g5,k4,d9,hS⟩:∃K,View.le v K/\IsSl K cR r x/\St w0 K ([(P,Obj.cells #[i6 (5:Int),i6 0,sv ([]:Aa),r,ns] 32 (0,0))]++([(e,Obj.cells #[i6 0,i6 0,sv ([]:Aa),ns,ns] 32 (0,0))]++L)) w:=⟨_,hS.put_le,V.share hS.put_le,hS.freeze⟩
 refine Rd call80 (IE (v_1:=(RV.mk (5:Int) 0 ([]:Aa) x ([]:List RV))) (by exact(show I64 (5:Int) by unfold I64;omega)) (by exact i0) d9 (by exact IsSl.nil) hS hV) ?_
 rintro _ w⟨l2,m1,m2,g6,hV,rfl,k5,k1,k2,i3,i4,hS⟩
 replace hS:=hS.f2
 refine sE hS ?_
 intro w hS
 refine zz ?_
 replace hS:=hS.f2.drop
 refine zz ?_
 exact vc
theorem Abj{r:Aa}{a_2:RV}{l:Value}{v_4:Value}{b_9:RV}{m:Value}{n:Value}{Q:RV->Prop}(f7:I64 a_2.k)(f8:I64 a_2.i)(D:IsSl H cR l a_2.ks)(e8:IsSl H cR v_4 a_2.vs)(j4:I64 b_9.k)(j5:I64 b_9.i)(a3:IsSl H cR m b_9.ks)(g6:IsSl H cR n b_9.vs)(hS:St w0 H L w)(hV:Eu r a_2 b_9 Q):
 Cl 43 #[sv r,.agg #[i6 a_2.k,i6 a_2.i,sv a_2.t,l,v_4],.agg #[i6 b_9.k,i6 b_9.i,sv b_9.t,m,n]] w (pR w0 H L Q):=by
 refine Li func43 ntmps43 ?_
 have c1:=@GX;have d1:=call83
 refine z ?_
 refine WL.box (arr:=#[i6 a_2.k,i6 a_2.i,sv a_2.t,l,v_4]) rfl rfl rfl hS ?_
 intro g w hS
 refine WL.box (arr:=#[i6 b_9.k,i6 b_9.i,sv b_9.t,m,n]) rfl rfl rfl hS ?_
 intro j w hS
 refine aR hS ?_
 intro f w hS
 iterate 6 refine z ?_
 refine Ce hV ?_ ?_<;>intro i2 hV
 iterate 2 refine z ?_
 replace hS:=hS.f2
 refine z ?_
 replace hS:=hS.f3
 refine Rn hS (Ac (cs:=[i6 a_2.k,i6 a_2.i,sv a_2.t,l,v_4]) isAgg32 sizeOf32 rfl rfl rfl) ?_
 refine Rd call87 (YG (v_4:=a_2) a3 f7 f8 D e8 hS hV) ?_
 rintro _ w⟨l9,hV,rfl,hS⟩
 iterate 2 refine z ?_
 replace hS:=hS.drop
 obtain⟨c8,d8,hV⟩:=hV
 refine WC.meet (fun a w=>∃G N T U V B a8 b1,c8 (G,N,T,U,V)/\View.le H B/\I64 G/\I64 N/\IsSl B cR a8 U/\IsSl B cR b1 V/\St w0 B ([(f,oc #[i6 G,i6 N,sv T,a8,b1] 32)]++L) w/\Fr 105 [(6,(pq f))] a) ?_ ?_
 rintro a w⟨G,N,T,U,V,B,a8,b1,hI,k5,j7,j8,g8,h0,hS,ha⟩
 refine Ab ha ?_
 have hV:=d8 _ hI
 iterate 2 refine z ?_
 exact vc
 exact Z
 obtain⟨d2,e0,hV⟩:=hV
 iterate 2 refine z ?_
 refine WC.meet (fun a w=>∃o,d2 o/\St w0 H ([(g,oc #[i6 a_2.k,i6 a_2.i,sv a_2.t,l,v_4] 32)]++([(j,oc #[i6 b_9.k,i6 b_9.i,sv b_9.t,m,n] 32)]++([(f,Obj.cells #[i6 0,i6 0,sv ([]:Aa),ns,ns] 32 (0,0))]++L))) w/\Fr 105 [(0,sv r),(4,(pq g)),(5,(pq j)),(6,(pq f)),(8,.bool o)] a) ?_ ?_
 rintro a w⟨o,hI,hS,ha⟩
 refine Ab ha ?_
 have hV:=e0 _ hI
 iterate 11 refine z ?_
 replace hS:=hS.nilseg
 replace hS:=hS.f4.f4.f4
 obtain⟨c3,f9,g5,hV⟩:=hV
 refine WC.loop (σ:=(List RV)×Bool×Int) (fun s a w=>∃E F d A x,s=(E,F,d)/\c3 (E,F,d)/\OwnSl H cR 32 A E x/\I64 d/\St w0 H ([(g,oc #[i6 a_2.k,i6 a_2.i,sv a_2.t,l,v_4] 32)]++([(j,oc #[i6 b_9.k,i6 b_9.i,sv b_9.t,m,n] 32)]++([(f,Obj.cells #[i6 0,i6 0,sv ([]:Aa),ns,ns] 32 (0,0))]++(x++L)))) w/\Fr 105 [(0,sv r),(4,(pq g)),(5,(pq j)),(6,(pq f)),(8,.bool o),(9,A),(10,.bool F),(11,i6 d)] a) f9 (([]:List RV),false,(0:Int)) ?_ ?_
 exact y
 rintro _ a w⟨E,F,d,A,x,rfl,hI,e1,j6,hS,ha⟩
 refine Ab ha ?_
 replace hV:=hV _ hI
 obtain⟨c4,d3,hV⟩:=hV
 refine z ?_
 refine WC.meet (fun a w=>∃b5,c4 b5/\St w0 H ([(g,oc #[i6 a_2.k,i6 a_2.i,sv a_2.t,l,v_4] 32)]++([(j,oc #[i6 b_9.k,i6 b_9.i,sv b_9.t,m,n] 32)]++([(f,Obj.cells #[i6 0,i6 0,sv ([]:Aa),ns,ns] 32 (0,0))]++(x++L)))) w/\Fr 105 [(0,sv r),(4,(pq g)),(5,(pq j)),(6,(pq f)),(8,.bool o),(9,A),(10,.bool F),(11,i6 d),(41,.bool b5)] a) ?_ ?_
 rintro a w⟨b5,hI,hS,ha⟩
 refine Ab ha ?_
 have hV:=d3 _ hI
 refine Cf hV ?_ ?_<;>intro i1 hV
 obtain⟨c5,d4,hV⟩:=hV
 iterate 2 refine z ?_
 refine WC.meet (fun a w=>∃a4 a6 a7 a1,c5 (a4,a6)/\OwnSl H cR 32 a7 a4 a1/\St w0 H ([(g,oc #[i6 a_2.k,i6 a_2.i,sv a_2.t,l,v_4] 32)]++([(j,oc #[i6 b_9.k,i6 b_9.i,sv b_9.t,m,n] 32)]++([(f,Obj.cells #[i6 0,i6 0,sv ([]:Aa),ns,ns] 32 (0,0))]++(a1++L)))) w/\Fr 105 [(0,sv r),(4,(pq g)),(5,(pq j)),(6,(pq f)),(8,.bool o),(9,a7),(10,.bool a6),(11,i6 d)] a) ?_ ?_
 rintro a w⟨a4,a6,a7,a1,hI,g7,hS,ha⟩
 refine Ab ha ?_
 have hV:=d4 _ hI
 obtain⟨i3,hV⟩:=hV
 iterate 5 refine z ?_
 replace hS:=hS.f4.f4.f4.f4
 exact y
 iterate 2 refine z ?_
 refine WC.drawn (σ:=[0,1,2,3,4,5,6,7,8]) [[],[0],[],[2],[],[2,3,4],[2,3,4,5],[0,1,2,3,4,5,6],[0,1,2,3,4,5,6,7]] [7] mixed (by kernel_rfl) (hS.drawn _) ?_
 refine Wd.run rfl rfl rfl rfl (fun _=>Af (o':=3) underlying32 rfl sizeOf30 rfl rfl) fun l1 i5=>?_
 refine Wd.runb (off:=3) rfl rfl rfl rfl (fun _ _ _ h=>Aj isAgg30 rfl h) rfl (fun _ h=>St.f2 h) fun l2 i7=>?_
 refine Wd.run rfl rfl rfl rfl (fun _=>Af (o':=3) underlying32 rfl sizeOf30 rfl rfl) fun l3 i8=>?_
 refine Wd.runb (off:=3) rfl rfl rfl rfl (fun _ _ _ h=>Aj isAgg30 rfl h) rfl (fun _ h=>h) fun l4 i9=>?_
 refine Dm fun l5 j0=>?_
 obtain⟨e9,hV⟩:=hV
 refine Wd.runx rfl rfl rfl rfl (AA (Au underlying30 sizeOf32 rfl rfl D e9)) ?_
 intro k9 f1
 intro l6 j1
 refine Wd.runs (fp:=([]:Ar)) (L:=[(g,oc #[i6 a_2.k,i6 a_2.i,sv a_2.t,l,v_4] 32)]++([(j,oc #[i6 b_9.k,i6 b_9.i,sv b_9.t,m,n] 32)]++([(f,Obj.cells #[i6 0,i6 0,sv ([]:Aa),ns,ns] 32 (0,0))]++(x++L)))) rfl rfl rfl rfl (AT isAgg32 sizeOf32 rfl f1) (fun _ h=>h) ?_
 rintro m2⟨_,rfl,hu⟩
 obtain⟨m4,m5,rfl,b7,b8,e2,e3⟩:=cR_rep.1 hu
 replace hV:=hV b7 b8
 intro l7 j2
 refine Wd.turn rfl rfl rfl fun w hS=>?_
 refine Rd call87 (YG (v_4:=(ix a_2.ks d)) a3 b7 b8 e2 e3 hS hV) ?_
 rintro _ w⟨g0,hV,rfl,hS⟩
 refine WL.nil (DQ.mk2 hS ⟨il,il,il,il,il,il,il,trivial⟩ ?_)
 refine Wd.run rfl rfl rfl rfl (fun _=>Ba rfl) fun l8 j3=>?_
 refine Wd.nil fun w hS=>?_
 obtain⟨c6,d5,hV⟩:=hV
 refine z ?_
 refine WC.meet (fun a w=>∃S,c6 S/\St w0 H ([(g,oc #[i6 a_2.k,i6 a_2.i,sv a_2.t,l,v_4] 32)]++([(j,oc #[i6 b_9.k,i6 b_9.i,sv b_9.t,m,n] 32)]++([(f,Obj.cells #[i6 0,i6 0,sv ([]:Aa),ns,ns] 32 (0,0))]++(x++L)))) w/\Fr 105 [(0,sv r),(4,(pq g)),(5,(pq j)),(6,(pq f)),(8,.bool o),(9,A),(10,.bool S),(11,i6 d),(12,.bool g0)] a) ?_ ?_
 rintro a w⟨S,hI,hS,ha⟩
 refine Ab ha ?_
 have hV:=d5 _ hI
 obtain⟨c7,d6,hV⟩:=hV
 refine WC.meet (fun a w=>∃b6,c7 b6/\St w0 H ([(g,oc #[i6 a_2.k,i6 a_2.i,sv a_2.t,l,v_4] 32)]++([(j,oc #[i6 b_9.k,i6 b_9.i,sv b_9.t,m,n] 32)]++([(f,Obj.cells #[i6 0,i6 0,sv ([]:Aa),ns,ns] 32 (0,0))]++(x++L)))) w/\Fr 105 [(0,sv r),(4,(pq g)),(5,(pq j)),(6,(pq f)),(8,.bool o),(9,A),(10,.bool S),(11,i6 d),(70,.bool b6)] a) ?_ ?_
 rintro a w⟨b6,hI,hS,ha⟩
 refine Ab ha ?_
 have hV:=d6 _ hI
 refine Cf hV ?_ ?_<;>intro h7 hV
 obtain⟨f0,hV⟩:=hV
 iterate 5 refine z ?_
 refine Rx hS (Au underlying30 sizeOf32 rfl rfl D f0) ?_
 intro l0 f6
 refine Rx hS (AE isAgg32 sizeOf32 rfl f6) ?_
 rintro m3⟨_,rfl,hu⟩
 obtain⟨a9,b0,rfl,b9,c0,e4,e5⟩:=cR_rep.1 hu
 replace hV:=hV b9 c0
 refine WL.builds (c:=cR) (xs:=[(ix a_2.ks d)]) (vs:=[.agg #[i6 ((ix a_2.ks d).k),i6 ((ix a_2.ks d).i),sv ((ix a_2.ks d).t),a9,b0]]) (css:=[[i6 ((ix a_2.ks d).k),i6 ((ix a_2.ks d).i),sv ((ix a_2.ks d).t),a9,b0]]) rfl underlying30 info32 rfl ⟨rfl,trivial⟩ rfl (by decide) rfl (by simp;rfl) ⟨[i6 ((ix a_2.ks d).k),i6 ((ix a_2.ks d).i),sv ((ix a_2.ks d).t),a9,b0],_,rfl,(cR_rep.2 ⟨_,_,rfl,b9,c0,e4,e5⟩),rfl⟩ hS rfl (by decide) ?_
 intro m6 w g3 e6 hS
 obtain⟨c2,hV⟩:=hV
 replace hS:=hS.f5
 refine WL.append (c:=cR) (xs:=E) (ys:=([(ix a_2.ks d)])) rfl underlying30 info32 rfl rfl rfl hS e1 (e6.src hS.f2) c2.1 c2.2 ?_
 intro m7 w g4 g9 hS
 iterate 3 refine z ?_
 replace hS:=hS.f2.drop
 replace hS:=hS.f4.f4.f4
 exact y
 iterate 2 refine z ?_
 replace hS:=hS.f4.f4.f4.f4
 exact y
 exact Z
 exact Z
 iterate 10 refine z ?_
 refine Ce hV ?_ ?_<;>intro i0 hV
 obtain⟨c9,d7,hV⟩:=hV
 refine WC.meet (fun a w=>∃O P W Y a0 C b2 b3,c9 (O,P,W,Y,a0)/\View.le H C/\I64 O/\I64 P/\IsSl C cR b2 Y/\IsSl C cR b3 a0/\St w0 C ([(f,oc #[i6 O,i6 P,sv W,b2,b3] 32)]++L) w/\Fr 105 [(6,(pq f))] a) ?_ ?_
 rintro a w⟨O,P,W,Y,a0,C,b2,b3,hI,k6,j9,k0,h1,h2,hS,ha⟩
 refine Ab ha ?_
 have hV:=d7 _ hI
 iterate 2 refine z ?_
 exact vc
 exact Z
 iterate 7 refine z ?_
 refine Cf hV ?_ ?_<;>intro h9 hV
 refine z ?_
 refine Rn hS bR ?_
 replace hS:=hS.f3
 refine sE hS ?_
 intro w hS
 refine z ?_
 replace hS:=hS.f2.drop
 replace hS:=hS.f2.drop
 replace hS:=hS.f2.drop
 iterate 2 refine z ?_
 exact vc
 iterate 7 refine z ?_
 refine Ce hV ?_ ?_<;>intro h8 hV
 iterate 4 refine z ?_
 replace hS:=hS.f2
 refine z ?_
 refine Rd call88 (Xq D a3 hS hV) ?_
 rintro _ w⟨m0,m8,m9,g1,hV,rfl,k7,k1,k2,h3,h4,hS⟩
 replace hS:=hS.f3
 refine sE hS ?_
 intro w hS
 refine z ?_
 replace hS:=hS.f3.drop
 replace hS:=hS.f2.drop
 replace hS:=hS.f2.drop
 iterate 2 refine z ?_
 exact vc
 iterate 2 refine z ?_
 replace hS:=hS.drop
 obtain⟨d0,d9,hV⟩:=hV
 refine WC.meet (fun a w=>∃a5 b4 a2,d0 a5/\OwnSl H cR 32 b4 a5 a2/\St w0 H ([(f,Obj.cells #[i6 0,i6 0,sv ([]:Aa),ns,ns] 32 (0,0))]++(a2++L)) w/\Fr 105 [(6,(pq f)),(9,b4)] a) ?_ ?_
 rintro a w⟨a5,b4,a2,hI,e7,hS,ha⟩
 refine Ab ha ?_
 have hV:=d9 _ hI
 iterate 2 refine z ?_
 replace hS:=hS.f2
 refine Rd call36 (EO (OwnSl.bor e7) hS hV) ?_
 rintro _ w⟨m1,n0,n1,g2,hV,rfl,k8,k3,k4,h5,h6,hS⟩
 replace hS:=hS.f2
 refine sE hS ?_
 intro w hS
 refine z ?_
 replace hS:=hS.f2.drop
 refine z ?_
 exact vc
 exact Z
 have i4:Len a_2.ks:=D.bound
 exact Z
 exact Z
theorem RJ{s_1:RV}{n:Value}{o:Value}{n_8:RV}{r:Value}{m:Value}{Q:RV->Prop}(l6:I64 s_1.k)(l8:I64 s_1.i)(a7:IsSl H cR n s_1.ks)(k2:IsSl H cR o s_1.vs)(l3:I64 n_8.k)(l4:I64 n_8.i)(j2:IsSl H cR r n_8.ks)(j3:IsSl H cR m n_8.vs)(hS:St w0 H L w)(hV:Fk s_1 n_8 Q):
 Cl 44 #[.agg #[i6 s_1.k,i6 s_1.i,sv s_1.t,n,o],.agg #[i6 n_8.k,i6 n_8.i,sv n_8.t,r,m]] w (pR w0 H L Q):=by
 refine Co func44 ntmps44 ?_
 refine zz ?_
 refine WL.box (arr:=#[i6 s_1.k,i6 s_1.i,sv s_1.t,n,o]) rfl rfl rfl hS ?_
 intro f w hS
 refine WL.box (arr:=#[i6 n_8.k,i6 n_8.i,sv n_8.t,r,m]) rfl rfl rfl hS ?_
 intro g w hS
 refine aR hS ?_
 intro j w hS
 obtain⟨d4,d8,hV⟩:=hV
 iterate 2 refine z ?_
 refine WC.meet (fun a w=>∃b7,d4 b7/\St w0 H ([(f,oc #[i6 s_1.k,i6 s_1.i,sv s_1.t,n,o] 32)]++([(g,oc #[i6 n_8.k,i6 n_8.i,sv n_8.t,r,m] 32)]++([(j,Obj.cells #[i6 0,i6 0,sv ([]:Aa),ns,ns] 32 (0,0))]++L))) w/\Fr 99 [(2,(pq f)),(3,(pq g)),(4,(pq j)),(25,.bool b7)] a) ?_ ?_
 rintro a w⟨b7,hI,hS,ha⟩
 refine Ab ha ?_
 have hV:=d8 _ hI
 refine Cf hV ?_ ?_<;>intro k8 hV
 refine zz ?_
 refine Rn hS bR ?_
 replace hS:=hS.f3
 refine sE hS ?_
 intro w hS
 refine zz ?_
 replace hS:=hS.f2.drop
 replace hS:=hS.f2.drop
 refine zz ?_
 exact vc
 refine zz ?_
 refine WL.build0 (α:=RV) (c:=cR) rfl underlying30 sizeOf32 hS ?_
 intro h2 w h8 e2 hS
 obtain⟨d0,b0,e3,hS⟩:∃K,View.le H K/\IsSl K cR h2 ([]:List RV)/\St w0 K ([(f,oc #[i6 s_1.k,i6 s_1.i,sv s_1.t,n,o] 32)]++([(g,oc #[i6 n_8.k,i6 n_8.i,sv n_8.t,r,m] 32)]++([(j,Obj.cells #[i6 0,i6 0,sv ([]:Aa),ns,ns] 32 (0,0))]++L))) w:=⟨_,hS.put_le,e2.share hS.put_le,hS.freeze⟩
 refine WL.build1 (c:=(JR cR)) rfl underlying124 info30 rfl rfl (HE e3) hS ?_
 intro m8 w h9 j4 hS
 refine zz ?_
 refine Rn hS (Aq (vs:=[i6 (6:Int)]) (zc:=#[i6 0,i6 0,sv ([]:Aa),ns,ns]) (cs:=#[i6 (6:Int),i6 0,sv ([]:Aa),ns,ns]) (places:=#[(0,1),(1,1),(2,1),(3,1),(4,1)]) underlying32 zeroValue32 (fun w=>by simp[sizeOf2,sizeOf3,sizeOf30,sizeOf9]) rfl ⟨rfl,trivial⟩ rfl Zf) ?_
 refine WL.builds (c:=cR) (xs:=[(RV.mk (6:Int) 0 ([]:Aa) ([]:List RV) ([]:List RV))]) (vs:=[.agg #[i6 (6:Int),i6 0,sv ([]:Aa),ns,ns]]) (css:=[[i6 (6:Int),i6 0,sv ([]:Aa),ns,ns]]) rfl underlying30 info32 rfl ⟨rfl,trivial⟩ rfl (by decide) rfl (by simp;rfl) ⟨[i6 (6:Int),i6 0,sv ([]:Aa),ns,ns],_,rfl,(cR_rep.2 ⟨_,_,rfl,(show I64 (6:Int) by unfold I64;omega),i0,IsSl.nil,IsSl.nil⟩),rfl⟩ hS rfl (by decide) ?_
 intro m9 w i1 j9 hS
 refine zz ?_
 replace hS:=hS.f2.f5.f5.f5
 obtain⟨d1,g9,j1,hV⟩:=hV
 refine WC.loop (σ:=(List (List RV))×(List RV)×Int) (fun s a w=>∃D a0 B C G A Y P,s=(D,a0,B)/\d1 (D,a0,B)/\View.le d0 C/\OwnSl C (JR cR) 30 G D A/\OwnSl C cR 32 Y a0 P/\I64 B/\St w0 C ([(f,oc #[i6 s_1.k,i6 s_1.i,sv s_1.t,n,o] 32)]++([(g,oc #[i6 n_8.k,i6 n_8.i,sv n_8.t,r,m] 32)]++([(j,Obj.cells #[i6 0,i6 0,sv ([]:Aa),ns,ns] 32 (0,0))]++(A++(P++L))))) w/\Fr 99 [(2,(pq f)),(3,(pq g)),(4,(pq j)),(5,G),(6,Y),(7,i6 B)] a) g9 ([([]:List RV)],[(RV.mk (6:Int) 0 ([]:Aa) ([]:List RV) ([]:List RV))],(0:Int)) ?_ ?_
 exact y
 rintro _ a w⟨D,a0,B,C,G,A,Y,P,rfl,hI,a9,T,e1,l5,hS,ha⟩
 refine Ab ha ?_
 replace hV:=hV _ hI
 obtain⟨d5,d9,hV⟩:=hV
 refine z ?_
 refine WC.meet (fun a w=>∃b8,d5 b8/\St w0 C ([(f,oc #[i6 s_1.k,i6 s_1.i,sv s_1.t,n,o] 32)]++([(g,oc #[i6 n_8.k,i6 n_8.i,sv n_8.t,r,m] 32)]++([(j,Obj.cells #[i6 0,i6 0,sv ([]:Aa),ns,ns] 32 (0,0))]++(A++(P++L))))) w/\Fr 99 [(2,(pq f)),(3,(pq g)),(4,(pq j)),(5,G),(6,Y),(7,i6 B),(39,.bool b8)] a) ?_ ?_
 rintro a w⟨b8,hI,hS,ha⟩
 refine Ab ha ?_
 have hV:=d9 _ hI
 refine Cf hV ?_ ?_<;>intro k7 hV
 obtain⟨d6,e0,hV⟩:=hV
 iterate 8 refine z ?_
 refine WC.meet (fun a w=>∃b9,d6 b9/\St w0 C ([(f,oc #[i6 s_1.k,i6 s_1.i,sv s_1.t,n,o] 32)]++([(g,oc #[i6 n_8.k,i6 n_8.i,sv n_8.t,r,m] 32)]++([(j,Obj.cells #[i6 0,i6 0,sv ([]:Aa),ns,ns] 32 (0,0))]++(A++(P++L))))) w/\Fr 99 [(2,(pq f)),(3,(pq g)),(4,(pq j)),(5,G),(6,Y),(7,i6 B),(8,ns),(53,.bool b9)] a) ?_ ?_
 rintro a w⟨b9,hI,hS,ha⟩
 refine Ab ha ?_
 have hV:=e0 _ hI
 refine Cf hV ?_ ?_<;>intro k6 hV
 refine zz ?_
 refine Rn hS bR ?_
 replace hS:=hS.f3
 refine sE hS ?_
 intro w hS
 refine zz ?_
 replace hS:=hS.f2.drop
 replace hS:=hS.f2.drop
 replace hS:=hS.f2.drop
 replace hS:=hS.f2.drop
 refine zz ?_
 exact vc
 refine zz ?_
 replace hS:=hS.nilseg
 replace hS:=hS.f6.f6.f6.f6.f6
 obtain⟨d2,h0,j0,hV⟩:=hV
 refine WC.loop (σ:=(List RV)×(List (List RV))×Int) (fun s a w=>∃a1 V x N b1 a5 b2 a6,s=(a1,V,x)/\d2 (a1,V,x)/\View.le C N/\OwnSl N cR 32 b1 a1 a5/\OwnSl N (JR cR) 30 b2 V a6/\I64 x/\St w0 N ([(f,oc #[i6 s_1.k,i6 s_1.i,sv s_1.t,n,o] 32)]++([(g,oc #[i6 n_8.k,i6 n_8.i,sv n_8.t,r,m] 32)]++([(j,Obj.cells #[i6 0,i6 0,sv ([]:Aa),ns,ns] 32 (0,0))]++(A++(a5++(a6++L)))))) w/\Fr 99 [(2,(pq f)),(3,(pq g)),(4,(pq j)),(5,G),(6,b1),(7,i6 B),(8,b2),(9,i6 x)] a) h0 (a0,([]:List (List RV)),(0:Int)) ?_ ?_
 exact y
 rintro _ a w⟨a1,V,x,N,b1,a5,b2,a6,rfl,hI,F,j5,j6,l7,hS,ha⟩
 refine Ab ha ?_
 replace hV:=hV _ hI
 have g2:=(T.mono F).bound
 replace hV:=hV g2
 refine zz ?_
 refine Rn hS (AP underlying124 rfl (T.mono F)) ?_
 refine zz ?_
 refine Ce hV ?_ ?_<;>intro k5 hV
 refine zz ?_
 replace hS:=hS.f6.f6.f6.f6.f6.f6
 obtain⟨d3,h1,i9,hV⟩:=hV
 refine WC.loop (σ:=(List RV)×(List (List RV))×Int) (fun s a w=>∃a2 W d E b3 O b4 S,s=(a2,W,d)/\d3 (a2,W,d)/\View.le N E/\OwnSl E cR 32 b3 a2 O/\OwnSl E (JR cR) 30 b4 W S/\I64 d/\St w0 E ([(f,oc #[i6 s_1.k,i6 s_1.i,sv s_1.t,n,o] 32)]++([(g,oc #[i6 n_8.k,i6 n_8.i,sv n_8.t,r,m] 32)]++([(j,Obj.cells #[i6 0,i6 0,sv ([]:Aa),ns,ns] 32 (0,0))]++(A++(O++(S++L)))))) w/\Fr 99 [(2,(pq f)),(3,(pq g)),(4,(pq j)),(5,G),(6,b3),(7,i6 B),(8,b4),(9,i6 x),(10,i6 d)] a) h1 (a1,V,(0:Int)) ?_ ?_
 exact y
 rintro _ a w⟨a2,W,d,E,b3,O,b4,S,rfl,hI,U,e4,e5,l9,hS,ha⟩
 refine Ab ha ?_
 replace hV:=hV _ hI
 have g3:Len s_1.ks:=((((a7.mono b0).mono a9).mono F).mono U).bound
 replace hV:=hV g3
 refine zz ?_
 refine Rn hS (Ao underlying30 rfl ((((a7.mono b0).mono a9).mono F).mono U)) ?_
 refine zz ?_
 refine Ce hV ?_ ?_<;>intro k4 hV
 obtain⟨c2,hV⟩:=hV
 refine zz ?_
 refine Rx hS (Ai underlying124 sizeOf30 rfl rfl ((T.mono F).mono U) c2) ?_
 intro m3 g4
 replace hS:=hS.f4
 refine Rx hS (BG (H:=E) (L:=[(f,oc #[i6 s_1.k,i6 s_1.i,sv s_1.t,n,o] 32)]++([(g,oc #[i6 n_8.k,i6 n_8.i,sv n_8.t,r,m] 32)]++([(j,Obj.cells #[i6 0,i6 0,sv ([]:Aa),ns,ns] 32 (0,0))]++(O++(S++L))))) (AD isAgg30 rfl rfl ((T.mono F).mono U) g4 c2)) ?_
 intro m6 a8
 replace a8:=Bq a8
 obtain⟨c3,hV⟩:=hV
 replace hS:=hS.nilseg
 refine WL.append (c:=cR) (xs:=([]:List RV)) (ys:=(ix D x)) rfl underlying30 info32 rfl rfl rfl hS OwnSl.nil (a8.src hS) c3.1 c3.2 ?_
 intro n0 w i2 c0 hS
 rw[List.nil_append] at c0
 refine zz ?_
 replace hS:=hS.f3
 obtain⟨g1,hV⟩:=hV
 refine zz ?_
 refine Rx hS (Au underlying30 sizeOf32 rfl rfl ((((a7.mono b0).mono a9).mono F).mono U) g1) ?_
 intro m4 g5
 refine Rx hS (AE isAgg32 sizeOf32 rfl g5) ?_
 rintro m7⟨_,rfl,hu⟩
 obtain⟨b5,b6,rfl,c4,c5,e6,e7⟩:=cR_rep.1 hu
 replace hV:=hV c4 c5
 refine WL.builds (c:=cR) (xs:=[(ix s_1.ks d)]) (vs:=[.agg #[i6 ((ix s_1.ks d).k),i6 ((ix s_1.ks d).i),sv ((ix s_1.ks d).t),b5,b6]]) (css:=[[i6 ((ix s_1.ks d).k),i6 ((ix s_1.ks d).i),sv ((ix s_1.ks d).t),b5,b6]]) rfl underlying30 info32 rfl ⟨rfl,trivial⟩ rfl (by decide) rfl (by simp;rfl) ⟨[i6 ((ix s_1.ks d).k),i6 ((ix s_1.ks d).i),sv ((ix s_1.ks d).t),b5,b6],_,rfl,(cR_rep.2 ⟨_,_,rfl,c4,c5,e6,e7⟩),rfl⟩ hS rfl (by decide) ?_
 intro n1 w i3 e8 hS
 obtain⟨c6,hV⟩:=hV
 replace hS:=hS.f3
 refine WL.append (c:=cR) (xs:=(ix D x)) (ys:=([(ix s_1.ks d)])) rfl underlying30 info32 rfl rfl rfl hS c0 (e8.src hS.f2) c6.1 c6.2 ?_
 intro h3 w i4 e9 hS
 refine zz ?_
 replace hS:=hS.f2.drop
 refine zz ?_
 obtain⟨h4,c9,c1,hS⟩:∃K,View.le E K/\IsSl K cR h3 ((ix D x)++([(ix s_1.ks d)]))/\St w0 K ([(f,oc #[i6 s_1.k,i6 s_1.i,sv s_1.t,n,o] 32)]++(A++([(g,oc #[i6 n_8.k,i6 n_8.i,sv n_8.t,r,m] 32)]++([(j,Obj.cells #[i6 0,i6 0,sv ([]:Aa),ns,ns] 32 (0,0))]++(O++(S++L)))))) w:=⟨_,hS.put_le,e9.share hS.put_le,hS.freeze⟩
 refine WL.build1 (c:=(JR cR)) rfl underlying124 info30 rfl rfl (HE c1) hS ?_
 intro n2 w i5 f0 hS
 obtain⟨c7,hV⟩:=hV
 replace hS:=hS.f7
 refine WL.append (c:=(JR cR)) (xs:=W) (ys:=([((ix D x)++([(ix s_1.ks d)]))])) rfl underlying124 info30 rfl rfl rfl hS (e5.mono c9) (f0.src hS.f2) c7.1 c7.2 ?_
 intro n3 w d7 j7 hS
 refine zz ?_
 replace hS:=hS.f2.drop
 refine zz ?_
 refine Rd call37 (Hc (L:=d7++([(f,oc #[i6 s_1.k,i6 s_1.i,sv s_1.t,n,o] 32)]++(A++([(g,oc #[i6 n_8.k,i6 n_8.i,sv n_8.t,r,m] 32)]++([(j,Obj.cells #[i6 0,i6 0,sv ([]:Aa),ns,ns] 32 (0,0))]++(O++L)))))) (IsSl.bor (fp:=[]) c1) hS hV) ?_
 rintro _ w⟨l,a3,a4,h5,hV,rfl,g8,g6,g7,f1,f9,hS⟩
 simp only[List.nil_append] at hS
 refine aR hS ?_
 intro h7 w hS
 refine sE hS ?_
 intro w hS
 refine zz ?_
 refine Ce hV ?_ ?_<;>intro k3 hV
 refine zz ?_
 refine Rn hS bR ?_
 replace hS:=hS.f6
 refine sE hS ?_
 intro w hS
 refine zz ?_
 replace hS:=hS.f4.drop
 replace hS:=hS.f5.drop
 replace hS:=hS.f4.drop
 replace hS:=hS.f4.drop
 replace hS:=hS.f3.drop
 replace hS:=hS.f2.drop
 refine zz ?_
 exact vc
 refine zz ?_
 refine Rn hS (Ac (cs:=[i6 l.k,i6 l.i,sv l.t,a3,a4]) isAgg32 sizeOf32 rfl rfl rfl) ?_
 refine WL.builds (c:=cR) (xs:=[l]) (vs:=[.agg #[i6 l.k,i6 l.i,sv l.t,a3,a4]]) (css:=[[i6 l.k,i6 l.i,sv l.t,a3,a4]]) rfl underlying30 info32 rfl ⟨rfl,trivial⟩ rfl (by decide) rfl (by simp;rfl) ⟨[i6 l.k,i6 l.i,sv l.t,a3,a4],_,rfl,(cR_rep.2 ⟨_,_,rfl,g6,g7,f1,f9⟩),rfl⟩ hS rfl (by decide) ?_
 intro n4 w i7 g0 hS
 obtain⟨c8,hV⟩:=hV
 replace hS:=hS.f8
 refine WL.append (c:=cR) (xs:=a2) (ys:=([l])) rfl underlying30 info32 rfl rfl rfl hS ((e4.mono c9).mono g8) (g0.src hS.f2) c8.1 c8.2 ?_
 intro n5 w i8 j8 hS
 refine zz ?_
 replace hS:=hS.f3.drop
 replace hS:=hS.f2.drop
 obtain⟨k9,hV⟩:=hV
 refine zz ?_
 replace hS:=hS.f2.f2.f4.f6.f6.f6
 exact y
 obtain⟨l0,hV⟩:=hV
 refine zz ?_
 replace hS:=hS.f6.f6.f6.f6.f6.f6
 exact y
 refine zz ?_
 replace hS:=hS.f4.drop
 obtain⟨l1,hV⟩:=hV
 refine zz ?_
 replace hS:=hS.f4.f5.f5.f5.f5
 exact y
 have l2:=T.bound
 exact Z
 refine zz ?_
 replace hS:=hS.drop
 replace hS:=hS.drop
 replace hS:=hS.f2.drop
 refine zz ?_
 replace hS:=hS.f2
 refine Rd call36 (EO (OwnSl.bor e1) hS hV) ?_
 rintro _ w⟨m5,n6,n7,h6,hV,rfl,m2,m0,m1,k0,k1,hS⟩
 replace hS:=hS.f2
 refine sE hS ?_
 intro w hS
 refine zz ?_
 replace hS:=hS.f2.drop
 refine zz ?_
 exact vc
 exact Z
 exact Z
theorem Wz{o:Aa}{a_2:RV}{l:Value}{v_4:Value}{b_9:RV}{d:Value}{f:Value}{Q:RV->Prop}(a1:I64 a_2.k)(a2:I64 a_2.i)(a0:IsSl H cR l a_2.ks)(C:IsSl H cR v_4 a_2.vs)(D:I64 b_9.k)(E:I64 b_9.i)(B:IsSl H cR d b_9.ks)(m:IsSl H cR f b_9.vs)(hS:St w0 H L w)(hV:GQ o a_2 b_9 Q):
 Cl 46 #[sv o,.agg #[i6 a_2.k,i6 a_2.i,sv a_2.t,l,v_4],.agg #[i6 b_9.k,i6 b_9.i,sv b_9.t,d,f]] w (pR w0 H L Q):=by
 refine Li func46 ntmps46 ?_
 refine z ?_
 refine WL.box (arr:=#[i6 a_2.k,i6 a_2.i,sv a_2.t,l,v_4]) rfl rfl rfl hS ?_
 intro a7 w hS
 refine WL.box (arr:=#[i6 b_9.k,i6 b_9.i,sv b_9.t,d,f]) rfl rfl rfl hS ?_
 intro g w hS
 refine aR hS ?_
 intro j w hS
 iterate 2 refine z ?_
 replace hS:=hS.f3
 refine Rn hS (Ac (cs:=[i6 a_2.k,i6 a_2.i,sv a_2.t,l,v_4]) isAgg32 sizeOf32 rfl rfl rfl) ?_
 refine Rd call33 (RL (v_1:=a_2) a1 a2 a0 C hS hV) ?_
 rintro _ w⟨a3,hV,rfl,hS⟩
 iterate 3 refine z ?_
 replace hS:=hS.f3
 refine Rn hS (Ac (cs:=[i6 b_9.k,i6 b_9.i,sv b_9.t,d,f]) isAgg32 sizeOf32 rfl rfl rfl) ?_
 refine Rd call33 (RL (v_1:=b_9) D E B m hS hV) ?_
 rintro _ w⟨a4,hV,rfl,hS⟩
 iterate 8 refine z ?_
 replace hS:=hS.f2
 obtain⟨F,hV⟩:=hV
 refine z ?_
 replace hS:=hS.nilseg
 refine WL.append (c:=cR) (xs:=([]:List RV)) (ys:=a_2.vs) rfl underlying30 info32 rfl rfl rfl hS OwnSl.nil (C.src hS) F.1 F.2 ?_
 intro O w A n hS
 rw[List.nil_append] at n
 iterate 2 refine z ?_
 replace hS:=hS.f2.drop
 obtain⟨P,T,hV⟩:=hV
 refine z ?_
 refine WC.meet (fun a w=>∃r,P r/\St w0 H ([(g,oc #[i6 b_9.k,i6 b_9.i,sv b_9.t,d,f] 32)]++([(j,Obj.cells #[i6 0,i6 0,sv ([]:Aa),ns,ns] 32 (0,0))]++(A++L))) w/\Fr 44 [(0,sv o),(5,(pq g)),(6,(pq j)),(7,.bool a3),(8,.bool a4),(9,O),(22,.bool r)] a) ?_ ?_
 rintro a w⟨r,hI,hS,ha⟩
 refine Ab ha ?_
 have hV:=T _ hI
 refine Cf hV ?_ ?_<;>intro b6 hV
 iterate 2 refine z ?_
 refine Rn hS (Ac (cs:=[i6 b_9.k,i6 b_9.i,sv b_9.t,d,f]) isAgg32 sizeOf32 rfl rfl rfl) ?_
 refine WL.builds (c:=cR) (xs:=[b_9]) (vs:=[.agg #[i6 b_9.k,i6 b_9.i,sv b_9.t,d,f]]) (css:=[[i6 b_9.k,i6 b_9.i,sv b_9.t,d,f]]) rfl underlying30 info32 rfl ⟨rfl,trivial⟩ rfl (by decide) rfl (by simp;rfl) ⟨[i6 b_9.k,i6 b_9.i,sv b_9.t,d,f],_,rfl,(cR_rep.2 ⟨_,_,rfl,D,E,B,m⟩),rfl⟩ hS rfl (by decide) ?_
 intro c5 w a8 V hS
 obtain⟨G,hV⟩:=hV
 replace hS:=hS.f4
 refine WL.append (c:=cR) (xs:=a_2.vs) (ys:=([b_9])) rfl underlying30 info32 rfl rfl rfl hS n (V.src hS.f2) G.1 G.2 ?_
 intro c6 w a9 W hS
 iterate 2 refine z ?_
 replace hS:=hS.f3.drop
 replace hS:=hS.f2.drop
 iterate 2 refine z ?_
 refine Rd call37 (Hc (OwnSl.bor W) hS hV) ?_
 rintro _ w⟨c3,c7,c8,a5,hV,rfl,c1,b7,b8,b1,b2,hS⟩
 replace hS:=hS.f2
 refine sE hS ?_
 intro w hS
 refine z ?_
 replace hS:=hS.f2.drop
 iterate 2 refine z ?_
 exact vc
 obtain⟨S,U,hV⟩:=hV
 iterate 3 refine z ?_
 refine WC.meet (fun a w=>∃x,S x/\St w0 H ([(g,oc #[i6 b_9.k,i6 b_9.i,sv b_9.t,d,f] 32)]++([(j,Obj.cells #[i6 0,i6 0,sv ([]:Aa),ns,ns] 32 (0,0))]++(A++L))) w/\Fr 44 [(5,(pq g)),(6,(pq j)),(9,O),(36,.bool x)] a) ?_ ?_
 rintro a w⟨x,hI,hS,ha⟩
 refine Ab ha ?_
 have hV:=U _ hI
 refine Cf hV ?_ ?_<;>intro b5 hV
 obtain⟨N,hV⟩:=hV
 iterate 4 refine z ?_
 replace hS:=hS.f3
 refine WL.append (c:=cR) (xs:=a_2.vs) (ys:=b_9.vs) rfl underlying30 info32 rfl rfl rfl hS n (m.src hS) N.1 N.2 ?_
 intro c9 w b0 Y hS
 iterate 2 refine z ?_
 replace hS:=hS.f2.drop
 iterate 2 refine z ?_
 refine Rd call37 (Hc (OwnSl.bor Y) hS hV) ?_
 rintro _ w⟨c4,d0,d1,a6,hV,rfl,c2,b9,c0,b3,b4,hS⟩
 replace hS:=hS.f2
 refine sE hS ?_
 intro w hS
 refine z ?_
 replace hS:=hS.f2.drop
 iterate 2 refine z ?_
 exact vc
 iterate 2 refine z ?_
 replace hS:=hS.drop
 replace hS:=hS.f2.drop
 refine z ?_
 refine Rn hS bR ?_
 refine sE hS ?_
 intro w hS
 iterate 2 refine z ?_
 exact vc
 exact Z
 exact Z
theorem YI{g:Aa}{j:Value}{a_2:List RV}{c:Ar}{Q:RV->Prop}(d:Bor H cR j a_2 c)(hS:St w0 H (c++L) w)(hV:Nu g a_2 Q):
 Cl 18 #[sv g,j] w (pR w0 H (c++L) Q):=by
 refine Co func18 ntmps18 ?_
 refine zz ?_
 refine aR hS ?_
 intro i w hS
 refine zz ?_
 refine Rd call35 (Aah hS hV) ?_
 rintro _ w⟨f,hV,rfl,s3,hS⟩
 have h0:=d.bound
 replace hV:=hV h0
 iterate 3 refine z ?_
 refine WC.seq ?_
 refine WC.via (m:=[(0,sv g),(1,j),(4,(pq i)),(5,i6 f),(19,.bool (decide ((f=(-2))\/(((0:Int)<=f)/\(f≠(a_2.length:Int))))))]) ?_ ?_
 refine zz ?_
 rcases DG (decide (f=(-2))) with l|l
 iterate 9 refine z ?_
 refine WL.up (s:=19) rfl (Bg l:true=decide ((f=(-2))\/(((0:Int)<=f)/\(f≠(a_2.length:Int))))) ?_
 exact WL.nil At.os
 refine zz ?_
 rcases DG (decide ((0:Int)<=f)) with n|n
 refine zz ?_
 refine Ug n ?_
 refine Rn hS (CN underlying30 rfl d) ?_
 iterate 2 refine z ?_
 refine WL.up (s:=18) rfl (De n) (z ?_)
 refine WL.up (s:=19) rfl (CQ l) ?_
 exact WL.nil At.os
 iterate 5 refine z ?_
 refine WL.up (s:=18) rfl (Bj n:false=decide (((0:Int)<=f)/\(f≠(a_2.length:Int)))) (z ?_)
 refine WL.up (s:=19) rfl (CQ l) ?_
 exact WL.nil At.os
 refine zz ?_
 refine Ce hV ?_ ?_<;>intro n1 hV
 refine zz ?_
 refine Rn hS bR ?_
 refine sE hS ?_
 intro w hS
 refine zz ?_
 exact vc
 refine zz ?_
 refine Ce hV ?_ ?_<;>intro n0 hV
 replace hS:=hS.f2
 refine zz ?_
 refine Rd call36 (EO d hS hV) ?_
 rintro _ w⟨C5,G7,H0,j3,hV,rfl,u9,t0,t3,k9,l0,hS⟩
 replace hS:=hS.f2
 refine sE hS ?_
 intro w hS
 refine zz ?_
 exact vc
 refine zz ?_
 refine Ce hV ?_ ?_<;>intro m9 hV
 replace hS:=hS.f2
 refine zz ?_
 refine Rd call37 (Hc d hS hV) ?_
 rintro _ w⟨C8,I3,I6,j6,hV,rfl,v3,t8,t9,l5,l6,hS⟩
 replace hS:=hS.f2
 refine sE hS ?_
 intro w hS
 refine zz ?_
 exact vc
 refine zz ?_
 refine Ce hV ?_ ?_<;>intro m8 hV
 replace hS:=hS.f2
 refine zz ?_
 refine Rd call38 (YL d hS hV) ?_
 rintro _ w⟨D1,J6,J7,j8,hV,rfl,v4,u2,u3,l9,m0,hS⟩
 replace hS:=hS.f2
 refine sE hS ?_
 intro w hS
 refine zz ?_
 exact vc
 refine zz ?_
 refine Ce hV ?_ ?_<;>intro m7 hV
 refine z ?_
 refine WC.drawn (σ:=[0,1,2,3,4,5,6,7,8,9,10]) [[],[0],[0,1],[],[3],[3,4],[],[6],[6,7],[0,1,2,3,4,5,6,7,8],[0,1,2,3,4,5,6,7,8,9]] [9,10] mixed (by kernel_rfl) (hS.drawn _) ?_
 refine Dm fun B2 r2=>?_
 obtain⟨g7,hV⟩:=hV
 refine Wd.runx rfl rfl rfl rfl (AA (Ag underlying30 sizeOf32 rfl rfl d g7)) ?_
 intro w9 i4
 intro B3 r3
 refine Wd.runs (fp:=c) rfl rfl rfl rfl (Ad isAgg32 sizeOf32 rfl i4) (fun _ h=>St.f2 h) ?_
 rintro E5⟨_,rfl,hu⟩
 obtain⟨J8,J9,rfl,b1,b2,e9,f0⟩:=cR_rep.1 hu
 replace hV:=hV b1 b2
 intro B4 r4
 refine Dm fun B5 r5=>?_
 obtain⟨g8,hV⟩:=hV
 refine Wd.runx rfl rfl rfl rfl (AA (Ag underlying30 sizeOf32 rfl rfl d g8)) ?_
 intro x0 i5
 intro B6 r6
 refine Wd.runs (fp:=c) rfl rfl rfl rfl (Ad isAgg32 sizeOf32 rfl i5) (fun _ h=>St.f2 h) ?_
 rintro E6⟨_,rfl,hu⟩
 obtain⟨K0,K1,rfl,b3,b4,f1,f3⟩:=cR_rep.1 hu
 replace hV:=hV b3 b4
 intro B7 r7
 refine Dm fun B8 r8=>?_
 obtain⟨g9,hV⟩:=hV
 refine Wd.runx rfl rfl rfl rfl (AA (Ag underlying30 sizeOf32 rfl rfl d g9)) ?_
 intro x1 i7
 intro B9 r9
 refine Wd.runs (fp:=c) rfl rfl rfl rfl (Ad isAgg32 sizeOf32 rfl i7) (fun _ h=>St.f2 h) ?_
 rintro E7⟨_,rfl,hu⟩
 obtain⟨K2,E8,rfl,x,A,c1,c2⟩:=cR_rep.1 hu
 replace hV:=hV x A
 intro C0 s0
 refine Wd.turn rfl rfl rfl fun w hS=>?_
 refine Rd call39 (ZV (f_1:=(ix a_2 (0:Int))) (k_8:=(ix a_2 (1:Int))) (v_15:=(ix a_2 (2:Int))) b1 b2 e9 f0 b3 b4 f1 f3 x A c1 c2 hS hV) ?_
 rintro _ w⟨C1,E9,F0,i8,hV,rfl,u4,s1,s2,j9,k0,hS⟩
 refine WL.nil (DQ.mk2 hS ⟨il,il,il,il,il,il,il,il,il,trivial⟩ ?_)
 refine Wd.turn rfl rfl rfl fun w hS=>?_
 refine sE hS ?_
 intro w hS
 refine WL.nil (DQ.mk2 hS ⟨il,il,il,il,il,il,il,il,il,trivial⟩ ?_)
 refine Wd.nil fun w hS=>?_
 refine zz ?_
 exact vc
 refine zz ?_
 refine Ce hV ?_ ?_<;>intro m6 hV
 obtain⟨f4,hV⟩:=hV
 refine zz ?_
 refine Rx hS (Ag underlying30 sizeOf32 rfl rfl d f4) ?_
 intro v5 h1
 replace hS:=hS.f2
 refine Rx hS (BG (H:=H) (L:=[(i,Obj.cells #[i6 0,i6 0,sv ([]:Aa),ns,ns] 32 (0,0))]++L) (Ad isAgg32 sizeOf32 rfl h1)) ?_
 rintro D2⟨_,rfl,hu⟩
 obtain⟨F1,F2,rfl,B,C,c3,c4⟩:=cR_rep.1 hu
 replace hV:=hV B C
 refine Rd call40 (AcO (a_2:=(ix a_2 (0:Int))) B C c3 c4 hS hV) ?_
 rintro _ w⟨C2,F3,F4,i9,hV,rfl,u5,s4,s5,k1,k2,hS⟩
 replace hS:=hS.f2
 refine sE hS ?_
 intro w hS
 refine zz ?_
 exact vc
 obtain⟨b5,b8,hV⟩:=hV
 iterate 7 refine z ?_
 refine WC.meet (fun a w=>∃o,b5 o/\St w0 H (c++([(i,Obj.cells #[i6 0,i6 0,sv ([]:Aa),ns,ns] 32 (0,0))]++L)) w/\Fr 129 [(0,sv g),(1,j),(4,(pq i)),(53,sv g),(54,.bool o)] a) ?_ ?_
 rintro a w⟨o,hI,hS,ha⟩
 refine Ab ha ?_
 have hV:=b8 _ hI
 refine Cf hV ?_ ?_<;>intro m5 hV
 refine z ?_
 refine WC.drawn (σ:=[0,1,2,3,4,5,6,7,8]) [[],[],[1],[1,2],[],[4],[4,5],[0,1,2,3,4,5,6],[0,1,2,3,4,5,6,7]] [7,8] mixed (by kernel_rfl) (hS.drawn _) ?_
 refine Dm fun x2 n2=>?_
 refine Dm fun x3 n3=>?_
 obtain⟨f5,hV⟩:=hV
 refine Wd.runx rfl rfl rfl rfl (AA (Ag underlying30 sizeOf32 rfl rfl d f5)) ?_
 intro v6 h2
 intro x4 n4
 refine Wd.runs (fp:=c) rfl rfl rfl rfl (Ad isAgg32 sizeOf32 rfl h2) (fun _ h=>h) ?_
 rintro D3⟨_,rfl,hu⟩
 obtain⟨F5,F6,rfl,D,E,c5,c6⟩:=cR_rep.1 hu
 replace hV:=hV D E
 intro x5 n5
 refine Dm fun x6 n6=>?_
 obtain⟨f6,hV⟩:=hV
 refine Wd.runx rfl rfl rfl rfl (AA (Ag underlying30 sizeOf32 rfl rfl d f6)) ?_
 intro v7 h3
 intro x7 n7
 refine Wd.runs (fp:=c) rfl rfl rfl rfl (Ad isAgg32 sizeOf32 rfl h3) (fun _ h=>h) ?_
 rintro D4⟨_,rfl,hu⟩
 obtain⟨F7,F8,rfl,F,G,c7,c8⟩:=cR_rep.1 hu
 replace hV:=hV F G
 intro x8 n8
 refine Wd.turn rfl rfl rfl fun w hS=>?_
 refine Rd call41 (Yk (a_2:=(ix a_2 (0:Int))) (b_9:=(ix a_2 (1:Int))) D E c5 c6 F G c7 c8 hS hV) ?_
 rintro _ w⟨C3,F9,G0,j0,hV,rfl,u6,s6,s7,k3,k4,hS⟩
 refine WL.nil (DQ.mk2 hS ⟨il,il,il,il,il,il,il,trivial⟩ ?_)
 refine Wd.turn rfl rfl rfl fun w hS=>?_
 replace hS:=hS.f2
 refine sE hS ?_
 intro w hS
 refine WL.nil (DQ.mk2 hS ⟨il,il,il,il,il,il,il,trivial⟩ ?_)
 refine Wd.nil fun w hS=>?_
 refine zz ?_
 exact vc
 obtain⟨b6,b9,hV⟩:=hV
 refine WC.meet (fun a w=>∃r,b6 r/\St w0 H (c++([(i,Obj.cells #[i6 0,i6 0,sv ([]:Aa),ns,ns] 32 (0,0))]++L)) w/\Fr 129 [(0,sv g),(1,j),(4,(pq i)),(53,sv g),(69,.bool r)] a) ?_ ?_
 rintro a w⟨r,hI,hS,ha⟩
 refine Ab ha ?_
 have hV:=b9 _ hI
 refine Cf hV ?_ ?_<;>intro m4 hV
 refine z ?_
 refine WC.drawn (σ:=[0,1,2,3,4,5,6,7,8]) [[],[],[1],[1,2],[],[4],[4,5],[0,1,2,3,4,5,6],[0,1,2,3,4,5,6,7]] [7,8] mixed (by kernel_rfl) (hS.drawn _) ?_
 refine Dm fun x9 n9=>?_
 refine Dm fun y0 o0=>?_
 obtain⟨f7,hV⟩:=hV
 refine Wd.runx rfl rfl rfl rfl (AA (Ag underlying30 sizeOf32 rfl rfl d f7)) ?_
 intro v8 h4
 intro y1 o1
 refine Wd.runs (fp:=c) rfl rfl rfl rfl (Ad isAgg32 sizeOf32 rfl h4) (fun _ h=>h) ?_
 rintro D5⟨_,rfl,hu⟩
 obtain⟨G1,G2,rfl,N,O,c9,d0⟩:=cR_rep.1 hu
 replace hV:=hV N O
 intro y2 o2
 refine Dm fun y3 o3=>?_
 obtain⟨f8,hV⟩:=hV
 refine Wd.runx rfl rfl rfl rfl (AA (Ag underlying30 sizeOf32 rfl rfl d f8)) ?_
 intro v9 h5
 intro y4 o4
 refine Wd.runs (fp:=c) rfl rfl rfl rfl (Ad isAgg32 sizeOf32 rfl h5) (fun _ h=>h) ?_
 rintro D6⟨_,rfl,hu⟩
 obtain⟨G3,G4,rfl,P,S,d1,d2⟩:=cR_rep.1 hu
 replace hV:=hV P S
 intro y5 o5
 refine Wd.turn rfl rfl rfl fun w hS=>?_
 refine Rd call42 (Ua (a_2:=(ix a_2 (0:Int))) (b_9:=(ix a_2 (1:Int))) N O c9 d0 P S d1 d2 hS hV) ?_
 rintro _ w⟨C4,G5,G6,j1,hV,rfl,u7,s8,s9,k5,k6,hS⟩
 refine WL.nil (DQ.mk2 hS ⟨il,il,il,il,il,il,il,trivial⟩ ?_)
 refine Wd.turn rfl rfl rfl fun w hS=>?_
 replace hS:=hS.f2
 refine sE hS ?_
 intro w hS
 refine WL.nil (DQ.mk2 hS ⟨il,il,il,il,il,il,il,trivial⟩ ?_)
 refine Wd.nil fun w hS=>?_
 refine zz ?_
 exact vc
 obtain⟨b7,c0,hV⟩:=hV
 refine WC.meet (fun a w=>∃t,b7 t/\St w0 H (c++([(i,Obj.cells #[i6 0,i6 0,sv ([]:Aa),ns,ns] 32 (0,0))]++L)) w/\Fr 129 [(0,sv g),(1,j),(4,(pq i)),(53,sv g),(88,.bool t)] a) ?_ ?_
 rintro a w⟨t,hI,hS,ha⟩
 refine Ab ha ?_
 have hV:=c0 _ hI
 refine Cf hV ?_ ?_<;>intro m3 hV
 refine z ?_
 refine WC.drawn (σ:=[0,1,2,3,4,5,6,7,8]) [[],[],[1],[1,2],[],[4],[4,5],[0,1,2,3,4,5,6],[0,1,2,3,4,5,6,7]] [7,8] mixed (by kernel_rfl) (hS.drawn _) ?_
 refine Dm fun y6 o6=>?_
 refine Dm fun y7 o7=>?_
 obtain⟨f9,hV⟩:=hV
 refine Wd.runx rfl rfl rfl rfl (AA (Ag underlying30 sizeOf32 rfl rfl d f9)) ?_
 intro w1 h6
 intro y8 o8
 refine Wd.runs (fp:=c) rfl rfl rfl rfl (Ad isAgg32 sizeOf32 rfl h6) (fun _ h=>h) ?_
 rintro D7⟨_,rfl,hu⟩
 obtain⟨G8,G9,rfl,T,U,d3,d4⟩:=cR_rep.1 hu
 replace hV:=hV T U
 intro y9 o9
 refine Dm fun z0 p0=>?_
 obtain⟨g0,hV⟩:=hV
 refine Wd.runx rfl rfl rfl rfl (AA (Ag underlying30 sizeOf32 rfl rfl d g0)) ?_
 intro w2 h7
 intro z1 p1
 refine Wd.runs (fp:=c) rfl rfl rfl rfl (Ad isAgg32 sizeOf32 rfl h7) (fun _ h=>h) ?_
 rintro D8⟨_,rfl,hu⟩
 obtain⟨H1,H2,rfl,V,W,d5,d6⟩:=cR_rep.1 hu
 replace hV:=hV V W
 intro z2 p2
 refine Wd.turn rfl rfl rfl fun w hS=>?_
 refine Rd call43 (Abj (a_2:=(ix a_2 (0:Int))) (b_9:=(ix a_2 (1:Int))) T U d3 d4 V W d5 d6 hS hV) ?_
 rintro _ w⟨C6,H3,H4,j2,hV,rfl,u8,t1,t2,k7,k8,hS⟩
 refine WL.nil (DQ.mk2 hS ⟨il,il,il,il,il,il,il,trivial⟩ ?_)
 refine Wd.turn rfl rfl rfl fun w hS=>?_
 replace hS:=hS.f2
 refine sE hS ?_
 intro w hS
 refine WL.nil (DQ.mk2 hS ⟨il,il,il,il,il,il,il,trivial⟩ ?_)
 refine Wd.nil fun w hS=>?_
 refine zz ?_
 exact vc
 refine zz ?_
 refine Ce hV ?_ ?_<;>intro m2 hV
 refine z ?_
 refine WC.drawn (σ:=[0,1,2,3,4,5,6,7]) [[],[0],[0,1],[],[3],[3,4],[0,1,2,3,4,5],[0,1,2,3,4,5,6]] [6,7] mixed (by kernel_rfl) (hS.drawn _) ?_
 refine Dm fun z3 p3=>?_
 obtain⟨g1,hV⟩:=hV
 refine Wd.runx rfl rfl rfl rfl (AA (Ag underlying30 sizeOf32 rfl rfl d g1)) ?_
 intro w3 h8
 intro z4 p4
 refine Wd.runs (fp:=c) rfl rfl rfl rfl (Ad isAgg32 sizeOf32 rfl h8) (fun _ h=>h) ?_
 rintro D9⟨_,rfl,hu⟩
 obtain⟨H5,H6,rfl,Y,a0,d7,d8⟩:=cR_rep.1 hu
 replace hV:=hV Y a0
 intro z5 p5
 refine Dm fun z6 p6=>?_
 obtain⟨g2,hV⟩:=hV
 refine Wd.runx rfl rfl rfl rfl (AA (Ag underlying30 sizeOf32 rfl rfl d g2)) ?_
 intro w4 h9
 intro z7 p7
 refine Wd.runs (fp:=c) rfl rfl rfl rfl (Ad isAgg32 sizeOf32 rfl h9) (fun _ h=>h) ?_
 rintro E0⟨_,rfl,hu⟩
 obtain⟨H7,H8,rfl,a1,a2,d9,e0⟩:=cR_rep.1 hu
 replace hV:=hV a1 a2
 intro z8 p8
 refine Wd.turn rfl rfl rfl fun w hS=>?_
 refine Rd call44 (RJ (s_1:=(ix a_2 (0:Int))) (n_8:=(ix a_2 (1:Int))) Y a0 d7 d8 a1 a2 d9 e0 hS hV) ?_
 rintro _ w⟨C7,H9,I0,j4,hV,rfl,v0,t4,t5,l1,l2,hS⟩
 refine WL.nil (DQ.mk2 hS ⟨il,il,il,il,il,il,trivial⟩ ?_)
 refine Wd.turn rfl rfl rfl fun w hS=>?_
 replace hS:=hS.f2
 refine sE hS ?_
 intro w hS
 refine WL.nil (DQ.mk2 hS ⟨il,il,il,il,il,il,trivial⟩ ?_)
 refine Wd.nil fun w hS=>?_
 refine zz ?_
 exact vc
 refine zz ?_
 refine Ce hV ?_ ?_<;>intro m1 hV
 refine z ?_
 refine WC.drawn (σ:=[0,1,2,3,4,5,6,7]) [[],[0],[0,1],[],[3],[3,4],[0,1,2,3,4,5],[0,1,2,3,4,5,6]] [6,7] mixed (by kernel_rfl) (hS.drawn _) ?_
 refine Dm fun z9 p9=>?_
 obtain⟨g3,hV⟩:=hV
 refine Wd.runx rfl rfl rfl rfl (AA (Ag underlying30 sizeOf32 rfl rfl d g3)) ?_
 intro w5 i0
 intro A0 q0
 refine Wd.runs (fp:=c) rfl rfl rfl rfl (Ad isAgg32 sizeOf32 rfl i0) (fun _ h=>h) ?_
 rintro E1⟨_,rfl,hu⟩
 obtain⟨I1,I2,rfl,a3,a4,e1,e2⟩:=cR_rep.1 hu
 replace hV:=hV a3 a4
 intro A1 q1
 refine Dm fun A2 q2=>?_
 obtain⟨g4,hV⟩:=hV
 refine Wd.runx rfl rfl rfl rfl (AA (Ag underlying30 sizeOf32 rfl rfl d g4)) ?_
 intro w6 i1
 intro A3 q3
 refine Wd.runs (fp:=c) rfl rfl rfl rfl (Ad isAgg32 sizeOf32 rfl i1) (fun _ h=>h) ?_
 rintro E2⟨_,rfl,hu⟩
 obtain⟨I4,I5,rfl,a5,a6,e3,e4⟩:=cR_rep.1 hu
 replace hV:=hV a5 a6
 intro A4 q4
 refine Wd.turn rfl rfl rfl fun w hS=>?_
 refine Rd call45 (AdF (f_1:=(ix a_2 (0:Int))) (k_8:=(ix a_2 (1:Int))) a3 a4 e1 e2 a5 a6 e3 e4 hS hV) ?_
 rintro _ w⟨C9,I7,I8,j5,hV,rfl,v1,t6,t7,l3,l4,hS⟩
 refine WL.nil (DQ.mk2 hS ⟨il,il,il,il,il,il,trivial⟩ ?_)
 refine Wd.turn rfl rfl rfl fun w hS=>?_
 replace hS:=hS.f2
 refine sE hS ?_
 intro w hS
 refine WL.nil (DQ.mk2 hS ⟨il,il,il,il,il,il,trivial⟩ ?_)
 refine Wd.nil fun w hS=>?_
 refine zz ?_
 exact vc
 iterate 4 refine z ?_
 refine WC.drawn (σ:=[0,1,2,3,4,5,6,7,8]) [[],[],[1],[1,2],[],[4],[4,5],[0,1,2,3,4,5,6],[0,1,2,3,4,5,6,7]] [7,8] mixed (by kernel_rfl) (hS.drawn _) ?_
 refine Dm fun A5 q5=>?_
 refine Dm fun A6 q6=>?_
 obtain⟨g5,hV⟩:=hV
 refine Wd.runx rfl rfl rfl rfl (AA (Ag underlying30 sizeOf32 rfl rfl d g5)) ?_
 intro w7 i2
 intro A7 q7
 refine Wd.runs (fp:=c) rfl rfl rfl rfl (Ad isAgg32 sizeOf32 rfl i2) (fun _ h=>h) ?_
 rintro E3⟨_,rfl,hu⟩
 obtain⟨I9,J1,rfl,a7,a8,e5,e6⟩:=cR_rep.1 hu
 replace hV:=hV a7 a8
 intro A8 q8
 refine Dm fun A9 q9=>?_
 obtain⟨g6,hV⟩:=hV
 refine Wd.runx rfl rfl rfl rfl (AA (Ag underlying30 sizeOf32 rfl rfl d g6)) ?_
 intro w8 i3
 intro B0 r0
 refine Wd.runs (fp:=c) rfl rfl rfl rfl (Ad isAgg32 sizeOf32 rfl i3) (fun _ h=>h) ?_
 rintro E4⟨_,rfl,hu⟩
 obtain⟨J2,J3,rfl,a9,b0,e7,e8⟩:=cR_rep.1 hu
 replace hV:=hV a9 b0
 intro B1 r1
 refine Wd.turn rfl rfl rfl fun w hS=>?_
 refine Rd call46 (Wz (a_2:=(ix a_2 (0:Int))) (b_9:=(ix a_2 (1:Int))) a7 a8 e5 e6 a9 b0 e7 e8 hS hV) ?_
 rintro _ w⟨D0,J4,J5,j7,hV,rfl,v2,u0,u1,l7,l8,hS⟩
 refine WL.nil (DQ.mk2 hS ⟨il,il,il,il,il,il,il,trivial⟩ ?_)
 refine Wd.turn rfl rfl rfl fun w hS=>?_
 replace hS:=hS.f2
 refine sE hS ?_
 intro w hS
 refine WL.nil (DQ.mk2 hS ⟨il,il,il,il,il,il,il,trivial⟩ ?_)
 refine Wd.nil fun w hS=>?_
 refine zz ?_
 exact vc
 exact Z
 exact Z
 exact Z
theorem Ada{f:Int}{d:Int}{Q:Int->Prop}(m:I64 f)(n:I64 d)(hS:St w0 H L w)(hV:Va f d Q):
 Cl 16 #[i6 f,i6 d] w (pI w0 H L Q):=by
 refine Co func16 ntmps16 ?_
 obtain⟨g,i,hV⟩:=hV
 iterate 3 refine z ?_
 refine WC.meet (fun a w=>∃c,g c/\I64 c/\St w0 H (L) w/\Fr 13 [(0,i6 c),(1,i6 d)] a) ?_ ?_
 rintro a w⟨c,hI,l,hS,ha⟩
 refine Ab ha ?_
 have hV:=i _ hI
 obtain⟨j,hV⟩:=hV
 refine zz ?_
 refine Rn hS (QW rfl rfl j) ?_
 refine zz ?_
 exact v1
 exact Z
theorem Uh{v_1:Val}{a:Value}{Q:Bool->Prop}(b:IsW H a v_1)(hS:St w0 H L w)(hV:Rb v_1 Q):
 Cl 123 #[.agg #[a]] w (pB w0 H L Q):=by
 refine BW func123 ntmps123 ?_
 refine zz ?_
 refine WL.box (arr:=#[a]) rfl rfl rfl hS ?_
 intro c w hS
 refine zz ?_
 refine Rn hS (Bk concrete86 rfl) ?_
 refine Rn hS (Xl rfl rfl b) ?_
 replace hS:=hS.drop
 refine zz ?_
 exact v1
theorem ZY{a_1:Val}{a:Value}{c:Val}{b:Value}{Q:Bool->Prop}(d:IsW H a a_1)(e:IsW H b c)(hS:St w0 H L w)(hV:Qt a_1 c Q):
 Cl 130 #[.agg #[a],.agg #[b]] w (pB w0 H L Q):=by
 refine Co func130 ntmps130 ?_
 refine zz ?_
 refine WL.box (arr:=#[a]) rfl rfl rfl hS ?_
 intro f w hS
 refine WL.box (arr:=#[b]) rfl rfl rfl hS ?_
 intro b_9 w hS
 replace hS:=hS.f2
 refine zz ?_
 refine Rn hS (Ac (cs:=[a]) isAgg25 sizeOf25 rfl rfl rfl) ?_
 replace hS:=hS.f2
 refine Rn hS (Ac (cs:=[b]) isAgg25 sizeOf25 rfl rfl rfl) ?_
 obtain⟨mf,hV⟩:=hV
 refine Rd call19 (Er mf d e hS hV) ?_
 rintro _ w⟨h,hV,rfl,g,hS⟩
 replace hS:=hS.f2.drop
 replace hS:=hS.drop
 refine zz ?_
 exact v1
theorem Oo{v_1:Val}{a:Value}{Q:Int->Bool->Prop}(b:IsW H a v_1)(hS:St w0 H L w)(hV:Mj v_1 Q):
 Cl 134 #[.agg #[a]] w fun e w'=>∃(r1:Int)(r2:Bool),Q r1 r2/\e=.returned (.tuple #[i6 r1,.bool r2])/\I64 r1/\St w0 H (L) w':=by
 refine BW func134 ntmps134 ?_
 refine zz ?_
 refine WL.box (arr:=#[a]) rfl rfl rfl hS ?_
 intro c w hS
 refine zz ?_
 refine Rn hS (Ja concrete87 zeroValue87 rfl b) ?_
 replace hS:=hS.drop
 refine zz ?_
 exact v2
theorem NS{a_1:Int}{a:Int}{Q:Val->Prop}(c:I64 a_1)(k:I64 a)(hS:St w0 H L w)(hV:FI a_1 a Q):
 Cl 144 #[i6 a_1,i6 a] w (pV w0 H L Q):=by
 refine Co func144 ntmps144 ?_
 refine zz ?_
 refine aV hS ?_
 intro f w hS
 refine zz ?_
 refine Ce hV ?_ ?_<;>intro j hV
 refine zz ?_
 refine Rn hS bV ?_
 refine sA hS ?_
 intro w hS
 refine zz ?_
 exact vc
 refine zz ?_
 refine Ce hV ?_ ?_<;>intro i hV
 refine zz ?_
 refine Rn hS (Kj rfl c) ?_
 refine Rd call100 (Cz (GA _ c) hS hV) ?_
 rintro _ w⟨n,p,d,hV,rfl,l,g,hS⟩
 refine sA hS ?_
 intro w hS
 refine zz ?_
 exact vc
 obtain⟨b,hV⟩:=hV
 refine zz ?_
 refine Rn hS (Ru rfl rfl b) ?_
 refine Rd call100 (Cz b.2 hS hV) ?_
 rintro _ w⟨o,q,e,hV,rfl,m,h,hS⟩
 refine sA hS ?_
 intro w hS
 refine zz ?_
 exact vc
theorem AcS{a_1:Int}{f:Int}{Q:Val->Prop}(a1:I64 a_1)(a2:I64 f)(hS:St w0 H L w)(hV:Qe a_1 f Q):
 Cl 146 #[i6 a_1,i6 f] w (pV w0 H L Q):=by
 refine Co func146 ntmps146 ?_
 refine zz ?_
 refine aV hS ?_
 intro g w hS
 refine zz ?_
 refine Ce hV ?_ ?_<;>intro U hV
 refine zz ?_
 refine Rn hS (Aq (vs:=[ns,i6 (1:Int)]) (zc:=#[ns,i6 0]) (cs:=#[ns,i6 (1:Int)]) (places:=#[(0,1),(1,1)]) underlying96 zeroValue96 (fun w=>by simp[sizeOf3,sizeOf42]) rfl ⟨rfl,rfl,trivial⟩ rfl Zf) ?_
 refine WL.box (arr:=#[ns,i6 (1:Int)]) rfl rfl rfl hS ?_
 intro i w hS
 refine Rn hS (Bk concrete93 rfl) ?_
 obtain⟨B,a5,O,hS⟩:∃K,View.le H K/\IsW K (.iface 93 ((pq i))) (Val.set ([]:List (Val)) (1:Int))/\St w0 K ([(g,oc #[.nilIface] 25)]++L) w:=⟨_,hS.put_le,IsW.mkset hS IsSl.nil (show I64 (1:Int) by unfold I64;omega),hS.freeze⟩
 refine Rn hS (Aq (vs:=[.iface 93 ((pq i))]) (zc:=#[.nilIface]) (cs:=#[.iface 93 ((pq i))]) (places:=#[(0,1)]) underlying25 zeroValue25 (fun w=>by simp[sizeOf23]) rfl ⟨rfl,trivial⟩ rfl (by simp[Instr.fill,Bs,Be,AW,AJ,AX,Br,BA,Dj])) ?_
 refine sA hS ?_
 intro w hS
 refine zz ?_
 exact vc
 refine zz ?_
 refine Rn hS (EH rfl rfl) ?_
 refine zz ?_
 refine Ce hV ?_ ?_<;>intro T hV
 refine zz ?_
 refine Rn hS bV ?_
 refine sA hS ?_
 intro w hS
 refine zz ?_
 exact vc
 obtain⟨W,hV⟩:=hV
 obtain⟨Y,hV⟩:=hV
 obtain⟨k,hV⟩:=hV
 refine zz ?_
 refine WL.makec (c:=cV) (z0:=Val.nil) rfl underlying42 info25 (BZ IsW.nil) rfl rfl k.1 k.2.1 k.2.2 hS ?_
 intro b2 w G P hS
 obtain⟨Z,hV⟩:=hV
 obtain⟨a0,hV⟩:=hV
 replace hS:=hS.f2
 obtain⟨p,x,I,hV⟩:=hV
 refine zz ?_
 refine WC.loop (σ:=(List (Val))×Int) (fun s a w=>∃b e d h j,s=(b,e)/\p (b,e)/\View.le H d/\OwnSl d cV 25 h b j/\I64 e/\St w0 d ([(g,oc #[.nilIface] 25)]++(j++L)) w/\Fr 43 [(0,i6 a_1),(4,(pq g)),(5,h),(29,i6 ((f-a_1)+(1:Int))),(30,i6 e)] a) x (([]:List (Val)),(0:Int)) ?_ ?_
 exact y
 rintro _ a w⟨b,e,d,h,j,rfl,hI,a7,m,a3,hS,ha⟩
 refine Ab ha ?_
 replace hV:=hV _ hI
 refine zz ?_
 refine Ce hV ?_ ?_<;>intro S hV
 obtain⟨u,hV⟩:=hV
 refine zz ?_
 refine Rd call100 (Cz u hS hV) ?_
 rintro _ w⟨o,l,A,hV,rfl,v,q,hS⟩
 refine WL.builds (c:=cV) (xs:=[o]) (vs:=[.agg #[l]]) (css:=[[l]]) rfl underlying42 info25 rfl ⟨rfl,trivial⟩ rfl (by decide) rfl (by simp;rfl) ⟨[l],_,rfl,(BZ q),rfl⟩ hS rfl (by decide) ?_
 intro b0 w E r hS
 obtain⟨n,hV⟩:=hV
 replace hS:=hS.f3
 refine WL.append (c:=cV) (xs:=b) (ys:=([o])) rfl underlying42 info25 rfl rfl rfl hS (m.mono v) (r.src hS.f2) n.1 n.2 ?_
 intro b1 w F J hS
 replace hS:=hS.f2.drop
 obtain⟨V,hV⟩:=hV
 replace hS:=hS.f2
 refine zz ?_
 exact y
 replace hS:=hS.f2
 refine zz ?_
 obtain⟨C,a4,t,hS⟩:∃K,View.le d K/\IsSl K cV h b/\St w0 K ([(g,oc #[.nilIface] 25)]++L) w:=⟨_,hS.put_le,m.share hS.put_le,hS.freeze⟩
 refine Rd call99 (IK t hS hV) ?_
 rintro _ w⟨a8,a9,D,hV,rfl,a6,N,hS⟩
 refine sA hS ?_
 intro w hS
 refine zz ?_
 exact vc
theorem Db{v_1:Val}{c:Value}{Q:(List Val)->Bool->Prop}(d:IsW H c v_1)(hS:St w0 H L w)(hV:Cu v_1 Q):
 Cl 150 #[.agg #[c]] w fun e w'=>∃(r1:List Val)(r2:Bool)(v1:Value)(H':View),Q r1 r2/\e=.returned (.tuple #[v1,.bool r2])/\View.le H H'/\IsSl H' cV v1 r1/\St w0 H' (L) w':=by
 refine BW func150 ntmps150 ?_
 refine zz ?_
 refine WL.box (arr:=#[c]) rfl rfl rfl hS ?_
 intro f w hS
 refine zz ?_
 refine Rx hS (Lt concrete93 zeroValue93 rfl d) ?_
 rintro _⟨i,rfl,g⟩
 replace hS:=hS.drop
 exact Z
theorem MH{v_1:Val}{b:Value}{Q:(List Val)->(List Val)->Bool->Prop}(h:IsW H b v_1)(hS:St w0 H L w)(hV:Ji v_1 Q):
 Cl 183 #[.agg #[b]] w fun e w'=>∃(r1:List Val)(r2:List Val)(r3:Bool)(v1:Value)(v2:Value)(H':View),Q r1 r2 r3/\e=.returned (.tuple #[v1,v2,.bool r3])/\View.le H H'/\IsSl H' cV v1 r1/\IsSl H' cV v2 r2/\St w0 H' (L) w':=by
 refine BW func183 ntmps183 ?_
 refine zz ?_
 refine WL.box (arr:=#[b]) rfl rfl rfl hS ?_
 intro k w hS
 refine zz ?_
 refine Rx hS (Ke concrete97 zeroValue97 rfl h) ?_
 rintro _⟨q,rfl,a⟩
 replace hS:=hS.drop
 refine zz ?_
 refine Cf hV ?_ ?_<;>intro l hV
 refine z ?_
 refine WC.quiet (C:=St w0 H (L)) mixed (by kernel_rfl) (hS.drawn _) (Rq ?_)
 obtain⟨c,hV⟩:=hV
 refine Rm (Cn rfl a c) ?_
 refine Wq.runx rfl rfl rfl (Hq underlying100 rfl sizeOf42 rfl rfl a c) ?_
 intro m i
 refine Wq.runx rfl rfl rfl (Bp isAgg42 rfl rfl i) ?_
 intro o f
 replace f:=Bq f
 refine Rq ?_
 obtain⟨d,hV⟩:=hV
 refine Rm (Cn rfl a d) ?_
 refine Wq.runx rfl rfl rfl (Hn underlying100 rfl sizeOf42 rfl rfl a d) ?_
 intro n j
 refine Wq.runx rfl rfl rfl (Bp isAgg42 rfl rfl j) ?_
 intro p g
 replace g:=Bq g
 iterate 3 refine Rq ?_
 refine Wq.nil fun w hS=>?_
 refine zz ?_
 exact v3
 refine zz ?_
 exact v3
theorem Ns{v_1:Val}{c:Value}{Q:(List Val)->Bool->Prop}(i:IsW H c v_1)(hS:St w0 H L w)(hV:Hm v_1 Q):
 Cl 175 #[.agg #[c]] w fun e w'=>∃(r1:List Val)(r2:Bool)(v1:Value)(H':View),Q r1 r2/\e=.returned (.tuple #[v1,.bool r2])/\View.le H H'/\IsSl H' cV v1 r1/\St w0 H' (L) w':=by
 refine BW func175 ntmps175 ?_
 have c1:=@Kk;have d1:=call209
 refine zz ?_
 refine WL.box (arr:=#[c]) rfl rfl rfl hS ?_
 intro l w hS
 refine zz ?_
 refine Rx hS (Ke concrete97 zeroValue97 rfl i) ?_
 rintro _⟨j,rfl,m⟩
 replace hS:=hS.drop
 obtain⟨f,g,hV⟩:=hV
 iterate 6 refine z ?_
 refine WC.meet (fun a w=>∃d,f d/\St w0 H (L) w/\Fr 24 [(4,j),(19,.bool d)] a) ?_ ?_
 rintro a w⟨d,hI,hS,ha⟩
 refine Ab ha ?_
 have hV:=g _ hI
 exact Z
 exact Z
theorem FJ{f:Value}{s_1:List Val}{a:Ar}{Q:(List Val)->Prop}(b:Bor H cV f s_1 a)(hS:St w0 H (a++L) w)(hV:Ed s_1 Q):
 Cl 154 #[f] w fun e w'=>∃(r1:List Val)(v1:Value)(fp1:Ar),Q r1/\e=.returned (v1)/\OwnSl H cV 25 v1 r1 fp1/\St w0 H (fp1++(a++L)) w':=by
 refine BW func154 ntmps154 ?_
 refine zz ?_
 refine Rx hS (Uy underlying42 rfl b) ?_
 rintro n⟨g,rfl,j⟩
 replace hV:=hV g j
 refine zz ?_
 refine Cf hV ?_ ?_<;>intro m hV
 replace hS:=hS.nilseg
 replace hS:=hS.f2.f2
 refine zz ?_
 exact v1
 refine zz ?_
 refine WL.build0 (α:=(Val)) (c:=cV) rfl underlying42 sizeOf25 hS ?_
 intro o w k h hS
 obtain⟨d,hV⟩:=hV
 replace hS:=hS.f2.f2
 refine R hS ?_
 refine WL.append (c:=cV) (xs:=([]:List (Val))) (ys:=s_1) rfl underlying42 info25 rfl rfl rfl hS h ((Bor.src b) hS.f2) d.1 d.2 ?_
 intro p w l i hS
 rw[List.nil_append] at i
 replace hS:=hS.f2.f2
 refine zz ?_
 exact v1
theorem AbN{f:Int}{Q:(List Val)->Prop}(t:I64 f)(hS:St w0 H L w)(hV:QT f Q):
 Cl 203 #[ns,i6 f] w fun e w'=>∃(r1:List Val)(v1:Value)(fp1:Ar),Q r1/\e=.returned (v1)/\OwnSl H cV 25 v1 r1 fp1/\St w0 H (fp1++L) w':=by
 refine Co func203 ntmps203 ?_
 refine zz ?_
 refine Ce hV ?_ ?_<;>intro q hV
 exact hV.elim
 obtain⟨i,j,hV⟩:=hV
 iterate 2 refine z ?_
 refine WC.meet (fun a w=>∃g h b,i g/\OwnSl H cV 25 h g b/\St w0 H (b++L) w/\Fr 27 [(0,h)] a) ?_ ?_
 rintro a w⟨g,h,b,hI,n,hS,ha⟩
 refine Ab ha ?_
 have hV:=j _ hI
 refine zz ?_
 exact v1
 refine zz ?_
 refine Rn hS (AP underlying42 rfl (OwnSl.nil (H:=H) (c:=cV) (T:=25))) ?_
 obtain⟨r,hV⟩:=hV
 obtain⟨s,hV⟩:=hV
 refine zz ?_
 refine Ce hV ?_ ?_<;>intro p hV
 obtain⟨d,hV⟩:=hV
 refine zz ?_
 refine WL.append0 (c:=cV) (z0:=Val.nil) rfl underlying42 underlying3 info25 (BZ IsW.nil) (by decide) rfl rfl d.1 d.2.1 d.2.2 hS ?_
 intro v w m k hS
 refine R hS ?_
 refine Rn hS (AP underlying42 rfl (OwnSl.nil (H:=H) (c:=cV) (T:=25))) ?_
 obtain⟨l,hV⟩:=hV
 refine Rx hS (GJ underlying42 sizeOf25 rfl rfl k l) ?_
 rintro x⟨o,u⟩
 refine zz ?_
 exact y
 replace hS:=hS.nilseg
 refine zz ?_
 exact y
theorem Lw{k:Value}{d:List (List Val)}{h:Ar}{Q:(List Val)->Prop}(b:IsSl H (Rt cV h) k d)(hS:St w0 H (h++L) w)(hV:GK d Q):
 Cl 161 #[k] w fun e w'=>∃(r1:List Val)(v1:Value)(fp1:Ar),Q r1/\e=.returned (v1)/\OwnSl H cV 25 v1 r1 fp1/\St w0 H (fp1++(h++L)) w':=by
 refine BW func161 ntmps161 ?_
 have x:=b.bound
 replace hV:=hV x
 refine zz ?_
 refine Rn hS (Ao underlying204 rfl b) ?_
 obtain⟨r,G,O,hV⟩:=hV
 refine zz ?_
 refine WC.loop (σ:=Int×Int) (fun s a w=>∃j g,s=(j,g)/\r (j,g)/\I64 j/\I64 g/\St w0 H (h++L) w/\Fr 36 [(0,k),(3,i6 j),(9,k),(10,i6 (d.length:Int)),(11,i6 g)] a) G ((0:Int),(0:Int)) ?_ ?_
 exact y
 rintro _ a w⟨j,g,rfl,hI,E,a1,hS,ha⟩
 refine Ab ha ?_
 replace hV:=hV _ hI
 refine zz ?_
 refine Ce hV ?_ ?_<;>intro U hV
 obtain⟨v,hV⟩:=hV
 refine zz ?_
 refine Rx hS (Au underlying204 sizeOf42 rfl rfl b v) ?_
 intro a3 D
 refine Rx hS (Bp isAgg42 rfl rfl D) ?_
 intro a5 l
 replace l:=TW l
 have A:Len (ix d g):=l.bound
 replace hV:=hV A
 refine zz ?_
 refine Rn hS (CN underlying42 rfl l) ?_
 obtain⟨Y,hV⟩:=hV
 refine zz ?_
 refine Ce hV ?_ ?_<;>intro V hV
 exact hV.elim
 obtain⟨Z,hV⟩:=hV
 refine zz ?_
 exact y
 refine zz ?_
 refine Rd call203 (AbN E hS hV) ?_
 rintro _ w⟨I,a7,K,hV,rfl,S,hS⟩
 have B:=b.bound
 replace hV:=hV B
 refine zz ?_
 refine Rn hS (Ao underlying204 rfl b) ?_
 replace hS:=hS.f2.f2
 obtain⟨q,F,N,hV⟩:=hV
 refine zz ?_
 refine WC.loop (σ:=(List (Val))×Int) (fun s a w=>∃i f o m,s=(i,f)/\q (i,f)/\OwnSl H cV 25 o i m/\I64 f/\St w0 H (m++(h++L)) w/\Fr 36 [(6,o),(25,k),(26,i6 (d.length:Int)),(27,i6 f)] a) F (I,(0:Int)) ?_ ?_
 exact y
 rintro _ a w⟨i,f,o,m,rfl,hI,t,a0,hS,ha⟩
 refine Ab ha ?_
 replace hV:=hV _ hI
 refine zz ?_
 refine Ce hV ?_ ?_<;>intro T hV
 obtain⟨u,hV⟩:=hV
 refine zz ?_
 refine Rx hS (Au underlying204 sizeOf42 rfl rfl b u) ?_
 intro a2 C
 refine Rx hS (Bp isAgg42 rfl rfl C) ?_
 intro a4 n
 replace n:=TW n
 obtain⟨p,hV⟩:=hV
 replace hS:=hS.f2.f2
 refine zz ?_
 refine WL.append (c:=cV) (xs:=i) (ys:=(ix d f)) rfl underlying42 info25 rfl rfl rfl hS t ((Bor.src n) hS.f2) p.1 p.2 ?_
 intro a6 w J P hS
 obtain⟨W,hV⟩:=hV
 replace hS:=hS.f2.f2
 refine zz ?_
 exact y
 replace hS:=hS.f2.f2
 refine zz ?_
 exact v1
theorem UP{m:Value}{i:List Val}{t:Val}{c:Value}{Q:Int->Bool->Prop}(j:IsSl H cV m i)(o:IsW H c t)(hS:St w0 H L w)(hV:Ov i t Q):
 Cl 201 #[m,.agg #[c],.func (.func 19) #[] #[]] w fun e w'=>∃(r1:Int)(r2:Bool),Q r1 r2/\e=.returned (.tuple #[i6 r1,.bool r2])/\I64 r1/\St w0 H (L) w':=by
 refine Li func201 ntmps201 ?_
 refine zz ?_
 refine WL.box (arr:=#[c]) rfl rfl rfl hS ?_
 intro b_8 w hS
 have O:=j.bound
 replace hV:=hV O
 refine zz ?_
 refine Rn hS (Ao underlying42 rfl j) ?_
 obtain⟨x,U,Y,hV⟩:=hV
 refine zz ?_
 refine WC.loop (σ:=Int×Int) (fun s a w=>∃f g,s=(f,g)/\x (f,g)/\I64 f/\I64 g/\St w0 H ([(b_8,oc #[c] 25)]++L) w/\Fr 49 [(0,m),(2,.func (.func 19) #[] #[]),(4,(pq b_8)),(8,i6 (i.length:Int)),(9,i6 f),(10,i6 g)] a) U ((0:Int),(i.length:Int)) ?_ ?_
 exact y
 rintro _ a w⟨f,g,rfl,hI,b2,b3,hS,ha⟩
 refine Ab ha ?_
 replace hV:=hV _ hI
 refine zz ?_
 refine Ce hV ?_ ?_<;>intro a0 hV
 obtain⟨a1,hV⟩:=hV
 refine zz ?_
 refine Rn hS (Gm (q:=1) rfl rfl (Ec _ _) (by decide)) ?_
 iterate 4 refine z ?_
 refine WC.drawn (σ:=[0,1,2,3,4,5,6,7]) [[],[],[],[1,2],[1,2,3],[],[0,1,2,3,4,5],[0,1,2,3,4,5,6]] [6] mixed (by kernel_rfl) (hS.drawn _) ?_
 refine Dm fun b8 a3=>?_
 refine Dm fun b9 a4=>?_
 refine Dm fun c0 a5=>?_
 obtain⟨N,hV⟩:=hV
 refine Wd.runx rfl rfl rfl rfl (AA (Au underlying42 sizeOf25 rfl rfl j N)) ?_
 intro b5 S
 intro c1 a6
 refine Wd.runs (fp:=([]:Ar)) (L:=[(b_8,oc #[c] 25)]++L) rfl rfl rfl rfl (AT isAgg25 sizeOf25 rfl S) (fun _ h=>h) ?_
 rintro c5⟨_,rfl,hu⟩
 obtain⟨W,rfl,F⟩:=Aw hu
 intro c2 a7
 refine Wd.runbs (off:=0) (k:=1) (cs:=[c]) rfl rfl rfl rfl (fun _ _ _ h=>Ac isAgg25 sizeOf25 rfl h rfl) rfl (fun _ h=>h) fun b6 a8=>?_
 refine Wd.turn rfl rfl rfl fun w hS=>?_
 obtain⟨mf,hV⟩:=hV
 refine Rc (As (vs:=[.agg #[W],.agg #[c]]) (caps:=[]) rfl call19 ⟨rfl,rfl,trivial⟩) (Er mf F o hS hV) ?_
 rintro _ w⟨c3,hV,rfl,a9,hS⟩
 refine⟨_,rfl,?_⟩
 refine WL.nil (DQ.mk2 hS ⟨il,il,il,il,il,il,trivial⟩ ?_)
 refine Wd.run rfl rfl rfl rfl (fun _=>JE rfl rfl) fun b7 a2=>?_
 refine Wd.nil fun w hS=>?_
 refine zz ?_
 exact Z
 obtain⟨A,B,hV⟩:=hV
 iterate 5 refine z ?_
 refine WC.meet (fun a w=>∃l n,A (l,n)/\I64 l/\St w0 H (L) w/\Fr 49 [(6,i6 l),(7,.bool n)] a) ?_ ?_
 rintro a w⟨l,n,hI,b0,hS,ha⟩
 refine Ab ha ?_
 have hV:=B _ hI
 refine zz ?_
 exact v2
 refine WC.quiet (C:=St w0 H ([(b_8,oc #[c] 25)]++L)) mixed (by kernel_rfl) (hS.drawn _) ?_
 iterate 5 refine Rq ?_
 rcases DG (decide (f<(i.length:Int))) with d|d
 replace hV:=hV.1 (od d)
 iterate 3 refine Rq ?_
 refine Uq d ?_
 obtain⟨G,hV⟩:=hV
 refine Wq.runx rfl rfl rfl (Au underlying42 sizeOf25 rfl rfl j G) ?_
 intro b4 P
 refine Uq d ?_
 refine Wq.runx rfl rfl rfl (AE isAgg25 sizeOf25 rfl P) ?_
 rintro c4⟨_,rfl,hu⟩
 obtain⟨V,rfl,D⟩:=Aw hu
 refine Uq d ?_
 refine Rm (Ac (cs:=[c]) isAgg25 sizeOf25 rfl rfl rfl) ?_
 refine Uq d ?_
 obtain⟨T,r,E,b1,hV⟩:=hV
 refine Wq.call (v:=i6 r) rfl rfl rfl (fun w=>As (vs:=[.agg #[V],.agg #[c]]) (caps:=[]) rfl call19 ⟨rfl,rfl,trivial⟩) (fun w hS=>(Er T (Q:=fun y0=>y0=r) D o hS E).mono ?_) ?_
 rintro e w'⟨_,rfl,he,_,hS⟩
 exact⟨he,hS⟩
 iterate 4 refine Rq ?_
 refine Wq.nil fun w hS=>?_
 replace hS:=hS.drop
 exact y
 replace hV:=hV.2 (ov d)
 iterate 11 refine Rq ?_
 refine Wq.nil fun w hS=>?_
 replace hS:=hS.drop
 exact y
theorem Vz{c:Value}{b:List Val}{v_4:Val}{a:Value}{Q:Bool->Prop}(d:IsSl H cV c b)(e:IsW H a v_4)(hS:St w0 H L w)(hV:Of b v_4 Q):
 Cl 156 #[c,.agg #[a]] w (pB w0 H L Q):=by
 refine Co func156 ntmps156 ?_
 refine zz ?_
 refine WL.box (arr:=#[a]) rfl rfl rfl hS ?_
 intro f w hS
 refine zz ?_
 refine Rn hS (Ac (cs:=[a]) isAgg25 sizeOf25 rfl rfl rfl) ?_
 refine Rd call201 (UP d e hS hV) ?_
 rintro _ w⟨i,h,hV,rfl,g,hS⟩
 replace hS:=hS.drop
 refine zz ?_
 exact v1
theorem Xn{j:Value}{i:List Val}{Q:Val->Prop}(n:IsSl H cV j i)(hS:St w0 H L w)(hV:Jj i Q):
 Cl 168 #[j] w (pV w0 H L Q):=by
 refine BW func168 ntmps168 ?_
 have c1:=@Db;have d1:=call150
 have c2:=@HA;have d2:=call60
 refine zz ?_
 refine aV hS ?_
 intro m w hS
 have r:=n.bound
 replace hV:=hV r
 refine zz ?_
 refine Rn hS (Ao underlying42 rfl n) ?_
 replace hS:=hS.nilseg
 replace hS:=hS.f2
 obtain⟨o,t,x,hV⟩:=hV
 refine zz ?_
 refine WC.loop (σ:=(List (Val))×Int) (fun s a w=>∃f c d l g,s=(f,c)/\o (f,c)/\View.le H d/\OwnSl d cV 25 l f g/\I64 c/\St w0 d ([(m,oc #[.nilIface] 25)]++(g++L)) w/\Fr 28 [(2,(pq m)),(3,l),(8,j),(9,i6 (i.length:Int)),(10,i6 c)] a) t (([]:List (Val)),(0:Int)) ?_ ?_
 exact y
 rintro _ a w⟨f,c,d,l,g,rfl,hI,C,A,B,hS,ha⟩
 refine Ab ha ?_
 replace hV:=hV _ hI
 exact Z
theorem Uc{i:Value}{d:List Val}{Q:Val->Prop}(h:IsSl H cV i d)(hS:St w0 H L w)(hV:Hk d Q):
 Cl 169 #[i] w (pV w0 H L Q):=by
 refine BW func169 ntmps169 ?_
 refine zz ?_
 refine aV hS ?_
 intro g w hS
 have Z:=h.bound
 replace hV:=hV Z
 refine zz ?_
 refine Rn hS (Ao underlying42 rfl h) ?_
 refine zz ?_
 refine Ce hV ?_ ?_<;>intro c4 hV
 refine zz ?_
 refine Rn hS bV ?_
 refine sA hS ?_
 intro w hS
 refine zz ?_
 exact vc
 have Y:=h.bound
 replace hV:=hV Y
 refine zz ?_
 refine Rn hS (Ao underlying42 rfl h) ?_
 obtain⟨T,hV⟩:=hV
 refine Rn hS (Aau rfl rfl T) ?_
 replace hS:=hS.nilseg
 replace hS:=hS.f2
 obtain⟨E,a5,b6,hV⟩:=hV
 refine zz ?_
 refine WC.loop (σ:=(List (Val))×Int) (fun s a w=>∃l e b m j,s=(l,e)/\E (l,e)/\View.le H b/\OwnSl b cV 25 m l j/\I64 e/\St w0 b ([(g,oc #[.nilIface] 25)]++(j++L)) w/\Fr 43 [(0,i),(2,(pq g)),(3,m),(14,i6 (((1:Int):Int)* 2^(d.length:Int).toNat)),(15,i6 e)] a) a5 (([]:List (Val)),(0:Int)) ?_ ?_
 exact y
 rintro _ a w⟨l,e,b,m,j,rfl,hI,r,x,a2,hS,ha⟩
 refine Ab ha ?_
 replace hV:=hV _ hI
 refine zz ?_
 refine Ce hV ?_ ?_<;>intro c3 hV
 have a0:=(h.mono r).bound
 replace hV:=hV a0
 refine zz ?_
 refine Rn hS (Ao underlying42 rfl (h.mono r)) ?_
 replace hS:=hS.nilseg
 replace hS:=hS.f3.f3
 obtain⟨F,a6,b5,hV⟩:=hV
 refine zz ?_
 refine WC.loop (σ:=(List (Val))×Int) (fun s a w=>∃k f o p,s=(k,f)/\F (k,f)/\OwnSl b cV 25 o k p/\I64 f/\St w0 b ([(g,oc #[.nilIface] 25)]++(j++(p++L))) w/\Fr 43 [(0,i),(2,(pq g)),(3,m),(4,i6 e),(5,o),(14,i6 (((1:Int):Int)* 2^(d.length:Int).toNat)),(15,i6 e),(18,i),(19,i6 (d.length:Int)),(20,i6 f)] a) a6 (([]:List (Val)),(0:Int)) ?_ ?_
 exact y
 rintro _ a w⟨k,f,o,p,rfl,hI,A,c7,hS,ha⟩
 refine Ab ha ?_
 replace hV:=hV _ hI
 refine zz ?_
 refine Ce hV ?_ ?_<;>intro c2 hV
 obtain⟨G,I,hV⟩:=hV
 iterate 2 refine z ?_
 refine WC.meet (fun a w=>∃t v q,G t/\OwnSl b cV 25 v t q/\St w0 b ([(g,oc #[.nilIface] 25)]++(j++(q++L))) w/\Fr 43 [(0,i),(2,(pq g)),(3,m),(4,i6 e),(5,v),(14,i6 (((1:Int):Int)* 2^(d.length:Int).toNat)),(15,i6 e),(18,i),(19,i6 (d.length:Int)),(20,i6 f)] a) ?_ ?_
 rintro a w⟨t,v,q,hI,b7,hS,ha⟩
 refine Ab ha ?_
 have hV:=I _ hI
 obtain⟨c5,hV⟩:=hV
 replace hS:=hS.f3.f3.f3
 refine zz ?_
 exact y
 obtain⟨W,hV⟩:=hV
 refine zz ?_
 refine Rx hS (Au underlying42 sizeOf25 rfl rfl (h.mono r) W) ?_
 intro c9 a1
 refine Rx hS (AE isAgg25 sizeOf25 rfl a1) ?_
 rintro d1⟨_,rfl,hu⟩
 obtain⟨n,rfl,J⟩:=Aw hu
 refine aV hS ?_
 intro b0 w hS
 refine R hS ?_
 refine sA hS ?_
 intro w hS
 obtain⟨U,hV⟩:=hV
 refine zz ?_
 refine Rn hS (Aay rfl rfl U) ?_
 obtain⟨V,hV⟩:=hV
 refine Rn hS (Adl rfl rfl (I64.fdiv2 a2) V) ?_
 refine zz ?_
 refine Ce hV ?_ ?_<;>intro c1 hV
 refine zz ?_
 refine Rn hS (Ac (cs:=[n]) isAgg25 sizeOf25 rfl rfl rfl) ?_
 refine WL.builds (c:=cV) (xs:=[(ix d f)]) (vs:=[.agg #[n]]) (css:=[[n]]) rfl underlying42 info25 rfl ⟨rfl,trivial⟩ rfl (by decide) rfl (by simp;rfl) ⟨[n],_,rfl,(BZ J),rfl⟩ hS rfl (by decide) ?_
 intro d3 w b1 N hS
 obtain⟨B,hV⟩:=hV
 replace hS:=hS.f5
 refine WL.append (c:=cV) (xs:=k) (ys:=([(ix d f)])) rfl underlying42 info25 rfl rfl rfl hS A (N.src hS.f2) B.1 B.2 ?_
 intro d4 w b2 b8 hS
 replace hS:=hS.f2.drop
 replace hS:=hS.f2.drop
 replace hS:=hS.f3.f3
 refine zz ?_
 exact y
 replace hS:=hS.drop
 replace hS:=hS.f3.f3.f3
 refine zz ?_
 exact y
 replace hS:=hS.f3
 refine zz ?_
 obtain⟨a7,a3,O,hS⟩:∃K,View.le b K/\IsSl K cV o k/\St w0 K ([(g,oc #[.nilIface] 25)]++(j++L)) w:=⟨_,hS.put_le,A.share hS.put_le,hS.freeze⟩
 refine Rd call99 (IK O hS hV) ?_
 rintro _ w⟨D,u,a8,hV,rfl,a4,P,hS⟩
 refine WL.builds (c:=cV) (xs:=[D]) (vs:=[.agg #[u]]) (css:=[[u]]) rfl underlying42 info25 rfl ⟨rfl,trivial⟩ rfl (by decide) rfl (by simp;rfl) ⟨[u],_,rfl,(BZ P),rfl⟩ hS rfl (by decide) ?_
 intro d5 w b3 S hS
 obtain⟨C,hV⟩:=hV
 replace hS:=hS.f3
 refine WL.append (c:=cV) (xs:=l) (ys:=([D])) rfl underlying42 info25 rfl rfl rfl hS ((x.mono a3).mono a4) (S.src hS.f2) C.1 C.2 ?_
 intro d6 w b4 b9 hS
 replace hS:=hS.f2.drop
 obtain⟨c6,hV⟩:=hV
 replace hS:=hS.f2
 refine zz ?_
 exact y
 replace hS:=hS.f2
 refine zz ?_
 refine Rd call60 (HA x hS hV) ?_
 rintro _ w⟨d0,d2,a9,hV,rfl,c8,c0,hS⟩
 refine sA hS ?_
 intro w hS
 refine zz ?_
 exact vc
end Go.Proofs.YtlhkfkecoekoeaaGreatDoor
