/- Part F of the proof: walks. No condition beyond those that each theorem names. -/
import Derived.Test.YtlhkfkecoekoeaaGreatDoorGE
set_option linter.unusedVariables false
set_option linter.unusedSimpArgs false
set_option maxRecDepth 100000
set_option maxHeartbeats 1000000
namespace Go.Proofs.YtlhkfkecoekoeaaGreatDoor
open Go.Vc _root_.Go.Proofs.Tryz _root_.Go.Proofs.YtlhkfkecoekoeaaGreatDoor.Tryz
variable{w0:World}{H:View}{L:Ar}{w:World}
theorem Lr{G:Aa->Int->Int->Int->Int->Bool->(RV->Int->Int->Int->Int->Bool->Prop)->Prop}(hG:Yf G){g:Nat}{j:Aa}{T:Int}{r:Int}{a2:Int}{V:Int}{F:Bool}{x:Aa}{a5:Int}{A:Bool}{Q:(List RV)->(List RV)->Int->Int->Int->Int->Bool->Prop}(j3:I64 T)(j9:I64 r)(i7:I64 a2)(i8:I64 V)(i9:I64 a5)(hS:St w0 H ([(g,oc #[sv j,i6 T,i6 r,i6 a2,i6 V,.bool F] 67)]++L) w)(hV:Fv G j T r a2 V F x a5 A Q):
 Cl 69 #[(pq g),sv x,i6 a5,.bool A] w fun e w'=>∃(r1:List RV)(r2:List RV)(r3:Int)(r4:Int)(r5:Int)(r6:Int)(r7:Bool)(v1:Value)(fp1:Ar)(v2:Value)(fp2:Ar)(H':View),Q r1 r2 r3 r4 r5 r6 r7/\e=.returned (.tuple #[v1,v2])/\View.le H H'/\OwnSl H' cR 32 v1 r1 fp1/\OwnSl H' cR 32 v2 r2 fp2/\I64 r3/\I64 r4/\I64 r5/\I64 r6/\St w0 H' (fp1++(fp2++([(g,oc #[sv j,i6 r3,i6 r4,i6 r5,i6 r6,.bool r7] 67)]++L))) w':=by
 refine En4 func69 ntmps69 ?_
 have c1:=@VQ;have d1:=call110
 have c2:=@IS;have d2:=call68
 have c3:=@Ey;have d3:=call28
 obtain⟨i4,hV⟩:=hV
 refine zz ?_
 refine Ee #[sv j,i6 T,i6 (r+(1:Int)),i6 a2,i6 V,.bool F] sizeOf3 hS ?_
 intro w hS
 obtain⟨c7,d5,hV⟩:=hV
 refine z ?_
 refine WC.meet (fun a w=>∃C D,c7 (C,D)/\I64 C/\I64 D/\St w0 H ([(g,oc #[sv j,i6 T,i6 (r+(1:Int)),i6 C,i6 D,.bool F] 67)]++L) w/\Fr 84 [(0,(pq g)),(1,sv x),(2,i6 a5),(3,.bool A),(10,ns),(11,ns)] a) ?_ ?_
 rintro a w⟨C,D,hI,j0,j1,hS,ha⟩
 refine Ab ha ?_
 have hV:=d5 _ hI
 obtain⟨c9,d7,hV⟩:=hV
 iterate 3 refine z ?_
 refine WC.meet (fun a w=>∃O b2,c9 (O,b2)/\I64 O/\St w0 H ([(g,oc #[sv j,i6 O,i6 (r+(1:Int)),i6 C,i6 D,.bool F] 67)]++L) w/\Fr 84 [(0,(pq g)),(1,sv x),(3,.bool A),(10,ns),(11,ns),(12,.bool b2)] a) ?_ ?_
 rintro a w⟨O,b2,hI,j2,hS,ha⟩
 refine Ab ha ?_
 have hV:=d7 _ hI
 replace hS:=hS.nilseg
 replace hS:=hS.nilseg
 replace hS:=hS.f2.f3
 obtain⟨c6,h0,h8,hV⟩:=hV
 refine zz ?_
 refine WC.loop (σ:=Int×Int×Int×Int×Bool×(List RV)×(List RV)×Bool) (fun s a w=>∃l m n o E P S N B a6 a3 a7 a4,s=(l,m,n,o,E,P,S,N)/\c6 (l,m,n,o,E,P,S,N)/\View.le H B/\I64 l/\I64 m/\I64 n/\I64 o/\OwnSl B cR 32 a6 P a3/\OwnSl B cR 32 a7 S a4/\St w0 B ([(g,oc #[sv j,i6 l,i6 m,i6 n,i6 o,.bool E] 67)]++(a3++(a4++L))) w/\Fr 84 [(0,(pq g)),(1,sv x),(3,.bool A),(10,a6),(11,a7),(12,.bool N)] a) h0 (O,(r+(1:Int)),C,D,F,([]:List RV),([]:List RV),b2) ?_ ?_
 exact y
 rintro _ a w⟨l,m,n,o,E,P,S,N,B,a6,a3,a7,a4,rfl,hI,k0,e7,e8,e9,f0,d9,e0,hS,ha⟩
 refine Ab ha ?_
 replace hV:=hV _ hI
 obtain⟨c8,d6,hV⟩:=hV
 refine z ?_
 refine WC.meet (fun a w=>∃b7,c8 b7/\St w0 B ([(g,oc #[sv j,i6 l,i6 m,i6 n,i6 o,.bool E] 67)]++(a3++(a4++L))) w/\Fr 84 [(0,(pq g)),(1,sv x),(3,.bool A),(10,a6),(11,a7),(12,.bool N),(51,.bool b7)] a) ?_ ?_
 rintro a w⟨b7,hI,hS,ha⟩
 refine Ab ha ?_
 have hV:=d6 _ hI
 refine Cf hV ?_ ?_<;>intro i3 hV
 refine zz ?_
 refine Rd call26 (hG e7 e8 e9 f0 hS hV) ?_
 rintro _ w⟨d,k2,k3,k4,k5,k6,a8,a9,c5,hV,rfl,c4,f1,f6,e1,e2,f7,b8,f8,f9,hS⟩
 refine aR hS ?_
 intro h3 w hS
 refine sE hS ?_
 intro w hS
 refine zz ?_
 refine Rn hS (Ac (cs:=[i6 d.k,i6 d.i,sv d.t,a8,a9]) isAgg32 sizeOf32 rfl rfl rfl) ?_
 refine WL.builds (c:=cR) (xs:=[d]) (vs:=[.agg #[i6 d.k,i6 d.i,sv d.t,a8,a9]]) (css:=[[i6 d.k,i6 d.i,sv d.t,a8,a9]]) rfl underlying30 info32 rfl ⟨rfl,trivial⟩ rfl (by decide) rfl (by simp;rfl) ⟨[i6 d.k,i6 d.i,sv d.t,a8,a9],_,rfl,(cR_rep.2 ⟨_,_,rfl,f1,f6,e1,e2⟩),rfl⟩ hS rfl (by decide) ?_
 intro l7 w h5 e3 hS
 obtain⟨b9,hV⟩:=hV
 replace hS:=hS.f4
 refine WL.append (c:=cR) (xs:=P) (ys:=([d])) rfl underlying30 info32 rfl rfl rfl hS (d9.mono c4) (e3.src hS.f2) b9.1 b9.2 ?_
 intro h1 w d4 h9 hS
 replace hS:=hS.f3.drop
 replace hS:=hS.f2.drop
 obtain⟨d0,d8,hV⟩:=hV
 iterate 2 refine z ?_
 refine WC.meet (fun a w=>∃W Y a0 a1 b3 b6 U b5 b4,d0 (W,Y,a0,a1,b3,b6)/\View.le c5 U/\I64 W/\I64 Y/\I64 a0/\I64 a1/\OwnSl U cR 32 b5 b6 b4/\St w0 U ([(g,oc #[sv j,i6 W,i6 Y,i6 a0,i6 a1,.bool b3] 67)]++(d4++(b4++L))) w/\Fr 84 [(0,(pq g)),(1,sv x),(3,.bool A),(10,h1),(11,b5),(12,.bool N)] a) ?_ ?_
 rintro a w⟨W,Y,a0,a1,b3,b6,U,b5,b4,hI,k1,g0,g1,g2,g3,i0,hS,ha⟩
 refine Ab ha ?_
 have hV:=d8 _ hI
 refine zz ?_
 refine Rd call68 (IS g0 g1 g2 g3 hS hV) ?_
 rintro _ w⟨l5,l6,hV,rfl,j8,hS⟩
 exact Z
 refine zz ?_
 refine Cf hV ?_ ?_<;>intro i2 hV
 replace hS:=hS.f2
 refine zz ?_
 refine Rd call110 (VQ f7 b8 f8 f9 hS hV) ?_
 rintro _ w⟨k7,k8,k9,hV,rfl,g4,g5,g6,hS⟩
 refine zz ?_
 refine Rd call26 (hG g4 b8 g5 g6 hS hV) ?_
 rintro _ w⟨f,l0,l1,l2,l3,l4,b0,b1,h2,hV,rfl,g9,g7,g8,e4,e5,j4,j5,j6,j7,hS⟩
 refine aR hS ?_
 intro h4 w hS
 refine sE hS ?_
 intro w hS
 refine zz ?_
 refine Rn hS (Ac (cs:=[i6 f.k,i6 f.i,sv f.t,b0,b1]) isAgg32 sizeOf32 rfl rfl rfl) ?_
 refine WL.builds (c:=cR) (xs:=[f]) (vs:=[.agg #[i6 f.k,i6 f.i,sv f.t,b0,b1]]) (css:=[[i6 f.k,i6 f.i,sv f.t,b0,b1]]) rfl underlying30 info32 rfl ⟨rfl,trivial⟩ rfl (by decide) rfl (by simp;rfl) ⟨[i6 f.k,i6 f.i,sv f.t,b0,b1],_,rfl,(cR_rep.2 ⟨_,_,rfl,g7,g8,e4,e5⟩),rfl⟩ hS rfl (by decide) ?_
 intro l8 w h6 e6 hS
 obtain⟨c0,hV⟩:=hV
 replace hS:=hS.f5
 refine WL.append (c:=cR) (xs:=S) (ys:=([f])) rfl underlying30 info32 rfl rfl rfl hS ((e0.mono c4).mono g9) (e6.src hS.f2) c0.1 c0.2 ?_
 intro l9 w h7 i1 hS
 replace hS:=hS.f2.drop
 replace hS:=hS.f2.drop
 replace hS:=hS.f3.f3
 refine zz ?_
 exact y
 replace hS:=hS.f3.f2.f3
 refine zz ?_
 exact y
 obtain⟨i5,hV⟩:=hV
 refine zz ?_
 refine Ee #[sv j,i6 l,i6 (m-(1:Int)),i6 n,i6 o,.bool E] sizeOf3 hS ?_
 intro w hS
 replace hS:=hS.f3.f3
 refine zz ?_
 exact v2
 exact Z
 exact Z
 exact Z
theorem YE(m0:Nat):∀{w0:World}{H:View}{L:Ar}{w:World}{d:Nat}{f:Aa}{l:Int}{h:Int}{j:Int}{g:Int}{m:Bool}{Q:RV->Int->Int->Int->Int->Bool->Prop}(q:I64 l)(c:I64 h)(a:I64 j)(b:I64 g)(hS:St w0 H ([(d,oc #[sv f,i6 l,i6 h,i6 j,i6 g,.bool m] 67)]++L) w)(hV:EI m0 f l h j g m Q),
 Cl 26 #[(pq d)] w fun e w'=>∃(r1:RV)(r2:Int)(r3:Int)(r4:Int)(r5:Int)(r6:Bool)(u1:Value)(w1:Value)(H':View),Q r1 r2 r3 r4 r5 r6/\e=.returned (.agg #[i6 r1.k,i6 r1.i,sv r1.t,u1,w1])/\View.le H H'/\I64 r1.k/\I64 r1.i/\IsSl H' cR u1 r1.ks/\IsSl H' cR w1 r1.vs/\I64 r2/\I64 r3/\I64 r4/\I64 r5/\St w0 H' ([(d,oc #[sv f,i6 r2,i6 r3,i6 r4,i6 r5,.bool r6] 67)]++L) w':=by
 induction m0 with
 |zero=>intro w0 H L w d f l h j g m Q q c a b hS hV;exact hV.elim
 |succ m0 ih=>
  intro w0 H L w d f l h j g m Q q c a b hS hV
  unfold EI at hV
  refine BW func26 ntmps26 ?_
  refine zz ?_
  refine aR hS ?_
  intro r w hS
  replace hS:=hS.f2
  refine zz ?_
  refine Rd call27 (Qd q c a b hS hV) ?_
  rintro _ w⟨j6,hV,rfl,a8,hS⟩
  refine zz ?_
  refine Ce hV ?_ ?_<;>intro g6 hV
  refine zz ?_
  refine Rn hS bR ?_
  replace hS:=hS.f2
  refine sE hS ?_
  intro w hS
  refine zz ?_
  exact vc
  refine zz ?_
  refine Rd call68 (IS a8 c a b hS hV) ?_
  rintro _ w⟨k1,k2,hV,rfl,u,hS⟩
  refine zz ?_
  refine Cf hV ?_ ?_<;>intro g5 hV
  refine zz ?_
  refine Rd call69 (Lr (@ih) u c a b i0 hS hV) ?_
  rintro _ w⟨k3,k4,k5,k6,k7,k8,k9,m8,e5,m9,e6,d7,hV,rfl,i5,V,f8,a9,b0,b1,b2,hS⟩
  replace hS:=hS.f2.drop
  refine zz ?_
  refine Rd call36 (EO (OwnSl.bor V) hS hV) ?_
  rintro _ w⟨o,c9,d0,d8,hV,rfl,i7,b3,b4,W,Y,hS⟩
  refine aR hS ?_
  intro e3 w hS
  refine sE hS ?_
  intro w hS
  replace hS:=hS.f2.drop
  refine zz ?_
  refine Rn hS (Ac (cs:=[i6 o.k,i6 o.i,sv o.t,c9,d0]) isAgg32 sizeOf32 rfl rfl rfl) ?_
  replace hS:=hS.f2
  refine Rd call70 (NW (v_14:=o) a9 b0 b1 b2 b3 b4 W Y hS hV) ?_
  rintro _ w⟨l0,l1,n0,n1,d9,hV,rfl,i8,h6,h7,f9,g0,hS⟩
  replace hS:=hS.f3
  refine sE hS ?_
  intro w hS
  replace hS:=hS.f3.drop
  refine zz ?_
  exact vc
  refine zz ?_
  refine Rd call68 (IS u c a b hS hV) ?_
  rintro _ w⟨l2,l3,hV,rfl,v,hS⟩
  refine zz ?_
  refine Cf hV ?_ ?_<;>intro g4 hV
  refine zz ?_
  refine Rd call69 (Lr (@ih) v c a b i0 hS hV) ?_
  rintro _ w⟨l4,l5,l6,l7,l8,l9,m1,n2,e7,n3,e8,e0,hV,rfl,i9,Z,g1,b5,b6,b7,b8,hS⟩
  replace hS:=hS.f2.drop
  refine zz ?_
  refine Rd call37 (Hc (OwnSl.bor Z) hS hV) ?_
  rintro _ w⟨p,c3,c4,d1,hV,rfl,h8,a0,a1,I,J,hS⟩
  refine aR hS ?_
  intro e1 w hS
  refine sE hS ?_
  intro w hS
  replace hS:=hS.f2.drop
  refine zz ?_
  refine Rn hS (Ac (cs:=[i6 p.k,i6 p.i,sv p.t,c3,c4]) isAgg32 sizeOf32 rfl rfl rfl) ?_
  replace hS:=hS.f2
  refine Rd call70 (NW (v_14:=p) b5 b6 b7 b8 a0 a1 I J hS hV) ?_
  rintro _ w⟨j0,j1,m2,m3,d2,hV,rfl,h9,g7,g8,e9,f0,hS⟩
  replace hS:=hS.f3
  refine sE hS ?_
  intro w hS
  replace hS:=hS.f3.drop
  refine zz ?_
  exact vc
  refine zz ?_
  refine Rd call68 (IS v c a b hS hV) ?_
  rintro _ w⟨j2,j3,hV,rfl,s,hS⟩
  refine zz ?_
  refine Cf hV ?_ ?_<;>intro g3 hV
  refine zz ?_
  refine Rd call69 (Lr (@ih) s c a b (show I64 (1:Int) by unfold I64;omega) hS hV) ?_
  rintro _ w⟨c1,c2,x,A,B,C,D,c5,e4,c6,G,E,hV,rfl,i1,N,O,a2,a3,a4,a5,hS⟩
  replace hS:=hS.f3
  refine zz ?_
  refine Ce hV ?_ ?_<;>intro g2 hV
  refine zz ?_
  refine Rn hS bR ?_
  replace hS:=hS.f4
  refine sE hS ?_
  intro w hS
  replace hS:=hS.f3.drop
  replace hS:=hS.f3.drop
  refine zz ?_
  exact vc
  replace hS:=hS.f2
  refine zz ?_
  obtain⟨F,b9,P,hS⟩:∃K,View.le E K/\IsSl K cR c5 c1/\St w0 K ([(d,oc #[sv f,i6 x,i6 A,i6 B,i6 C,.bool D] 67)]++(G++([(r,Obj.cells #[i6 0,i6 0,sv ([]:Aa),ns,ns] 32 (0,0))]++L))) w:=⟨_,hS.put_le,N.share hS.put_le,hS.freeze⟩
  replace hS:=hS.f2
  obtain⟨d3,c0,S,hS⟩:∃K,View.le F K/\IsSl K cR c6 c2/\St w0 K ([(d,oc #[sv f,i6 x,i6 A,i6 B,i6 C,.bool D] 67)]++([(r,Obj.cells #[i6 0,i6 0,sv ([]:Aa),ns,ns] 32 (0,0))]++L)) w:=⟨_,hS.put_le,(O.mono b9).share hS.put_le,hS.freeze⟩
  refine Rd call71 (Kl (P.mono c0) S hS hV) ?_
  rintro _ w⟨n,c7,c8,d4,hV,rfl,i2,a6,a7,T,U,hS⟩
  refine aR hS ?_
  intro e2 w hS
  refine sE hS ?_
  intro w hS
  refine zz ?_
  refine Rn hS (Ac (cs:=[i6 n.k,i6 n.i,sv n.t,c7,c8]) isAgg32 sizeOf32 rfl rfl rfl) ?_
  replace hS:=hS.f2
  refine Rd call70 (NW (v_14:=n) a2 a3 a4 a5 a6 a7 T U hS hV) ?_
  rintro _ w⟨j4,j5,m4,m5,d5,hV,rfl,i3,g9,h0,f1,f5,hS⟩
  replace hS:=hS.f3
  refine sE hS ?_
  intro w hS
  replace hS:=hS.f3.drop
  refine zz ?_
  exact vc
  refine zz ?_
  refine Rd call72 (WE s c a b hS hV) ?_
  rintro _ w⟨j7,j8,j9,k0,m6,m7,d6,hV,rfl,i4,h1,h2,f6,f7,h3,h4,h5,hS⟩
  replace hS:=hS.f2
  refine sE hS ?_
  intro w hS
  refine zz ?_
  exact vc
theorem AbY{s_1:Aa}{Q:RV->Int->Int->Prop}(hS:St w0 H L w)(hV:Ro s_1 Q):
 Cl 9 #[sv s_1] w fun e w'=>∃(r1:RV)(r2:Int)(r3:Int)(u1:Value)(w1:Value)(H':View),Q r1 r2 r3/\e=.returned (.tuple #[.agg #[i6 r1.k,i6 r1.i,sv r1.t,u1,w1],i6 r2,i6 r3])/\View.le H H'/\I64 r1.k/\I64 r1.i/\IsSl H' cR u1 r1.ks/\IsSl H' cR w1 r1.vs/\I64 r2/\I64 r3/\St w0 H' (L) w':=by
 refine BW func9 ntmps9 ?_
 have c1:=@Ey;have d1:=call28
 refine z ?_
 refine aR hS ?_
 intro f w hS
 obtain⟨c3,hV⟩:=hV
 iterate 9 refine z ?_
 refine Ce hV ?_ ?_<;>intro c2 hV
 refine z ?_
 refine Rn hS bR ?_
 refine sE hS ?_
 intro w hS
 iterate 5 refine z ?_
 have Y:=An (P:=Tryz.prog) (cs:=[i6 0,i6 0,sv ([]:Aa),ns,ns]) isAgg32 sizeOf32 hS rfl
 replace hS:=hS.drop
 exact Nb (il) rfl rfl rfl rfl Y (⟨(RV.mk 0 0 ([]:Aa) ([]:List RV) ([]:List RV)),(0:Int),(6:Int),ns,ns,H,hV,rfl,(View.le.refl _),i0,i0,IsSl.nil,IsSl.nil,i0,(show I64 (6:Int) by unfold I64;omega),hS⟩)
 iterate 4 refine z ?_
 refine Rn hS (Aq (vs:=[sv s_1]) (zc:=#[sv ([]:Aa),i6 0,i6 0,i6 0,i6 0,.bool false]) (cs:=#[sv s_1,i6 0,i6 0,i6 0,i6 0,.bool false]) (places:=#[(0,1),(1,1),(2,1),(3,1),(4,1),(5,1)]) underlying67 zeroValue67 (fun w=>by simp[sizeOf3,sizeOf4,sizeOf9]) rfl ⟨rfl,trivial⟩ rfl Zf) ?_
 refine WL.box (arr:=#[sv s_1,i6 0,i6 0,i6 0,i6 0,.bool false]) rfl rfl rfl hS ?_
 intro d w hS
 obtain⟨mf,hV⟩:=hV
 iterate 4 refine z ?_
 refine Rd call26 (YE mf i0 i0 i0 i0 hS hV) ?_
 rintro _ w⟨c,e2,r,b8,b9,x,v_14,v_15,j,hV,rfl,D,b0,b1,V,W,b2,b3,b4,b5,hS⟩
 refine aR hS ?_
 intro g w hS
 refine sE hS ?_
 intro w hS
 iterate 3 refine z ?_
 replace hS:=hS.f2
 refine Rd call27 (Qd b2 b3 b4 b5 hS hV) ?_
 rintro _ w⟨A,hV,rfl,c7,hS⟩
 obtain⟨F,S,hV⟩:=hV
 refine z ?_
 refine WC.meet (fun a w=>∃l m,F (l,m)/\I64 l/\I64 m/\St w0 j ([(f,Obj.cells #[i6 0,i6 0,sv ([]:Aa),ns,ns] 32 (0,0))]++([(d,oc #[sv s_1,i6 A,i6 r,i6 l,i6 m,.bool x] 67)]++([(g,oc #[i6 c.k,i6 c.i,sv c.t,v_14,v_15] 32)]++L))) w/\Fr 66 [(2,(pq f)),(5,(pq d)),(6,(pq g))] a) ?_ ?_
 rintro a w⟨l,m,hI,c8,c9,hS,ha⟩
 refine Ab ha ?_
 have hV:=S _ hI
 obtain⟨N,U,hV⟩:=hV
 refine WC.meet (fun a w=>∃n o,N (n,o)/\I64 n/\I64 o/\St w0 j ([(f,Obj.cells #[i6 0,i6 0,sv ([]:Aa),ns,ns] 32 (0,0))]++([(d,oc #[sv s_1,i6 A,i6 r,i6 n,i6 o,.bool x] 67)]++([(g,oc #[i6 c.k,i6 c.i,sv c.t,v_14,v_15] 32)]++L))) w/\Fr 66 [(2,(pq f)),(5,(pq d)),(6,(pq g))] a) ?_ ?_
 rintro a w⟨n,o,hI,b6,b7,hS,ha⟩
 refine Ab ha ?_
 have hV:=U _ hI
 iterate 5 refine z ?_
 replace hS:=hS.f2
 iterate 3 refine z ?_
 refine Ce hV ?_ ?_<;>intro c0 hV
 refine z ?_
 refine WC.drawn (σ:=[0,1,2,3,4,5,6,7,8,9,10,11]) [[],[],[1],[1,2],[1,2,3],[],[5],[5,6],[5,6,7],[0],[0,1,2,3,4,9],[0,1,2,3,4,5,6,7,8,9,10]] [9] mixed (by kernel_rfl) (hS.drawn _) ?_
 refine Wd.run rfl rfl rfl rfl (fun _=>Aq (vs:=[]) (zc:=#[i6 0,i6 0,sv ([]:Aa),ns,ns]) (cs:=#[i6 0,i6 0,sv ([]:Aa),ns,ns]) (places:=#[(0,1),(1,1),(2,1),(3,1),(4,1)]) underlying32 zeroValue32 (fun w=>by simp[sizeOf2,sizeOf3,sizeOf30,sizeOf9]) rfl trivial rfl Zf) fun d0 c4=>?_
 refine Dm fun d2 a2=>?_
 refine Wd.run rfl rfl rfl rfl (fun _=>Bi rfl) fun d3 a3=>?_
 refine Wd.run rfl rfl rfl rfl (fun _=>Af (o':=4) underlying67 rfl sizeOf3 rfl rfl) fun d4 a4=>?_
 refine Wd.runb (off:=4) rfl rfl rfl rfl (fun _ _ _ h=>Aj isAgg3 rfl h) rfl (fun _ h=>h) fun d5 a5=>?_
 refine Dm fun d6 a6=>?_
 refine Wd.run rfl rfl rfl rfl (fun _=>Bi rfl) fun d7 a7=>?_
 refine Wd.run rfl rfl rfl rfl (fun _=>Af (o':=3) underlying67 rfl sizeOf3 rfl rfl) fun d8 a8=>?_
 refine Wd.runb (off:=3) rfl rfl rfl rfl (fun _ _ _ h=>Aj isAgg3 rfl h) rfl (fun _ h=>h) fun d9 a9=>?_
 refine Wd.turn rfl rfl rfl fun w hS=>?_
 replace hS:=hS.f2
 refine sE hS ?_
 intro w hS
 refine WL.nil (DQ.mk2 hS ⟨.inr (a9 _ _ _ _ rfl (fun _ h=>St.f2 h)),.inr (a8 _),.inr (a7 _),.inr (a6 _),.inr (a5 _ _ _ _ rfl (fun _ h=>St.f2 h)),.inr (a4 _),.inr (a3 _),.inr (a2 _),il,trivial⟩ ?_)
 refine Wd.run rfl rfl rfl rfl (fun _=>Ba rfl) fun e0 c5=>?_
 refine Wd.run rfl rfl rfl rfl (fun _=>Ba rfl) fun e1 c6=>?_
 refine Wd.nil fun w hS=>?_
 refine z ?_
 replace hS:=hS.f2.drop
 replace hS:=hS.f2.drop
 iterate 2 refine z ?_
 have a0:=An (P:=Tryz.prog) (cs:=[i6 0,i6 0,sv ([]:Aa),ns,ns]) isAgg32 sizeOf32 hS rfl
 replace hS:=hS.drop
 exact Nb (il) rfl rfl rfl rfl a0 (⟨(RV.mk 0 0 ([]:Aa) ([]:List RV) ([]:List RV)),o,n,ns,ns,j,hV,rfl,((View.le.refl _).trans D),i0,i0,IsSl.nil,IsSl.nil,b7,b6,hS⟩)
 iterate 2 refine z ?_
 replace hS:=hS.drop
 refine z ?_
 replace hS:=hS.f2
 refine Rn hS (Ac (cs:=[i6 c.k,i6 c.i,sv c.t,v_14,v_15]) isAgg32 sizeOf32 rfl rfl rfl) ?_
 replace hS:=hS.f2
 refine sE hS ?_
 intro w hS
 iterate 3 refine z ?_
 replace hS:=hS.f2.drop
 refine z ?_
 have a1:=An (P:=Tryz.prog) (cs:=[i6 c.k,i6 c.i,sv c.t,v_14,v_15]) isAgg32 sizeOf32 hS rfl
 replace hS:=hS.drop
 exact Nb (il) rfl rfl rfl rfl a1 (⟨c,(0:Int),(0:Int),v_14,v_15,j,hV,rfl,((View.le.refl _).trans D),b0,b1,V,W,i0,i0,hS⟩)
 obtain⟨E,O,hV⟩:=hV
 refine WC.meet (fun a w=>∃C,E C/\St w0 j ([(f,Obj.cells #[i6 0,i6 0,sv ([]:Aa),ns,ns] 32 (0,0))]++([(d,oc #[sv s_1,i6 A,i6 r,i6 l,i6 m,.bool x] 67)]++([(g,oc #[i6 c.k,i6 c.i,sv c.t,v_14,v_15] 32)]++L))) w/\Fr 66 [(2,(pq f)),(5,(pq d)),(6,(pq g)),(48,.bool C)] a) ?_ ?_
 rintro a w⟨C,hI,hS,ha⟩
 refine Ab ha ?_
 have hV:=O _ hI
 exact Z
 exact Z
 obtain⟨G,T,hV⟩:=hV
 refine WC.meet (fun a w=>∃B,G B/\St w0 j ([(f,Obj.cells #[i6 0,i6 0,sv ([]:Aa),ns,ns] 32 (0,0))]++([(d,oc #[sv s_1,i6 A,i6 r,i6 b8,i6 b9,.bool x] 67)]++([(g,oc #[i6 c.k,i6 c.i,sv c.t,v_14,v_15] 32)]++L))) w/\Fr 66 [(2,(pq f)),(5,(pq d)),(6,(pq g)),(31,.bool B)] a) ?_ ?_
 rintro a w⟨B,hI,hS,ha⟩
 refine Ab ha ?_
 have hV:=T _ hI
 exact Z
 exact Z
theorem read_off_ret{w:World}{x y z:Value}:CallsD Tryz.prog 22 #[x,y,z] .returning w fun e u' w'=>e=.returned (.tuple #[])/\u'=.returning/\w'=w:=by
  refine ZF (n:=18) (l:=[]) Tryz.func22 rfl rfl rfl (BR _) fun c₀ cs a hu ha=>?_
  refine Le (by simp[recoverD,hu]) ?_
  refine WC.inS ?_ (ha.put (d:=6) rfl .nilIface)
  refine WC.block (WC.sr (WL.run (C:=fun _=>True) trivial rfl rfl rfl (JJ (r:=true) rfl rfl (fun w=>by kernel_rfl) (fun w=>by kernel_rfl)) (WL.nx (WC.cond_true rfl (WC.region (WL.ma rfl rfl (WL.nil ?_)))))))
  intro a ha
  exact⟨ha.defers,.returning,by rw[<-hu],_,results_none rfl _ _ _,rfl,rfl,rfl⟩
theorem Oh{w0:World}{H:View}{L:Ar}{w:World}{b c f:Nat}{u i ev:Value}{e1 a1:Int}(hS:St w0 H ([(b,Obj.cells #[u] 25 (0,0))]++([(c,Obj.cells #[i] 3 (0,0))]++([(f,Obj.cells #[ev] 27 (0,0))]++L))) w):
    CallsD Tryz.prog 22 #[.pointer (some ⟨b,0,none⟩),.pointer (some ⟨c,0,none⟩),.pointer (some ⟨f,0,none⟩)] (.panicking (Dy e1 a1)) w fun e u' w'=>e=.returned (.tuple #[])/\settle u'=.returning/\
      St w0 H ([(b,Obj.cells #[.nilIface] 25 (0,0))]++([(c,Obj.cells #[.int .i64 a1] 3 (0,0))]++([(f,Obj.cells #[.iface 57 (.int .i64 e1)] 27 (0,0))]++L))) w':=by
  refine ZF (n:=18) (l:=[(0,.pointer (some ⟨b,0,none⟩)),(1,.pointer (some ⟨c,0,none⟩)),(2,.pointer (some ⟨f,0,none⟩))]) Tryz.func22 rfl rfl rfl (Av rfl (Av rfl (Av rfl (BR _)))) fun c₀ cs a hu ha=>?_
  refine LJ (v:=.iface 59 (.agg #[.int .i64 e1,.int .i64 a1])) (cs':={c₀ with mode:=.panicking [{v:=.iface 59 (.agg #[.int .i64 e1,.int .i64 a1]),recovered:=true}]}::cs) (by simp[recoverD,hu,Dy]) ?_
  refine WC.inS ?_ (ha.put (d:=6) rfl _)
  refine WC.block (WC.sr (WL.run hS rfl rfl rfl (JJ (r:=false) rfl rfl (fun w=>by kernel_rfl) (fun w=>by kernel_rfl)) (WL.nx (WC.cond_false rfl (WC.sr ?_)))))
  refine WL.run hS rfl rfl rfl (v:=.tuple #[.agg #[.int .i64 e1,.int .i64 a1],.bool true]) (fun w _ a ha=>by
    have e1:=ha.eval (x:=.tmp 6) rfl
    simp[execOp,e1,Al (P:=Tryz.prog) (at_:=59) (by kernel_rfl) Tryz.zeroValue59]) ?_
  refine WL.run hS rfl rfl rfl (DR rfl rfl) (WL.run hS rfl rfl rfl (DR rfl rfl) (WL.nx (WC.cond_true rfl (WC.sr (WL.alloc (arr:=#[.int .i64 0,.int .i64 0]) rfl Tryz.zeroValue59 rfl hS ?_)))))
  intro g w hS
  refine WL.store_box (pre:=[]) (old:=[.int .i64 0,.int .i64 0]) (rst:=[]) (cs:=[.int .i64 e1,.int .i64 a1]) (arr':=#[.int .i64 e1,.int .i64 a1]) Tryz.sizeOf59 rfl rfl rfl ⟨rfl,rfl,trivial⟩ rfl rfl rfl rfl hS ?_
  intro w hS
  refine WL.nx ?_
  replace hS:=hS.f3.f4.f3
  refine WC.drawn (σ:=[0,1,2,3,4,5,6,7,8]) (C:=St w0 H ([(g,Obj.cells #[.int .i64 e1,.int .i64 a1] 59 (0,0))]++([(f,Obj.cells #[ev] 27 (0,0))]++([(c,Obj.cells #[i] 3 (0,0))]++([(b,Obj.cells #[u] 25 (0,0))]++L))))) [[],[],[1],[],[3],[3,4],[0],[0,1,2,6],[0,1,2,3,4,5,6,7]] [6,7,8] Tryz.mixed (by kernel_rfl) (hS.drawn _) ?_
  refine Wd.run rfl rfl rfl rfl (fun _=>Aq (vs:=[]) (zc:=#[.nilIface]) (cs:=#[.nilIface]) (places:=#[(0,1)]) Tryz.underlying25 Tryz.zeroValue25 (fun w=>by simp[Tryz.sizeOf23]) rfl trivial rfl (by simp[Instr.fill,Bs,Be,AW,AJ,AX,Br])) fun s q=>?_
  refine Wd.run rfl rfl rfl rfl (fun _=>Af (o':=1) Tryz.underlying59 rfl Tryz.sizeOf3 rfl rfl) fun t o=>?_
  refine Wd.runb (off:=1) rfl rfl rfl rfl (fun _ _ _ h=>Aj Tryz.isAgg3 rfl h) rfl (fun _ h=>h) fun A p=>?_
  refine Wd.run rfl rfl rfl rfl (fun _=>Af (o':=0) Tryz.underlying59 rfl Tryz.sizeOf57 rfl rfl) fun B j=>?_
  refine Wd.runb (off:=0) rfl rfl rfl rfl (fun _ _ _ h=>Aj Tryz.isAgg57 rfl h) rfl (fun _ h=>h) fun D k=>?_
  refine Wd.run rfl rfl rfl rfl (fun _=>Bk (by kernel_rfl) rfl) fun E m=>?_
  refine Wd.turn rfl rfl rfl fun w hS=>?_
  replace hS:=hS.f4
  refine WL.store_box (pre:=[]) (old:=[u]) (rst:=[]) (cs:=[.nilIface]) (arr':=#[.nilIface]) Tryz.sizeOf25 rfl rfl rfl ⟨rfl,trivial⟩ rfl rfl rfl rfl hS ?_
  intro w hS
  refine WL.nil (DQ.mk2 (C':=St w0 H ([(b,Obj.cells #[.nilIface] 25 (0,0))]++([(g,Obj.cells #[.int .i64 e1,.int .i64 a1] 59 (0,0))]++([(f,Obj.cells #[ev] 27 (0,0))]++([(c,Obj.cells #[i] 3 (0,0))]++L))))) hS ⟨.inr (m _),.inr (k H ([(b,Obj.cells #[.nilIface] 25 (0,0))]++([(f,Obj.cells #[ev] 27 (0,0))]++([(c,Obj.cells #[i] 3 (0,0))]++L))) #[.int .i64 e1,.int .i64 a1] _ rfl (fun _ h=>St.f2 h)),.inr (j _),.inr (p H ([(b,Obj.cells #[.nilIface] 25 (0,0))]++([(f,Obj.cells #[ev] 27 (0,0))]++([(c,Obj.cells #[i] 3 (0,0))]++L))) #[.int .i64 e1,.int .i64 a1] _ rfl (fun _ h=>St.f2 h)),.inr (o _),.inl rfl,trivial⟩ ?_)
  refine Wd.turn rfl rfl rfl fun w hS=>?_
  replace hS:=hS.f4
  refine WL.store_box (pre:=[]) (old:=[i]) (rst:=[]) (cs:=[.int .i64 a1]) (arr':=#[.int .i64 a1]) Tryz.sizeOf3 rfl rfl rfl ⟨rfl,trivial⟩ rfl rfl rfl rfl hS ?_
  intro w hS
  refine WL.nil (DQ.mk2 (C':=St w0 H ([(c,Obj.cells #[.int .i64 a1] 3 (0,0))]++([(b,Obj.cells #[.nilIface] 25 (0,0))]++([(g,Obj.cells #[.int .i64 e1,.int .i64 a1] 59 (0,0))]++([(f,Obj.cells #[ev] 27 (0,0))]++L))))) hS ⟨.inr (m _),.inr (k H ([(c,Obj.cells #[.int .i64 a1] 3 (0,0))]++([(b,Obj.cells #[.nilIface] 25 (0,0))]++([(f,Obj.cells #[ev] 27 (0,0))]++L))) #[.int .i64 e1,.int .i64 a1] _ rfl (fun _ h=>St.f3 h)),.inr (j _),.inl rfl,.inl rfl,.inl rfl,trivial⟩ ?_)
  refine Wd.turn rfl rfl rfl fun w hS=>?_
  replace hS:=hS.f4
  refine WL.store_box (pre:=[]) (old:=[ev]) (rst:=[]) (cs:=[(.iface 57 (.int .i64 e1))]) (arr':=#[(.iface 57 (.int .i64 e1))]) Tryz.sizeOf27 rfl rfl rfl ⟨rfl,trivial⟩ rfl rfl rfl rfl hS ?_
  intro w hS
  refine WL.nil (DQ.mk2 (C':=St w0 H ([(f,Obj.cells #[(.iface 57 (.int .i64 e1))] 27 (0,0))]++([(c,Obj.cells #[.int .i64 a1] 3 (0,0))]++([(b,Obj.cells #[.nilIface] 25 (0,0))]++([(g,Obj.cells #[.int .i64 e1,.int .i64 a1] 59 (0,0))]++L))))) hS ⟨.inl rfl,.inl rfl,.inl rfl,.inl rfl,.inl rfl,.inl rfl,trivial⟩ ?_)
  refine Wd.nil fun w hS=>?_
  refine WQ.out nofun ?_
  intro a ha
  exact⟨ha.defers,_,rfl,_,results_none rfl _ _ _,rfl,rfl,hS.f4.drop.f3.f3.f2⟩
theorem KE{w0:World}{H:View}{L:Ar}{w:World}{b c d:Nat}{u ev:Value}{i:Int}{n:Nat}{l:List (Nat×Value)}{a:Act}(hS:St w0 H ([(b,Obj.cells #[u] 25 (0,0))]++([(c,Obj.cells #[.int .i64 i] 3 (0,0))]++([(d,Obj.cells #[ev] 27 (0,0))]++L))) w)(ha:Fr n l a)
    (h2:lk l 2=some (.pointer (some ⟨b,0,none⟩)))(h4:lk l 3=some (.pointer (some ⟨c,0,none⟩)))(h6:lk l 4=some (.pointer (some ⟨d,0,none⟩))):(results Tryz.f8 a.tmps).run Tryz.prog w=.ok (.tuple #[.agg #[u],.int .i64 i,ev]) w:=by
  have e2:=ha.val 2 _ h2
  have e4:=ha.val 3 _ h4
  have e6:=ha.val 4 _ h6
  have l2:(loadVar 25 ⟨b,0,none⟩).run Tryz.prog w=.ok (.agg #[u]) w:=An (k:=1) (cs:=[u]) (fun w=>by kernel_rfl) (fun w=>by kernel_rfl) hS rfl
  have l4:(loadVar 3 ⟨c,0,none⟩).run Tryz.prog w=.ok (.int .i64 i) w:=TG (fun w=>by kernel_rfl) hS.f2
  have l6:(loadVar 27 ⟨d,0,none⟩).run Tryz.prog w=.ok ev w:=TG (fun w=>by kernel_rfl) hS.f3
  have hr:Tryz.f8.results=#[.cell 2 25,.cell 3 3,.cell 4 27]:=rfl
  simp[results,hr,Array.getD_eq_getD_getElem?,e2,e4,e6,asAddr,l2,l4,l6]
theorem Adn{h:Aa}{Q:Val->Int->(Option Int)->Prop}(hN:GlobN w0 H)(hS:St w0 H L w)(hV:UQ h Q):
    Cl 8 #[sv h] w fun e w'=>∃(r1:Val)(r2:Int)(r3:Option Int)(u1:Value)(H':View),Q r1 r2 r3/\e=.returned (.tuple #[.agg #[u1],.int .i64 r2,ZZ 57 r3])/\View.le H H'/\IsW H' u1 r1/\I64 r2/\St w0 H' (L) w':=by
  obtain⟨hl,hbig,hsm⟩:=hV
  refine AcT Tryz.func8 rfl Tryz.ntmps8 rfl (Av (d:=0) (v:=sv h) rfl (BR _)) (zz ?_)
  refine WL.alloc (arr:=#[.nilIface]) rfl Tryz.zeroValue25 rfl hS ?_
  intro b w hS
  refine WL.alloc (arr:=#[.int .i64 0]) rfl Tryz.zeroValue3 rfl hS ?_
  intro c w hS
  refine WL.alloc (arr:=#[.nilIface]) rfl Tryz.zeroValue27 rfl hS ?_
  intro g w hS
  refine zz ?_
  refine WL.run hS rfl rfl rfl (AR (fn:=.func 22) (xs:=[.tmp 2,.tmp 3,.tmp 4]) (vs:=[.pointer (some ⟨b,0,none⟩),.pointer (some ⟨c,0,none⟩),.pointer (some ⟨g,0,none⟩)]) ⟨rfl,rfl,rfl,trivial⟩) ?_
  refine WL.defer (f:=22) (cap:=#[.pointer (some ⟨b,0,none⟩),.pointer (some ⟨c,0,none⟩),.pointer (some ⟨g,0,none⟩)]) rfl (fun a ha=>by
    have e6:a.eval (.tmp 6)=.func (.func 22) #[] #[.pointer (some ⟨b,0,none⟩),.pointer (some ⟨c,0,none⟩),.pointer (some ⟨g,0,none⟩)]:=ha.eval rfl
    simp[execOp,resolve,Deferred.ofValue,e6]) ?_
  have fin:∀{w:World}{H':View}{u ev:Value}{i:Int}{r1:Val}{r3:Option Int}{l:List (Nat×Value)}{a:Act}{e:Exit},(e=.ret\/e=.normal)->St w0 H' ([(b,Obj.cells #[u] 25 (0,0))]++([(c,Obj.cells #[.int .i64 i] 3 (0,0))]++([(g,Obj.cells #[ev] 27 (0,0))]++L))) w->View.le H H'->IsW H' u r1->I64 i->ev=ZZ 57 r3->Q r1 i r3->
      lk l 2=some (.pointer (some ⟨b,0,none⟩))->lk l 3=some (.pointer (some ⟨c,0,none⟩))->lk l 4=some (.pointer (some ⟨g,0,none⟩))->FrD [{target:=.fn (.func 22) #[.pointer (some ⟨b,0,none⟩),.pointer (some ⟨c,0,none⟩),.pointer (some ⟨g,0,none⟩)],args:=#[]}] 37 l a->
      bodyPostD Tryz.prog Tryz.f8 (fun e w'=>∃(r1:Val)(r2:Int)(r3:Option Int)(u1:Value)(H':View),Q r1 r2 r3/\e=.returned (.tuple #[.agg #[u1],.int .i64 r2,ZZ 57 r3])/\View.le H H'/\IsW H' u1 r1/\I64 r2/\St w0 H' (L) w') e a w:=fun{w H' u ev i r1 r3 l a e}he hS hle hu hi hev hQ h2 h4 h6 ha=>by
    have main:Leaves Tryz.prog Tryz.f8 a.tmps (fun e w'=>∃(r1:Val)(r2:Int)(r3:Option Int)(u1:Value)(H':View),Q r1 r2 r3/\e=.returned (.tuple #[.agg #[u1],.int .i64 r2,ZZ 57 r3])/\View.le H H'/\IsW H' u1 r1/\I64 r2/\St w0 H' (L) w') a.defers .returning w:=by
      rw[ha.1]
      refine leaves_cons (by simp) (f:=22) (args:=#[.pointer (some ⟨b,0,none⟩),.pointer (some ⟨c,0,none⟩),.pointer (some ⟨g,0,none⟩)]) (by kernel_rfl) (read_off_ret.mono ?_)
      rintro e u' w'⟨rfl,rfl,rfl⟩
      exact NK (KE (a:={a with defers:=[]}) hS ha.2 h2 h4 h6) ⟨r1,i,r3,u,H',hQ,by rw[hev],hle,hu,hi,hS.drop.drop.drop⟩
    rcases he with rfl|rfl<;>exact main
  have pan:∀{w:World}{H':View}{u ev i:Value}{e1 a1:Int}{l:List (Nat×Value)}{a:Act},St w0 H' ([(b,Obj.cells #[u] 25 (0,0))]++([(c,Obj.cells #[i] 3 (0,0))]++([(g,Obj.cells #[ev] 27 (0,0))]++L))) w->View.le H H'->I64 a1->Q .nil a1 (some e1)->
      lk l 2=some (.pointer (some ⟨b,0,none⟩))->lk l 3=some (.pointer (some ⟨c,0,none⟩))->lk l 4=some (.pointer (some ⟨g,0,none⟩))->Fr 37 l a->
      bodyPostD Tryz.prog Tryz.f8 (fun e w'=>∃(r1:Val)(r2:Int)(r3:Option Int)(u1:Value)(H':View),Q r1 r2 r3/\e=.returned (.tuple #[.agg #[u1],.int .i64 r2,ZZ 57 r3])/\View.le H H'/\IsW H' u1 r1/\I64 r2/\St w0 H' (L) w') (.panic (Dy e1 a1)) {a with defers:=a.defers++[{target:=.fn (.func 22) #[.pointer (some ⟨b,0,none⟩),.pointer (some ⟨c,0,none⟩),.pointer (some ⟨g,0,none⟩)],args:=#[]}]} w:=fun{w H' u ev i e1 a1 l a}hS hle hi hQ h2 h4 h6 ha=>by
    show Leaves Tryz.prog Tryz.f8 a.tmps _ (a.defers++_) (.panicking (Dy e1 a1)) w
    rw[ha.defers,List.nil_append]
    refine leaves_cons (by simp) (f:=22) (args:=#[.pointer (some ⟨b,0,none⟩),.pointer (some ⟨c,0,none⟩),.pointer (some ⟨g,0,none⟩)]) (by kernel_rfl) ((Oh hS).mono ?_)
    rintro e u' w'⟨rfl,hu,hS⟩
    show Leaves _ _ _ _ [] (settle u') w'
    rw[hu]
    exact NK (KE hS ha h2 h4 h6) ⟨.nil,a1,some e1,.nilIface,H',hQ,rfl,hle,IsW.nil,hi,hS.drop.drop.drop⟩
  refine WCD.seq (WCD.sr (WL.mv rfl rfl (WL.run hS rfl rfl rfl (Ol Tryz.underlying9 rfl) (WL.run hS rfl rfl rfl (UC rfl rfl) (WL.nxD ?_)))))
  refine WCD.cond rfl ?_ ?_
  · intro p
    have hQ:=hbig (of_decide_eq_true p)
    refine WCD.sr (WL.run hS rfl rfl rfl (Aq (vs:=[]) (zc:=#[.nilIface]) (cs:=#[.nilIface]) (places:=#[(0,1)]) Tryz.underlying25 Tryz.zeroValue25 (fun w=>by simp[Tryz.sizeOf23]) rfl trivial rfl (by simp[Instr.fill,Bs,Be,AW,AJ,AX,Br])) (WL.run hS rfl rfl rfl (Bk (by kernel_rfl) rfl) ?_))
    replace hS:=hS.f3
    refine WL.store_box (pre:=[]) (old:=[.nilIface]) (rst:=[]) (cs:=[.nilIface]) (arr':=#[.nilIface]) Tryz.sizeOf25 rfl rfl rfl ⟨rfl,trivial⟩ rfl rfl rfl rfl hS ?_
    intro w hS
    replace hS:=hS.f3
    refine WL.store_box (pre:=[]) (old:=[.int .i64 0]) (rst:=[]) (cs:=[.int .i64 (0:Int)]) (arr':=#[.int .i64 (0:Int)]) Tryz.sizeOf3 rfl rfl rfl ⟨rfl,trivial⟩ rfl rfl rfl rfl hS ?_
    intro w hS
    replace hS:=hS.f3
    refine WL.store_box (pre:=[]) (old:=[.nilIface]) (rst:=[]) (cs:=[(.iface 57 (.int .i64 (6:Int)))]) (arr':=#[(.iface 57 (.int .i64 (6:Int)))]) (by first|exact Tryz.sizeOf27|exact fun w=>by kernel_rfl) rfl rfl rfl ⟨rfl,trivial⟩ rfl rfl rfl rfl hS ?_
    intro w hS
    refine WL.nxD (WCD.ret (WQD.pass nofun ?_))
    exact fun a ha=>fin (.inl rfl) hS.f2.f3 (View.le.refl _) IsW.nil (by unfold I64;omega) (r3:=some 6) rfl hQ rfl rfl rfl ha
  · intro p
    obtain⟨mf,hV⟩:=hsm (of_decide_eq_false p)
    refine WCD.skip (WQD.next (WCD.sr (WL.mv rfl rfl (WL.run hS rfl rfl rfl (Aq (vs:=[sv h]) (zc:=#[sv ([]:Aa),.int .i64 0,.int .i64 0,.bool false]) (cs:=#[sv h,.int .i64 0,.int .i64 0,.bool false]) (places:=#[(0,1),(1,1),(2,1),(3,1)]) Tryz.underlying62 Tryz.zeroValue62 (fun w=>by simp[Tryz.sizeOf3,Tryz.sizeOf4,Tryz.sizeOf9]) rfl ⟨rfl,trivial⟩ rfl (by simp[Instr.fill,Bs,Be,AW,AJ,AX,Br])) (WL.box (arr:=#[sv h,.int .i64 0,.int .i64 0,.bool false]) rfl rfl rfl hS ?_)))))
    intro k w hS
    refine WL.ma rfl rfl (WL.nxD (WCD.sr (WL.mv rfl rfl (WL.callP rfl rfl rfl (Bf (vs:=[.pointer (some ⟨k,0,none⟩)]) Tryz.call23 ⟨rfl,trivial⟩) (Acf mf (show I64 0 by unfold I64;omega) (show I64 0 by unfold I64;omega) hN hS hV) (by rintro _ w⟨K,S,r,rfl,I,B,hS⟩;exact⟨_,rfl,fun a ha=>pan hS.f2.f3 B r.1 r.2 rfl rfl rfl ha⟩) ?_))))
    rintro _ w⟨O,P,D,E,j,G,hV,rfl,q,m,A,t,hS⟩
    refine⟨_,rfl,?_⟩
    replace hS:=hS.f4
    refine WL.store_box (pre:=[]) (old:=[.nilIface]) (rst:=[]) (cs:=[j]) (arr':=#[j]) Tryz.sizeOf25 rfl rfl rfl ⟨(IsW.one m),trivial⟩ rfl rfl rfl rfl hS ?_
    intro w hS
    refine WL.nxD (WCD.sr (WL.mv rfl rfl ?_))
    replace hS:=hS.f2
    refine WL.call rfl rfl rfl (Bf (vs:=[.pointer (some ⟨k,0,none⟩)]) Tryz.call24 ⟨rfl,trivial⟩) (Ve A t hS hV) ?_
    rintro _ w⟨F,hV,rfl,x,hS⟩
    refine⟨_,rfl,?_⟩
    refine WL.nxD (WCD.seq (WCD.block (WCD.sr (WL.mv rfl rfl (WL.run hS rfl rfl rfl (Bi rfl) (WL.run hS rfl rfl rfl (Af (o':=1) Tryz.underlying62 rfl Tryz.sizeOf3 rfl rfl) (WL.run hS rfl rfl rfl (Aj Tryz.isAgg3 rfl rfl) (WL.mv rfl rfl (WL.run hS rfl rfl rfl (Ol Tryz.underlying9 rfl) ?_)))))))))
    refine WL.run hS rfl rfl rfl (JE rfl rfl) (WL.ma rfl rfl (WL.nxD ?_))
    refine WCD.cond rfl ?_ ?_
    · intro o
      have hQ:=hV.1 (of_decide_eq_true o)
      refine WCD.region (WL.mv rfl rfl ?_)
      have hF:Ef h F D E (1:Int) (fun e a=>I64 a/\Q .nil a (some e)) False:=⟨x,hQ⟩
      refine WL.callP rfl rfl rfl (Bf (vs:=[.pointer (some ⟨k,0,none⟩),.int .i64 (1:Int)]) Tryz.call25 ⟨rfl,rfl,trivial⟩) (Gr x t (show I64 (1:Int) by unfold I64;omega) hS hF) (by rintro _ w⟨N,T,s,rfl,J,C,hS⟩;exact⟨_,rfl,fun a ha=>pan hS.f3.f2 (q.trans C) s.1 s.2 rfl rfl rfl ha⟩) ?_
      rintro _ w⟨hV,rfl,hS⟩
      exact hV.elim
    · intro o
      have hV2:=hV.2 (of_decide_eq_false o)
      refine WCD.sr (WL.mv rfl rfl (WL.run hS rfl rfl rfl (Bi rfl) (WL.run hS rfl rfl rfl (Af (o':=3) Tryz.underlying62 rfl Tryz.sizeOf4 rfl rfl) (WL.run hS rfl rfl rfl (Aj Tryz.isAgg4 rfl rfl) (WL.ma rfl rfl (WL.nxD ?_))))))
      replace hS:=hS.drop
      refine WCD.cond rfl ?_ ?_
      · intro n
        have hQ:=hV2.1 n
        refine WCD.sr (WL.run hS rfl rfl rfl (Aq (vs:=[]) (zc:=#[.nilIface]) (cs:=#[.nilIface]) (places:=#[(0,1)]) Tryz.underlying25 Tryz.zeroValue25 (fun w=>by simp[Tryz.sizeOf23]) rfl trivial rfl (by simp[Instr.fill,Bs,Be,AW,AJ,AX,Br])) (WL.run hS rfl rfl rfl (Bk (by kernel_rfl) rfl) (WL.store_box (pre:=[]) (old:=[j]) (rst:=[]) (cs:=[.nilIface]) (arr':=#[.nilIface]) Tryz.sizeOf25 rfl rfl rfl ⟨rfl,trivial⟩ rfl rfl rfl rfl hS ?_)))
        intro w hS
        replace hS:=hS.f3
        refine WL.store_box (pre:=[]) (old:=[.int .i64 0]) (rst:=[]) (cs:=[.int .i64 (0:Int)]) (arr':=#[.int .i64 (0:Int)]) Tryz.sizeOf3 rfl rfl rfl ⟨rfl,trivial⟩ rfl rfl rfl rfl hS ?_
        intro w hS
        replace hS:=hS.f3
        refine WL.store_box (pre:=[]) (old:=[.nilIface]) (rst:=[]) (cs:=[(.iface 57 (.int .i64 (6:Int)))]) (arr':=#[(.iface 57 (.int .i64 (6:Int)))]) (fun w=>by kernel_rfl) rfl rfl rfl ⟨rfl,trivial⟩ rfl rfl rfl rfl hS ?_
        intro w hS
        refine WL.nxD (WCD.ret (WQD.out nofun (WQD.pass nofun ?_)))
        exact fun a ha=>fin (.inl rfl) hS.f3.f3.f2 q IsW.nil (by unfold I64;omega) (r3:=some 6) rfl hQ rfl rfl rfl ha
      · intro n
        have hQ:=hV2.2 n
        refine WCD.skip (WQD.out nofun (WQD.next (WCD.sr (WL.run hS rfl rfl rfl (Ac (cs:=[j]) Tryz.isAgg25 Tryz.sizeOf25 rfl rfl rfl) (WL.store_box (pre:=[]) (old:=[j]) (rst:=[]) (cs:=[j]) (arr':=#[j]) Tryz.sizeOf25 rfl rfl rfl ⟨(IsW.one m),trivial⟩ rfl rfl rfl rfl hS ?_)))))
        intro w hS
        replace hS:=hS.f3
        refine WL.store_box (pre:=[]) (old:=[.int .i64 0]) (rst:=[]) (cs:=[.int .i64 (0:Int)]) (arr':=#[.int .i64 (0:Int)]) Tryz.sizeOf3 rfl rfl rfl ⟨rfl,trivial⟩ rfl rfl rfl rfl hS ?_
        intro w hS
        replace hS:=hS.f3
        refine WL.store_box (pre:=[]) (old:=[.nilIface]) (rst:=[]) (cs:=[.nilIface]) (arr':=#[.nilIface]) (fun w=>by kernel_rfl) rfl rfl rfl ⟨rfl,trivial⟩ rfl rfl rfl rfl hS ?_
        intro w hS
        refine WL.nxD (WCD.ret ?_)
        exact fun a ha=>fin (.inl rfl) hS.f3.f3.f2 q m (by unfold I64;omega) (r3:=none) rfl hQ rfl rfl rfl ha
theorem Acd{v:Aa}{Q:Val->RV->Prop}(hN:GlobN w0 H)(hS:St w0 H L w)(hV:Qp v Q):
 Cl 15 #[sv v] w fun e w'=>∃(r1:Val)(r2:RV)(u1:Value)(u2:Value)(w2:Value)(H':View),Q r1 r2/\e=.returned (.tuple #[.agg #[u1],.agg #[i6 r2.k,i6 r2.i,sv r2.t,u2,w2]])/\View.le H H'/\IsW H' u1 r1/\I64 r2.k/\I64 r2.i/\IsSl H' cR u2 r2.ks/\IsSl H' cR w2 r2.vs/\St w0 H' (L) w':=by
 refine BW func15 ntmps15 ?_
 refine zz ?_
 refine aV hS ?_
 intro q w hS
 refine aR hS ?_
 intro s w hS
 refine zz ?_
 refine Rd call8 (Adn hN hS hV) ?_
 rintro _ w⟨K,a3,a4,f,N,hV,rfl,J,u,V,hS⟩
 refine zz ?_
 refine aV hS ?_
 intro p w hS
 refine sA hS ?_
 intro w hS
 refine zz ?_
 refine Rd call9 (AbY hS hV) ?_
 rintro _ w⟨a5,a6,a7,a8,a9,l,hV,rfl,o,W,Y,O,S,Z,a0,hS⟩
 refine zz ?_
 refine aR hS ?_
 intro r w hS
 refine sE hS ?_
 intro w hS
 obtain⟨x,A,hV⟩:=hV
 iterate 3 refine z ?_
 refine WC.meet (fun a w=>∃b c d m n g j,x (b,c,d,m,n)/\I64 b/\I64 c/\IsSl l cR g m/\IsSl l cR j n/\St w0 l ([(q,oc #[.nilIface] 25)]++([(s,Obj.cells #[i6 0,i6 0,sv ([]:Aa),ns,ns] 32 (0,0))]++([(p,oc #[f] 25)]++([(r,oc #[i6 b,i6 c,sv d,g,j] 32)]++L)))) w/\Fr 27 [(2,(pq q)),(3,(pq s)),(4,(pq p)),(7,(pq r))] a) ?_ ?_
 rintro a w⟨b,c,d,m,n,g,j,hI,G,I,B,C,hS,ha⟩
 refine Ab ha ?_
 have hV:=A _ hI
 refine z ?_
 refine WC.drawn (σ:=[0,1,2,3]) [[],[],[0],[0,1,2]] [2,3] mixed (by kernel_rfl) (hS.drawn _) ?_
 refine Wd.runbs (off:=0) (k:=1) (cs:=[f]) rfl rfl rfl rfl (fun _ _ _ h=>Ac isAgg25 sizeOf25 rfl h rfl) rfl (fun _ h=>St.f3 h) fun a1 U=>?_
 refine Wd.runbs (off:=0) (k:=5) (cs:=[i6 b,i6 c,sv d,g,j]) rfl rfl rfl rfl (fun _ _ _ h=>Ac isAgg32 sizeOf32 rfl h rfl) rfl (fun _ h=>St.f4 h) fun a2 F=>?_
 refine Wd.turn rfl rfl rfl fun w hS=>?_
 refine Ee #[f] sizeOf25 hS ?_ (cs:=[f]) (hone:=⟨(IsW.one (u.mono o)),trivial⟩)
 intro w hS
 refine WL.nil (DQ.mk2 hS ⟨.inr (F _ _ _ _ rfl (fun _ h=>St.f4 h)),il,trivial⟩ ?_)
 refine Wd.turn rfl rfl rfl fun w hS=>?_
 replace hS:=hS.f2
 refine sE hS ?_
 intro w hS
 refine WL.nil (DQ.mk2 hS ⟨il,il,trivial⟩ ?_)
 refine Wd.nil fun w hS=>?_
 replace hS:=hS.f3.drop
 replace hS:=hS.f3.drop
 replace hS:=hS.f2
 have D:=An (P:=Tryz.prog) (cs:=[f]) isAgg25 sizeOf25 hS rfl
 replace hS:=hS.f2
 have E:=An (P:=Tryz.prog) (cs:=[i6 b,i6 c,sv d,g,j]) isAgg32 sizeOf32 hS rfl
 replace hS:=hS.drop
 replace hS:=hS.drop
 refine zz ?_
 exact AbM (il) rfl rfl rfl D E (⟨K,(RV.mk b c d m n),f,g,j,l,hV,rfl,(((View.le.refl _).trans J).trans o),(u.mono o),G,I,B,C,hS⟩)
 refine zz ?_
 refine Ce hV ?_ ?_<;>intro T hV
 refine zz ?_
 refine Rn hS bR ?_
 refine sE hS ?_
 intro w hS
 replace hS:=hS.f2.f3.f4
 refine zz ?_
 exact y
 replace hS:=hS.f2.f3.f4
 refine zz ?_
 exact y
theorem Qr{v_1:RV}{c:Value}{d:Value}{Q:Bool->Prop}(n:I64 v_1.k)(o:I64 v_1.i)(l:IsSl H cR c v_1.ks)(m:IsSl H cR d v_1.vs)(hS:St w0 H L w)(hV:Gc v_1 Q):
 Cl 82 #[.agg #[i6 v_1.k,i6 v_1.i,sv v_1.t,c,d]] w (pB w0 H L Q):=by
 refine BW func82 ntmps82 ?_
 refine zz ?_
 refine WL.box (arr:=#[i6 v_1.k,i6 v_1.i,sv v_1.t,c,d]) rfl rfl rfl hS ?_
 intro b_8 w hS
 obtain⟨g,j,hV⟩:=hV
 iterate 2 refine z ?_
 refine WC.meet (fun a w=>∃f,g f/\St w0 H (L) w/\Fr 11 [(2,.bool f)] a) ?_ ?_
 rintro a w⟨f,hI,hS,ha⟩
 refine Ab ha ?_
 have hV:=j _ hI
 refine zz ?_
 exact v1
 exact Z
theorem YG{d:Value}{c:List RV}{v_4:RV}{a:Value}{b:Value}{Q:Bool->Prop}(f:IsSl H cR d c)(h:I64 v_4.k)(j:I64 v_4.i)(g:IsSl H cR a v_4.ks)(e:IsSl H cR b v_4.vs)(hS:St w0 H L w)(hV:QA c v_4 Q):
 Cl 87 #[d,.agg #[i6 v_4.k,i6 v_4.i,sv v_4.t,a,b]] w (pB w0 H L Q):=by
 refine Co func87 ntmps87 ?_
 refine zz ?_
 refine WL.box (arr:=#[i6 v_4.k,i6 v_4.i,sv v_4.t,a,b]) rfl rfl rfl hS ?_
 intro l w hS
 refine zz ?_
 refine Rn hS (Ac (cs:=[i6 v_4.k,i6 v_4.i,sv v_4.t,a,b]) isAgg32 sizeOf32 rfl rfl rfl) ?_
 refine Rd call78 (Hb (v_4:=v_4) f h j g e hS hV) ?_
 rintro _ w⟨n,o,hV,rfl,m,hS⟩
 replace hS:=hS.drop
 refine zz ?_
 exact v1
theorem Aah{c:Aa}{Q:Int->Prop}(hS:St w0 H L w)(hV:Tl c Q):
 Cl 35 #[sv c] w (pI w0 H L Q):=by
 refine BW func35 ntmps35 ?_
 obtain⟨i,m,hV⟩:=hV
 iterate 8 refine z ?_
 refine WC.meet (fun a w=>∃d,i d/\St w0 H (L) w/\Fr 48 [(3,sv c),(4,.bool d)] a) ?_ ?_
 rintro a w⟨d,hI,hS,ha⟩
 refine Ab ha ?_
 have hV:=m _ hI
 refine Cf hV ?_ ?_<;>intro x hV
 refine zz ?_
 exact v1
 obtain⟨j,n,hV⟩:=hV
 refine WC.meet (fun a w=>∃f,j f/\St w0 H (L) w/\Fr 48 [(3,sv c),(15,.bool f)] a) ?_ ?_
 rintro a w⟨f,hI,hS,ha⟩
 refine Ab ha ?_
 have hV:=n _ hI
 refine Cf hV ?_ ?_<;>intro t hV
 refine zz ?_
 exact v1
 refine zz ?_
 refine Ce hV ?_ ?_<;>intro r hV
 refine zz ?_
 exact v1
 obtain⟨l,o,hV⟩:=hV
 refine WC.meet (fun a w=>∃g,l g/\St w0 H (L) w/\Fr 48 [(44,.bool g)] a) ?_ ?_
 rintro a w⟨g,hI,hS,ha⟩
 refine Ab ha ?_
 have hV:=o _ hI
 exact Z
 exact Z
 exact Z
 exact Z
theorem YL{u:Value}{a_1:List RV}{e:Ar}{Q:RV->Prop}(g:Bor H cR u a_1 e)(hS:St w0 H (e++L) w)(hV:Nd a_1 Q):
 Cl 38 #[u] w (pR w0 H (e++L) Q):=by
 refine BW func38 ntmps38 ?_
 refine zz ?_
 refine aR hS ?_
 intro d w hS
 have a1:=g.bound
 replace hV:=hV a1
 refine zz ?_
 refine Rn hS (CN underlying30 rfl g) ?_
 obtain⟨Y,hV⟩:=hV
 refine Rn hS (QW rfl rfl Y) ?_
 refine zz ?_
 refine Ce hV ?_ ?_<;>intro b9 hV
 refine zz ?_
 refine Rn hS bR ?_
 refine sE hS ?_
 intro w hS
 refine zz ?_
 exact vc
 replace hS:=hS.nilseg
 replace hS:=hS.nilseg
 replace hS:=hS.f2.f3.f4
 obtain⟨I,a7,b3,hV⟩:=hV
 refine zz ?_
 refine WC.loop (σ:=(List RV)×(List RV)×Int) (fun s a w=>∃h j b m l n f,s=(h,j,b)/\I (h,j,b)/\OwnSl H cR 32 m h l/\OwnSl H cR 32 n j f/\I64 b/\St w0 H (e++([(d,Obj.cells #[i6 0,i6 0,sv ([]:Aa),ns,ns] 32 (0,0))]++(l++(f++L)))) w/\Fr 35 [(0,u),(2,(pq d)),(3,m),(4,n),(5,i6 b)] a) a7 (([]:List RV),([]:List RV),(0:Int)) ?_ ?_
 exact y
 rintro _ a w⟨h,j,b,m,l,n,f,rfl,hI,v,x,c4,hS,ha⟩
 refine Ab ha ?_
 replace hV:=hV _ hI
 have a2:=g.bound
 replace hV:=hV a2
 refine zz ?_
 refine Rn hS (CN underlying30 rfl g) ?_
 refine zz ?_
 refine Ce hV ?_ ?_<;>intro b8 hV
 obtain⟨Z,hV⟩:=hV
 refine zz ?_
 refine Rx hS (Ag underlying30 sizeOf32 rfl rfl g Z) ?_
 intro c6 a3
 refine Rx hS (BG (H:=H) (L:=[(d,Obj.cells #[i6 0,i6 0,sv ([]:Aa),ns,ns] 32 (0,0))]++(l++(f++L))) (Ad isAgg32 sizeOf32 rfl a3)) ?_
 rintro c9⟨_,rfl,hu⟩
 obtain⟨o,p,rfl,A,B,N,O⟩:=cR_rep.1 hu
 replace hV:=hV A B
 refine WL.builds (c:=cR) (xs:=[(ix a_1 b)]) (vs:=[.agg #[i6 ((ix a_1 b).k),i6 ((ix a_1 b).i),sv ((ix a_1 b).t),o,p]]) (css:=[[i6 ((ix a_1 b).k),i6 ((ix a_1 b).i),sv ((ix a_1 b).t),o,p]]) rfl underlying30 info32 rfl ⟨rfl,trivial⟩ rfl (by decide) rfl (by simp;rfl) ⟨[i6 ((ix a_1 b).k),i6 ((ix a_1 b).i),sv ((ix a_1 b).t),o,p],_,rfl,(cR_rep.2 ⟨_,_,rfl,A,B,N,O⟩),rfl⟩ hS rfl (by decide) ?_
 intro d1 w b0 P hS
 obtain⟨C,hV⟩:=hV
 replace hS:=hS.f4
 refine WL.append (c:=cR) (xs:=h) (ys:=([(ix a_1 b)])) rfl underlying30 info32 rfl rfl rfl hS v (P.src hS.f2) C.1 C.2 ?_
 intro d2 w J b4 hS
 replace hS:=hS.f2.drop
 obtain⟨c0,hV⟩:=hV
 obtain⟨a0,hV⟩:=hV
 refine zz ?_
 refine Rx hS (Ag underlying30 sizeOf32 rfl rfl g a0) ?_
 intro c7 a4
 replace hS:=hS.f2
 refine Rx hS (BG (H:=H) (L:=J++([(d,Obj.cells #[i6 0,i6 0,sv ([]:Aa),ns,ns] 32 (0,0))]++(f++L))) (Ad isAgg32 sizeOf32 rfl a4)) ?_
 rintro d0⟨_,rfl,hu⟩
 obtain⟨q,r,rfl,D,E,S,T⟩:=cR_rep.1 hu
 replace hV:=hV D E
 refine WL.builds (c:=cR) (xs:=[(ix a_1 (b+(1:Int)))]) (vs:=[.agg #[i6 ((ix a_1 (b+(1:Int))).k),i6 ((ix a_1 (b+(1:Int))).i),sv ((ix a_1 (b+(1:Int))).t),q,r]]) (css:=[[i6 ((ix a_1 (b+(1:Int))).k),i6 ((ix a_1 (b+(1:Int))).i),sv ((ix a_1 (b+(1:Int))).t),q,r]]) rfl underlying30 info32 rfl ⟨rfl,trivial⟩ rfl (by decide) rfl (by simp;rfl) ⟨[i6 ((ix a_1 (b+(1:Int))).k),i6 ((ix a_1 (b+(1:Int))).i),sv ((ix a_1 (b+(1:Int))).t),q,r],_,rfl,(cR_rep.2 ⟨_,_,rfl,D,E,S,T⟩),rfl⟩ hS rfl (by decide) ?_
 intro d3 w b1 U hS
 obtain⟨F,hV⟩:=hV
 replace hS:=hS.f5
 refine WL.append (c:=cR) (xs:=j) (ys:=([(ix a_1 (b+(1:Int)))])) rfl underlying30 info32 rfl rfl rfl hS x (U.src hS.f2) F.1 F.2 ?_
 intro d4 w b2 b5 hS
 replace hS:=hS.f2.drop
 obtain⟨c1,hV⟩:=hV
 replace hS:=hS.f3.f4.f4
 refine zz ?_
 exact y
 replace hS:=hS.f3
 refine zz ?_
 obtain⟨G,a5,V,hS⟩:∃K,View.le H K/\IsSl K cR m h/\St w0 K (e++([(d,Obj.cells #[i6 0,i6 0,sv ([]:Aa),ns,ns] 32 (0,0))]++(f++L))) w:=⟨_,hS.put_le,v.share hS.put_le,hS.freeze⟩
 replace hS:=hS.f3
 obtain⟨a8,a6,W,hS⟩:∃K,View.le G K/\IsSl K cR n j/\St w0 K (e++([(d,Obj.cells #[i6 0,i6 0,sv ([]:Aa),ns,ns] 32 (0,0))]++L)) w:=⟨_,hS.put_le,(x.mono a5).share hS.put_le,hS.freeze⟩
 refine Rd call71 (Kl (V.mono a6) W hS hV) ?_
 rintro _ w⟨c8,d5,d6,a9,hV,rfl,c5,c2,c3,b6,b7,hS⟩
 replace hS:=hS.f2
 refine sE hS ?_
 intro w hS
 refine zz ?_
 exact vc
theorem AdF{f_1:RV}{d:Value}{f:Value}{k_8:RV}{g:Value}{c:Value}{Q:RV->Prop}(x:I64 f_1.k)(A:I64 f_1.i)(m:IsSl H cR d f_1.ks)(n:IsSl H cR f f_1.vs)(o:I64 k_8.k)(r:I64 k_8.i)(j:IsSl H cR g k_8.ks)(l:IsSl H cR c k_8.vs)(hS:St w0 H L w)(hV:VT f_1 k_8 Q):
 Cl 45 #[.agg #[i6 f_1.k,i6 f_1.i,sv f_1.t,d,f],.agg #[i6 k_8.k,i6 k_8.i,sv k_8.t,g,c]] w (pR w0 H L Q):=by
 refine Co func45 ntmps45 ?_
 have c1:=@Hb;have d1:=call78
 exact Z
theorem ZV{f_1:RV}{g:Value}{h:Value}{k_8:RV}{p:Value}{n:Value}{v_15:RV}{d:Value}{e:Value}{Q:RV->Prop}(d3:I64 f_1.k)(d4:I64 f_1.i)(D:IsSl H cR g f_1.ks)(v:IsSl H cR h f_1.vs)(a5:I64 k_8.k)(a6:I64 k_8.i)(S:IsSl H cR p k_8.ks)(T:IsSl H cR n k_8.vs)(a7:I64 v_15.k)(a8:I64 v_15.i)(U:IsSl H cR d v_15.ks)(V:IsSl H cR e v_15.vs)(hS:St w0 H L w)(hV:KA f_1 k_8 v_15 Q):
 Cl 39 #[.agg #[i6 f_1.k,i6 f_1.i,sv f_1.t,g,h],.agg #[i6 k_8.k,i6 k_8.i,sv k_8.t,p,n],.agg #[i6 v_15.k,i6 v_15.i,sv v_15.t,d,e]] w (pR w0 H L Q):=by
 refine Li func39 ntmps39 ?_
 refine zz ?_
 refine WL.box (arr:=#[i6 f_1.k,i6 f_1.i,sv f_1.t,g,h]) rfl rfl rfl hS ?_
 intro j w hS
 refine WL.box (arr:=#[i6 k_8.k,i6 k_8.i,sv k_8.t,p,n]) rfl rfl rfl hS ?_
 intro b3 w hS
 refine WL.box (arr:=#[i6 v_15.k,i6 v_15.i,sv v_15.t,d,e]) rfl rfl rfl hS ?_
 intro m w hS
 refine aR hS ?_
 intro l w hS
 refine zz ?_
 replace hS:=hS.f4
 refine zz ?_
 refine Ce hV ?_ ?_<;>intro c7 hV
 refine zz ?_
 refine Rn hS bR ?_
 replace hS:=hS.f2
 refine sE hS ?_
 intro w hS
 refine zz ?_
 replace hS:=hS.f2.drop
 replace hS:=hS.f3.drop
 replace hS:=hS.f2.drop
 refine zz ?_
 exact vc
 refine zz ?_
 replace hS:=hS.f4
 refine Rn hS (Ac (cs:=[i6 k_8.k,i6 k_8.i,sv k_8.t,p,n]) isAgg32 sizeOf32 rfl rfl rfl) ?_
 refine Rd call78 (Hb (v_4:=k_8) D a5 a6 S T hS hV) ?_
 rintro _ w⟨J,d8,hV,rfl,d2,hS⟩
 refine zz ?_
 replace hS:=hS.drop
 refine zz ?_
 refine Cf hV ?_ ?_<;>intro c6 hV
 refine zz ?_
 refine Rn hS (Ac (cs:=[i6 f_1.k,i6 f_1.i,sv f_1.t,g,h]) isAgg32 sizeOf32 rfl rfl rfl) ?_
 replace hS:=hS.f2
 refine sE hS ?_
 intro w hS
 refine zz ?_
 replace hS:=hS.f2.drop
 replace hS:=hS.f2.drop
 refine zz ?_
 exact vc
 refine zz ?_
 replace hS:=hS.nilseg
 replace hS:=hS.f3.f4.f4
 obtain⟨N,b0,b8,hV⟩:=hV
 refine WC.loop (σ:=(List RV)×Int) (fun s a w=>∃f b o q,s=(f,b)/\N (f,b)/\OwnSl H cR 32 o f q/\I64 b/\St w0 H ([(j,oc #[i6 f_1.k,i6 f_1.i,sv f_1.t,g,h] 32)]++([(m,oc #[i6 v_15.k,i6 v_15.i,sv v_15.t,d,e] 32)]++([(l,Obj.cells #[i6 0,i6 0,sv ([]:Aa),ns,ns] 32 (0,0))]++(q++L)))) w/\Fr 51 [(3,(pq j)),(5,(pq m)),(6,(pq l)),(7,i6 J),(9,o),(10,i6 b)] a) b0 (([]:List RV),(0:Int)) ?_ ?_
 exact y
 rintro _ a w⟨f,b,o,q,rfl,hI,u,c9,hS,ha⟩
 refine Ab ha ?_
 replace hV:=hV _ hI
 have a3:Len f_1.vs:=v.bound
 replace hV:=hV a3
 refine zz ?_
 refine Rn hS (Ao underlying30 rfl v) ?_
 refine zz ?_
 refine Ce hV ?_ ?_<;>intro c5 hV
 obtain⟨O,P,hV⟩:=hV
 iterate 2 refine z ?_
 refine WC.meet (fun a w=>∃x A r,O x/\OwnSl H cR 32 A x r/\St w0 H ([(j,oc #[i6 f_1.k,i6 f_1.i,sv f_1.t,g,h] 32)]++([(m,oc #[i6 v_15.k,i6 v_15.i,sv v_15.t,d,e] 32)]++([(l,Obj.cells #[i6 0,i6 0,sv ([]:Aa),ns,ns] 32 (0,0))]++(r++L)))) w/\Fr 51 [(3,(pq j)),(5,(pq m)),(6,(pq l)),(7,i6 J),(9,A),(10,i6 b)] a) ?_ ?_
 rintro a w⟨x,A,r,hI,b9,hS,ha⟩
 refine Ab ha ?_
 have hV:=P _ hI
 obtain⟨c8,hV⟩:=hV
 refine zz ?_
 replace hS:=hS.f4.f4.f4.f4
 exact y
 refine zz ?_
 refine Ce hV ?_ ?_<;>intro c4 hV
 refine zz ?_
 replace hS:=hS.f2
 refine Rn hS (Ac (cs:=[i6 v_15.k,i6 v_15.i,sv v_15.t,d,e]) isAgg32 sizeOf32 rfl rfl rfl) ?_
 refine WL.builds (c:=cR) (xs:=[v_15]) (vs:=[.agg #[i6 v_15.k,i6 v_15.i,sv v_15.t,d,e]]) (css:=[[i6 v_15.k,i6 v_15.i,sv v_15.t,d,e]]) rfl underlying30 info32 rfl ⟨rfl,trivial⟩ rfl (by decide) rfl (by simp;rfl) ⟨[i6 v_15.k,i6 v_15.i,sv v_15.t,d,e],_,rfl,(cR_rep.2 ⟨_,_,rfl,a7,a8,U,V⟩),rfl⟩ hS rfl (by decide) ?_
 intro e0 w b4 W hS
 obtain⟨E,hV⟩:=hV
 replace hS:=hS.f5
 refine WL.append (c:=cR) (xs:=f) (ys:=([v_15])) rfl underlying30 info32 rfl rfl rfl hS u (W.src hS.f2) E.1 E.2 ?_
 intro e1 w b5 c0 hS
 refine zz ?_
 replace hS:=hS.f2.drop
 replace hS:=hS.f4.f3.f4
 exact y
 obtain⟨a2,hV⟩:=hV
 refine zz ?_
 refine Rx hS (Au underlying30 sizeOf32 rfl rfl v a2) ?_
 intro d6 a4
 refine Rx hS (AE isAgg32 sizeOf32 rfl a4) ?_
 rintro d9⟨_,rfl,hu⟩
 obtain⟨B,C,rfl,F,G,Y,Z⟩:=cR_rep.1 hu
 replace hV:=hV F G
 refine WL.builds (c:=cR) (xs:=[(ix f_1.vs b)]) (vs:=[.agg #[i6 ((ix f_1.vs b).k),i6 ((ix f_1.vs b).i),sv ((ix f_1.vs b).t),B,C]]) (css:=[[i6 ((ix f_1.vs b).k),i6 ((ix f_1.vs b).i),sv ((ix f_1.vs b).t),B,C]]) rfl underlying30 info32 rfl ⟨rfl,trivial⟩ rfl (by decide) rfl (by simp;rfl) ⟨[i6 ((ix f_1.vs b).k),i6 ((ix f_1.vs b).i),sv ((ix f_1.vs b).t),B,C],_,rfl,(cR_rep.2 ⟨_,_,rfl,F,G,Y,Z⟩),rfl⟩ hS rfl (by decide) ?_
 intro e2 w b6 a0 hS
 obtain⟨I,hV⟩:=hV
 replace hS:=hS.f5
 refine WL.append (c:=cR) (xs:=f) (ys:=([(ix f_1.vs b)])) rfl underlying30 info32 rfl rfl rfl hS u (a0.src hS.f2) I.1 I.2 ?_
 intro e3 w b7 c1 hS
 refine zz ?_
 replace hS:=hS.f2.drop
 replace hS:=hS.f4.f4.f4
 exact y
 refine zz ?_
 replace hS:=hS.f2.drop
 refine zz ?_
 replace hS:=hS.f3
 obtain⟨b1,a9,a1,hS⟩:∃K,View.le H K/\IsSl K cR o f/\St w0 K ([(j,oc #[i6 f_1.k,i6 f_1.i,sv f_1.t,g,h] 32)]++([(l,Obj.cells #[i6 0,i6 0,sv ([]:Aa),ns,ns] 32 (0,0))]++L)) w:=⟨_,hS.put_le,u.share hS.put_le,hS.freeze⟩
 refine Rd call71 (Kl (D.mono a9) a1 hS hV) ?_
 rintro _ w⟨d7,e4,e5,b2,hV,rfl,d5,d0,d1,c2,c3,hS⟩
 replace hS:=hS.f2
 refine sE hS ?_
 intro w hS
 refine zz ?_
 replace hS:=hS.f2.drop
 refine zz ?_
 exact vc
theorem Abs{a_1:RV}{f:Value}{g:Value}{Q:RV->Prop}(W:I64 a_1.k)(Y:I64 a_1.i)(e:IsSl H cR f a_1.ks)(O:IsSl H cR g a_1.vs)(hS:St w0 H L w)(hV:MA a_1 Q):
 Cl 84 #[.agg #[i6 a_1.k,i6 a_1.i,sv a_1.t,f,g]] w (pR w0 H L Q):=by
 refine BW func84 ntmps84 ?_
 refine zz ?_
 refine WL.box (arr:=#[i6 a_1.k,i6 a_1.i,sv a_1.t,f,g]) rfl rfl rfl hS ?_
 intro b_8 w hS
 refine aR hS ?_
 intro n w hS
 replace hS:=hS.nilseg
 replace hS:=hS.f2.f3
 obtain⟨q,E,I,hV⟩:=hV
 refine zz ?_
 refine WC.loop (σ:=(List RV)×Int) (fun s a w=>∃d b m h,s=(d,b)/\q (d,b)/\OwnSl H cR 32 m d h/\I64 b/\St w0 H ([(b_8,oc #[i6 a_1.k,i6 a_1.i,sv a_1.t,f,g] 32)]++([(n,Obj.cells #[i6 0,i6 0,sv ([]:Aa),ns,ns] 32 (0,0))]++(h++L))) w/\Fr 30 [(1,(pq b_8)),(2,(pq n)),(3,m),(4,i6 b)] a) E (([]:List RV),(0:Int)) ?_ ?_
 exact y
 rintro _ a w⟨d,b,m,h,rfl,hI,o,Z,hS,ha⟩
 refine Ab ha ?_
 replace hV:=hV _ hI
 have v:Len a_1.ks:=e.bound
 replace hV:=hV v
 refine zz ?_
 refine Rn hS (Ao underlying30 rfl e) ?_
 refine zz ?_
 refine Ce hV ?_ ?_<;>intro S hV
 obtain⟨u,hV⟩:=hV
 refine zz ?_
 refine Rx hS (Au underlying30 sizeOf32 rfl rfl e u) ?_
 intro a3 B
 refine Rx hS (VU underlying32 rfl sizeOf3 rfl rfl B) ?_
 intro a4 C
 refine Rx hS (Bp isAgg3 rfl rfl C) ?_
 intro a6 D
 obtain⟨rfl,j⟩:=Bh D
 replace j:=Bx j
 replace hV:=hV j
 refine zz ?_
 refine Ce hV ?_ ?_<;>intro P hV
 refine zz ?_
 refine Rn hS bR ?_
 replace hS:=hS.f2
 refine sE hS ?_
 intro w hS
 replace hS:=hS.f2.drop
 replace hS:=hS.f2.drop
 refine zz ?_
 exact vc
 obtain⟨r,hV⟩:=hV
 refine zz ?_
 refine Rx hS (Au underlying30 sizeOf32 rfl rfl e r) ?_
 intro a1 x
 refine Rx hS (TA underlying32 rfl sizeOf30 rfl rfl x) ?_
 intro a2 A
 refine Rx hS (Bp isAgg30 rfl rfl A) ?_
 intro a7 l
 replace l:=Bq l
 obtain⟨p,hV⟩:=hV
 replace hS:=hS.f3
 refine WL.append (c:=cR) (xs:=d) (ys:=((ix a_1.ks b).ks)) rfl underlying30 info32 rfl rfl rfl hS o (l.src hS) p.1 p.2 ?_
 intro a8 w G J hS
 obtain⟨T,hV⟩:=hV
 replace hS:=hS.f3.f3
 refine zz ?_
 exact y
 replace hS:=hS.drop
 replace hS:=hS.f2
 refine zz ?_
 refine Rd call36 (EO (OwnSl.bor o) hS hV) ?_
 rintro _ w⟨a5,a9,b0,F,hV,rfl,a0,U,V,K,N,hS⟩
 replace hS:=hS.f2
 refine sE hS ?_
 intro w hS
 replace hS:=hS.f2.drop
 refine zz ?_
 exact vc
theorem AaC{a_1:RV}{g:Value}{h:Value}{Q:RV->Prop}(d2:I64 a_1.k)(d4:I64 a_1.i)(p:IsSl H cR g a_1.ks)(c3:IsSl H cR h a_1.vs)(hS:St w0 H L w)(hV:KM a_1 Q):
 Cl 85 #[.agg #[i6 a_1.k,i6 a_1.i,sv a_1.t,g,h]] w (pR w0 H L Q):=by
 refine BW func85 ntmps85 ?_
 refine zz ?_
 refine WL.box (arr:=#[i6 a_1.k,i6 a_1.i,sv a_1.t,g,h]) rfl rfl rfl hS ?_
 intro b_8 w hS
 refine aR hS ?_
 intro l w hS
 replace hS:=hS.f2
 have a2:Len a_1.ks:=p.bound
 replace hV:=hV a2
 refine zz ?_
 refine Rn hS (Ao underlying30 rfl p) ?_
 refine zz ?_
 refine Ce hV ?_ ?_<;>intro c9 hV
 refine zz ?_
 refine Rn hS bR ?_
 replace hS:=hS.f2
 refine sE hS ?_
 intro w hS
 replace hS:=hS.f2.drop
 refine zz ?_
 exact vc
 refine zz ?_
 refine Rn hS (Aq (vs:=[i6 (5:Int)]) (zc:=#[i6 0,i6 0,sv ([]:Aa),ns,ns]) (cs:=#[i6 (5:Int),i6 0,sv ([]:Aa),ns,ns]) (places:=#[(0,1),(1,1),(2,1),(3,1),(4,1)]) underlying32 zeroValue32 (fun w=>by simp[sizeOf2,sizeOf3,sizeOf30,sizeOf9]) rfl ⟨rfl,trivial⟩ rfl Zf) ?_
 refine WL.builds (c:=cR) (xs:=[(RV.mk (5:Int) 0 ([]:Aa) ([]:List RV) ([]:List RV))]) (vs:=[.agg #[i6 (5:Int),i6 0,sv ([]:Aa),ns,ns]]) (css:=[[i6 (5:Int),i6 0,sv ([]:Aa),ns,ns]]) rfl underlying30 info32 rfl ⟨rfl,trivial⟩ rfl (by decide) rfl (by simp;rfl) ⟨[i6 (5:Int),i6 0,sv ([]:Aa),ns,ns],_,rfl,(cR_rep.2 ⟨_,_,rfl,(show I64 (5:Int) by unfold I64;omega),i0,IsSl.nil,IsSl.nil⟩),rfl⟩ hS rfl (by decide) ?_
 intro e5 w b4 c2 hS
 replace hS:=hS.f3.f3
 obtain⟨T,b0,c1,hV⟩:=hV
 refine zz ?_
 refine WC.loop (σ:=(List RV)×Int) (fun s a w=>∃m b o B r,s=(m,b)/\T (m,b)/\View.le H o/\OwnSl o cR 32 B m r/\I64 b/\St w0 o ([(b_8,oc #[i6 a_1.k,i6 a_1.i,sv a_1.t,g,h] 32)]++([(l,Obj.cells #[i6 0,i6 0,sv ([]:Aa),ns,ns] 32 (0,0))]++(r++L))) w/\Fr 51 [(1,(pq b_8)),(2,(pq l)),(3,B),(4,i6 b)] a) b0 ([(RV.mk (5:Int) 0 ([]:Aa) ([]:List RV) ([]:List RV))],(0:Int)) ?_ ?_
 exact y
 rintro _ a w⟨m,b,o,B,r,rfl,hI,A,u,d3,hS,ha⟩
 refine Ab ha ?_
 replace hV:=hV _ hI
 have a3:Len a_1.ks:=(p.mono A).bound
 replace hV:=hV a3
 refine zz ?_
 refine Rn hS (Ao underlying30 rfl (p.mono A)) ?_
 refine zz ?_
 refine Ce hV ?_ ?_<;>intro c8 hV
 have a4:=u.bound
 replace hV:=hV a4
 refine zz ?_
 refine Rn hS (AP underlying30 rfl u) ?_
 replace hS:=hS.f3.f3.f3
 obtain⟨U,b1,c0,hV⟩:=hV
 refine zz ?_
 refine WC.loop (σ:=(List RV)×Int) (fun s a w=>∃f e j C q,s=(f,e)/\U (f,e)/\View.le o j/\OwnSl j cR 32 C f q/\I64 e/\St w0 j ([(b_8,oc #[i6 a_1.k,i6 a_1.i,sv a_1.t,g,h] 32)]++([(l,Obj.cells #[i6 0,i6 0,sv ([]:Aa),ns,ns] 32 (0,0))]++(q++L))) w/\Fr 51 [(1,(pq b_8)),(2,(pq l)),(3,C),(4,i6 b),(5,i6 (m.length:Int)),(6,i6 e)] a) b1 (m,(0:Int)) ?_ ?_
 exact y
 rintro _ a w⟨f,e,j,C,q,rfl,hI,a8,v,d5,hS,ha⟩
 refine Ab ha ?_
 replace hV:=hV _ hI
 refine zz ?_
 refine Ce hV ?_ ?_<;>intro c7 hV
 obtain⟨I,hV⟩:=hV
 refine zz ?_
 refine Rx hS (Ai underlying30 sizeOf32 rfl rfl v I) ?_
 intro d9 a5
 refine Rx hS (GN underlying32 rfl sizeOf30 rfl a5) ?_
 intro e0 a6
 replace hS:=hS.f3
 refine Rx hS (BG (H:=j) (L:=[(b_8,oc #[i6 a_1.k,i6 a_1.i,sv a_1.t,g,h] 32)]++([(l,Obj.cells #[i6 0,i6 0,sv ([]:Aa),ns,ns] 32 (0,0))]++L)) (HG (d:=(JR cR)) isAgg30 rfl rfl v a6 I Part.rks)) ?_
 intro e3 x
 replace x:=Bq x
 obtain⟨J,hV⟩:=hV
 replace hS:=hS.nilseg
 refine WL.append (c:=cR) (xs:=([]:List RV)) (ys:=((ix f e).ks)) rfl underlying30 info32 rfl rfl rfl hS OwnSl.nil (x.src hS) J.1 J.2 ?_
 intro e6 w b5 F hS
 rw[List.nil_append] at F
 replace hS:=hS.f3
 obtain⟨a1,hV⟩:=hV
 refine zz ?_
 refine Rx hS (Au underlying30 sizeOf32 rfl rfl ((p.mono A).mono a8) a1) ?_
 intro e1 a7
 refine Rx hS (AE isAgg32 sizeOf32 rfl a7) ?_
 rintro e4⟨_,rfl,hu⟩
 obtain⟨D,E,rfl,N,O,V,W⟩:=cR_rep.1 hu
 replace hV:=hV N O
 refine WL.builds (c:=cR) (xs:=[(ix a_1.ks b)]) (vs:=[.agg #[i6 ((ix a_1.ks b).k),i6 ((ix a_1.ks b).i),sv ((ix a_1.ks b).t),D,E]]) (css:=[[i6 ((ix a_1.ks b).k),i6 ((ix a_1.ks b).i),sv ((ix a_1.ks b).t),D,E]]) rfl underlying30 info32 rfl ⟨rfl,trivial⟩ rfl (by decide) rfl (by simp;rfl) ⟨[i6 ((ix a_1.ks b).k),i6 ((ix a_1.ks b).i),sv ((ix a_1.ks b).t),D,E],_,rfl,(cR_rep.2 ⟨_,_,rfl,N,O,V,W⟩),rfl⟩ hS rfl (by decide) ?_
 intro e7 w b6 Y hS
 obtain⟨P,hV⟩:=hV
 replace hS:=hS.f3
 refine WL.append (c:=cR) (xs:=((ix f e).ks)) (ys:=([(ix a_1.ks b)])) rfl underlying30 info32 rfl rfl rfl hS F (Y.src hS.f2) P.1 P.2 ?_
 intro n w b7 G hS
 replace hS:=hS.f2.drop
 refine zz ?_
 refine Rn hS (Aq (vs:=[i6 (5:Int),n]) (zc:=#[i6 0,i6 0,sv ([]:Aa),ns,ns]) (cs:=#[i6 (5:Int),i6 0,sv ([]:Aa),n,ns]) (places:=#[(0,1),(1,1),(2,1),(3,1),(4,1)]) underlying32 zeroValue32 (fun w=>by simp[sizeOf2,sizeOf3,sizeOf30,sizeOf9]) rfl ⟨rfl,rfl,trivial⟩ rfl (by simp[Instr.fill,Bs,Be,AW,AJ,AX,Br,BA,AN (OwnSl.one G)])) ?_
 obtain⟨b2,a9,a0,hS⟩:∃K,View.le j K/\IsSl K cR n (((ix f e).ks)++([(ix a_1.ks b)]))/\St w0 K ([(b_8,oc #[i6 a_1.k,i6 a_1.i,sv a_1.t,g,h] 32)]++(q++([(l,Obj.cells #[i6 0,i6 0,sv ([]:Aa),ns,ns] 32 (0,0))]++L))) w:=⟨_,hS.put_le,G.share hS.put_le,hS.freeze⟩
 refine WL.builds (c:=cR) (xs:=[(RV.mk (5:Int) 0 ([]:Aa) (((ix f e).ks)++([(ix a_1.ks b)])) ([]:List RV))]) (vs:=[.agg #[i6 (5:Int),i6 0,sv ([]:Aa),n,ns]]) (css:=[[i6 (5:Int),i6 0,sv ([]:Aa),n,ns]]) rfl underlying30 info32 rfl ⟨rfl,trivial⟩ rfl (by decide) rfl (by simp;rfl) ⟨[i6 (5:Int),i6 0,sv ([]:Aa),n,ns],_,rfl,(cR_rep.2 ⟨_,_,rfl,(show I64 (5:Int) by unfold I64;omega),i0,a0,IsSl.nil⟩),rfl⟩ hS rfl (by decide) ?_
 intro e8 w b8 Z hS
 obtain⟨S,hV⟩:=hV
 replace hS:=hS.f3
 refine WL.append (c:=cR) (xs:=f) (ys:=([(RV.mk (5:Int) 0 ([]:Aa) (((ix f e).ks)++([(ix a_1.ks b)])) ([]:List RV))])) rfl underlying30 info32 rfl rfl rfl hS (v.mono a9) (Z.src hS.f2) S.1 S.2 ?_
 intro e9 w b9 c4 hS
 replace hS:=hS.f2.drop
 obtain⟨d0,hV⟩:=hV
 replace hS:=hS.f3.f3
 refine zz ?_
 exact y
 obtain⟨d1,hV⟩:=hV
 replace hS:=hS.f3.f3.f3
 refine zz ?_
 exact y
 replace hS:=hS.drop
 replace hS:=hS.f2
 refine zz ?_
 refine Rd call36 (EO (OwnSl.bor u) hS hV) ?_
 rintro _ w⟨e2,f0,f1,b3,hV,rfl,d8,d6,d7,c5,c6,hS⟩
 replace hS:=hS.f2
 refine sE hS ?_
 intro w hS
 replace hS:=hS.f2.drop
 refine zz ?_
 exact vc
theorem AcO{f:Aa}{a_2:RV}{d:Value}{v_4:Value}{Q:RV->Prop}(n:I64 a_2.k)(m:I64 a_2.i)(g:IsSl H cR d a_2.ks)(j:IsSl H cR v_4 a_2.vs)(hS:St w0 H L w)(hV:Ca f a_2 Q):
 Cl 40 #[sv f,.agg #[i6 a_2.k,i6 a_2.i,sv a_2.t,d,v_4]] w (pR w0 H L Q):=by
 refine Co func40 ntmps40 ?_
 have c1:=@AaC;have d1:=call85
 refine zz ?_
 refine WL.box (arr:=#[i6 a_2.k,i6 a_2.i,sv a_2.t,d,v_4]) rfl rfl rfl hS ?_
 intro b_9 w hS
 refine aR hS ?_
 intro c w hS
 replace hS:=hS.f2
 refine zz ?_
 refine Rn hS (Ac (cs:=[i6 a_2.k,i6 a_2.i,sv a_2.t,d,v_4]) isAgg32 sizeOf32 rfl rfl rfl) ?_
 refine Rd call33 (RL (v_1:=a_2) n m g j hS hV) ?_
 rintro _ w⟨l,hV,rfl,hS⟩
 refine zz ?_
 refine Ce hV ?_ ?_<;>intro f3 hV
 refine zz ?_
 refine Rn hS (Ac (cs:=[i6 a_2.k,i6 a_2.i,sv a_2.t,d,v_4]) isAgg32 sizeOf32 rfl rfl rfl) ?_
 refine Rd call82 (Qr (v_1:=a_2) n m g j hS hV) ?_
 rintro _ w⟨i2,hV,rfl,hS⟩
 replace hS:=hS.drop
 refine zz ?_
 refine Rd call83 (GX hS hV) ?_
 rintro _ w⟨i3,j9,k0,b9,hV,rfl,h3,g0,g1,d4,d5,hS⟩
 refine sE hS ?_
 intro w hS
 refine zz ?_
 exact vc
 obtain⟨V,a6,hV⟩:=hV
 refine WC.meet (fun a w=>∃B,V B/\St w0 H ([(b_9,oc #[i6 a_2.k,i6 a_2.i,sv a_2.t,d,v_4] 32)]++([(c,Obj.cells #[i6 0,i6 0,sv ([]:Aa),ns,ns] 32 (0,0))]++L)) w/\Fr 126 [(0,sv f),(3,(pq b_9)),(4,(pq c)),(5,.bool l),(17,.bool B)] a) ?_ ?_
 rintro a w⟨B,hI,hS,ha⟩
 refine Ab ha ?_
 have hV:=a6 _ hI
 refine Cf hV ?_ ?_<;>intro f1 hV
 refine zz ?_
 refine Rn hS (Kj rfl m) ?_
 refine Rd call81 (CT (GA _ m) hS hV) ?_
 rintro _ w⟨i4,k1,k2,c0,hV,rfl,h4,g2,g3,d6,d7,hS⟩
 replace hS:=hS.f2
 refine sE hS ?_
 intro w hS
 replace hS:=hS.f2.drop
 refine zz ?_
 exact vc
 obtain⟨W,a7,hV⟩:=hV
 refine WC.meet (fun a w=>∃C,W C/\St w0 H ([(b_9,oc #[i6 a_2.k,i6 a_2.i,sv a_2.t,d,v_4] 32)]++([(c,Obj.cells #[i6 0,i6 0,sv ([]:Aa),ns,ns] 32 (0,0))]++L)) w/\Fr 126 [(0,sv f),(3,(pq b_9)),(4,(pq c)),(5,.bool l),(29,.bool C)] a) ?_ ?_
 rintro a w⟨C,hI,hS,ha⟩
 refine Ab ha ?_
 have hV:=a7 _ hI
 refine Cf hV ?_ ?_<;>intro f0 hV
 have N:Len a_2.ks:=g.bound
 replace hV:=hV N
 refine zz ?_
 refine Rn hS (Ao underlying30 rfl g) ?_
 refine Rd call81 (CT (Len.i64 N) hS hV) ?_
 rintro _ w⟨i5,k3,k4,c2,hV,rfl,h5,g4,g5,d8,d9,hS⟩
 replace hS:=hS.f2
 refine sE hS ?_
 intro w hS
 replace hS:=hS.f2.drop
 refine zz ?_
 exact vc
 obtain⟨Y,a8,hV⟩:=hV
 refine WC.meet (fun a w=>∃D,Y D/\St w0 H ([(b_9,oc #[i6 a_2.k,i6 a_2.i,sv a_2.t,d,v_4] 32)]++([(c,Obj.cells #[i6 0,i6 0,sv ([]:Aa),ns,ns] 32 (0,0))]++L)) w/\Fr 126 [(0,sv f),(3,(pq b_9)),(4,(pq c)),(5,.bool l),(41,.bool D)] a) ?_ ?_
 rintro a w⟨D,hI,hS,ha⟩
 refine Ab ha ?_
 have hV:=a8 _ hI
 refine Cf hV ?_ ?_<;>intro e9 hV
 refine zz ?_
 refine Rd call36 (EO (L:=[(b_9,oc #[i6 a_2.k,i6 a_2.i,sv a_2.t,d,v_4] 32)]++([(c,Obj.cells #[i6 0,i6 0,sv ([]:Aa),ns,ns] 32 (0,0))]++L)) (IsSl.bor (fp:=[]) g) hS hV) ?_
 rintro _ w⟨i7,k5,k6,c3,hV,rfl,h6,g6,g7,e0,e1,hS⟩
 simp only[List.nil_append] at hS
 replace hS:=hS.f2
 refine sE hS ?_
 intro w hS
 replace hS:=hS.f2.drop
 refine zz ?_
 exact vc
 obtain⟨a0,a9,hV⟩:=hV
 refine WC.meet (fun a w=>∃E,a0 E/\St w0 H ([(b_9,oc #[i6 a_2.k,i6 a_2.i,sv a_2.t,d,v_4] 32)]++([(c,Obj.cells #[i6 0,i6 0,sv ([]:Aa),ns,ns] 32 (0,0))]++L)) w/\Fr 126 [(0,sv f),(3,(pq b_9)),(4,(pq c)),(5,.bool l),(52,.bool E)] a) ?_ ?_
 rintro a w⟨E,hI,hS,ha⟩
 refine Ab ha ?_
 have hV:=a9 _ hI
 refine Cf hV ?_ ?_<;>intro e8 hV
 refine zz ?_
 refine Rd call36 (EO (L:=[(b_9,oc #[i6 a_2.k,i6 a_2.i,sv a_2.t,d,v_4] 32)]++([(c,Obj.cells #[i6 0,i6 0,sv ([]:Aa),ns,ns] 32 (0,0))]++L)) (IsSl.bor (fp:=[]) j) hS hV) ?_
 rintro _ w⟨i8,k7,k8,c4,hV,rfl,h7,g8,g9,e2,e3,hS⟩
 simp only[List.nil_append] at hS
 replace hS:=hS.f2
 refine sE hS ?_
 intro w hS
 replace hS:=hS.f2.drop
 refine zz ?_
 exact vc
 obtain⟨O,a1,hV⟩:=hV
 refine WC.meet (fun a w=>∃F,O F/\St w0 H ([(b_9,oc #[i6 a_2.k,i6 a_2.i,sv a_2.t,d,v_4] 32)]++([(c,Obj.cells #[i6 0,i6 0,sv ([]:Aa),ns,ns] 32 (0,0))]++L)) w/\Fr 126 [(0,sv f),(3,(pq b_9)),(4,(pq c)),(5,.bool l),(63,.bool F)] a) ?_ ?_
 rintro a w⟨F,hI,hS,ha⟩
 refine Ab ha ?_
 have hV:=a1 _ hI
 refine Cf hV ?_ ?_<;>intro e7 hV
 have G:Len a_2.ks:=g.bound
 replace hV:=hV G
 refine zz ?_
 refine Rn hS (Ao underlying30 rfl g) ?_
 refine Rd call81 (CT (Len.i64 G) hS hV) ?_
 rintro _ w⟨h9,j0,j1,b6,hV,rfl,h0,f4,f5,c5,c6,hS⟩
 replace hS:=hS.f2
 refine sE hS ?_
 intro w hS
 replace hS:=hS.f2.drop
 refine zz ?_
 exact vc
 obtain⟨P,a2,hV⟩:=hV
 refine WC.meet (fun a w=>∃o,P o/\St w0 H ([(b_9,oc #[i6 a_2.k,i6 a_2.i,sv a_2.t,d,v_4] 32)]++([(c,Obj.cells #[i6 0,i6 0,sv ([]:Aa),ns,ns] 32 (0,0))]++L)) w/\Fr 126 [(0,sv f),(3,(pq b_9)),(4,(pq c)),(5,.bool l),(73,.bool o)] a) ?_ ?_
 rintro a w⟨o,hI,hS,ha⟩
 refine Ab ha ?_
 have hV:=a2 _ hI
 refine Cf hV ?_ ?_<;>intro e6 hV
 obtain⟨b2,hV⟩:=hV
 refine zz ?_
 refine Rx hS (Au underlying30 sizeOf32 rfl rfl j b2) ?_
 intro h8 b3
 refine Rx hS (AE isAgg32 sizeOf32 rfl b3) ?_
 rintro i9⟨_,rfl,hu⟩
 obtain⟨j2,j3,rfl,b4,b5,c7,c8⟩:=cR_rep.1 hu
 replace hV:=hV b4 b5
 replace hS:=hS.f2
 refine sE hS ?_
 intro w hS
 replace hS:=hS.f2.drop
 refine zz ?_
 exact vc
 obtain⟨S,a3,hV⟩:=hV
 refine WC.meet (fun a w=>∃r,S r/\St w0 H ([(b_9,oc #[i6 a_2.k,i6 a_2.i,sv a_2.t,d,v_4] 32)]++([(c,Obj.cells #[i6 0,i6 0,sv ([]:Aa),ns,ns] 32 (0,0))]++L)) w/\Fr 126 [(0,sv f),(3,(pq b_9)),(4,(pq c)),(89,.bool r)] a) ?_ ?_
 rintro a w⟨r,hI,hS,ha⟩
 refine Ab ha ?_
 have hV:=a3 _ hI
 refine Cf hV ?_ ?_<;>intro e5 hV
 obtain⟨b1,hV⟩:=hV
 refine zz ?_
 refine Rx hS (Md underlying30 sizeOf32 rfl rfl j b1) ?_
 intro j4 b0
 refine Rd call37 (Hc (L:=[(b_9,oc #[i6 a_2.k,i6 a_2.i,sv a_2.t,d,v_4] 32)]++([(c,Obj.cells #[i6 0,i6 0,sv ([]:Aa),ns,ns] 32 (0,0))]++L)) (IsSl.bor (fp:=[]) b0) hS hV) ?_
 rintro _ w⟨i0,j5,j6,b7,hV,rfl,h1,f6,f7,c9,d0,hS⟩
 simp only[List.nil_append] at hS
 replace hS:=hS.f2
 refine sE hS ?_
 intro w hS
 replace hS:=hS.f2.drop
 refine zz ?_
 exact vc
 obtain⟨T,a4,hV⟩:=hV
 refine WC.meet (fun a w=>∃x,T x/\St w0 H ([(b_9,oc #[i6 a_2.k,i6 a_2.i,sv a_2.t,d,v_4] 32)]++([(c,Obj.cells #[i6 0,i6 0,sv ([]:Aa),ns,ns] 32 (0,0))]++L)) w/\Fr 126 [(0,sv f),(3,(pq b_9)),(4,(pq c)),(105,.bool x)] a) ?_ ?_
 rintro a w⟨x,hI,hS,ha⟩
 refine Ab ha ?_
 have hV:=a4 _ hI
 refine Cf hV ?_ ?_<;>intro e4 hV
 refine zz ?_
 refine Rn hS (Ac (cs:=[i6 a_2.k,i6 a_2.i,sv a_2.t,d,v_4]) isAgg32 sizeOf32 rfl rfl rfl) ?_
 refine Rd call84 (Abs (a_1:=a_2) n m g j hS hV) ?_
 rintro _ w⟨i1,j7,j8,b8,hV,rfl,h2,f8,f9,d2,d3,hS⟩
 replace hS:=hS.f2
 refine sE hS ?_
 intro w hS
 replace hS:=hS.f2.drop
 refine zz ?_
 exact vc
 obtain⟨U,a5,hV⟩:=hV
 refine WC.meet (fun a w=>∃A,U A/\St w0 H ([(b_9,oc #[i6 a_2.k,i6 a_2.i,sv a_2.t,d,v_4] 32)]++([(c,Obj.cells #[i6 0,i6 0,sv ([]:Aa),ns,ns] 32 (0,0))]++L)) w/\Fr 126 [(3,(pq b_9)),(4,(pq c)),(115,.bool A)] a) ?_ ?_
 rintro a w⟨A,hI,hS,ha⟩
 refine Ab ha ?_
 have hV:=a5 _ hI
 exact Z
 exact Z
 exact Z
 exact Z
 exact Z
 exact Z
 exact Z
 exact Z
 exact Z
 exact Z
theorem Yk{a9:Aa}{a_2:RV}{m:Value}{v_4:Value}{b_9:RV}{j:Value}{l:Value}{Q:RV->Prop}(a7:I64 a_2.k)(a8:I64 a_2.i)(a3:IsSl H cR m a_2.ks)(a4:IsSl H cR v_4 a_2.vs)(a5:I64 b_9.k)(a6:I64 b_9.i)(a1:IsSl H cR j b_9.ks)(a2:IsSl H cR l b_9.vs)(hS:St w0 H L w)(hV:Ci a9 a_2 b_9 Q):
 Cl 41 #[sv a9,.agg #[i6 a_2.k,i6 a_2.i,sv a_2.t,m,v_4],.agg #[i6 b_9.k,i6 b_9.i,sv b_9.t,j,l]] w (pR w0 H L Q):=by
 refine Li func41 ntmps41 ?_
 have c1:=@GX;have d1:=call83
 refine zz ?_
 refine WL.box (arr:=#[i6 a_2.k,i6 a_2.i,sv a_2.t,m,v_4]) rfl rfl rfl hS ?_
 intro b6 w hS
 refine WL.box (arr:=#[i6 b_9.k,i6 b_9.i,sv b_9.t,j,l]) rfl rfl rfl hS ?_
 intro b7 w hS
 refine aR hS ?_
 intro c w hS
 replace hS:=hS.f3
 refine zz ?_
 refine Rn hS (Ac (cs:=[i6 a_2.k,i6 a_2.i,sv a_2.t,m,v_4]) isAgg32 sizeOf32 rfl rfl rfl) ?_
 refine Rd call82 (Qr (v_1:=a_2) a7 a8 a3 a4 hS hV) ?_
 rintro _ w⟨d9,hV,rfl,hS⟩
 replace hS:=hS.f3
 refine zz ?_
 refine Rn hS (Ac (cs:=[i6 b_9.k,i6 b_9.i,sv b_9.t,j,l]) isAgg32 sizeOf32 rfl rfl rfl) ?_
 refine Rd call82 (Qr (v_1:=b_9) a5 a6 a1 a2 hS hV) ?_
 rintro _ w⟨e0,hV,rfl,hS⟩
 replace hS:=hS.f2
 refine zz ?_
 refine Rn hS (Ac (cs:=[i6 a_2.k,i6 a_2.i,sv a_2.t,m,v_4]) isAgg32 sizeOf32 rfl rfl rfl) ?_
 replace hS:=hS.f2
 refine Rn hS (Ac (cs:=[i6 b_9.k,i6 b_9.i,sv b_9.t,j,l]) isAgg32 sizeOf32 rfl rfl rfl) ?_
 obtain⟨mf,hV⟩:=hV
 refine Rd call20 (Ny mf (a_1:=a_2) (b_8:=b_9) a7 a8 a3 a4 a5 a6 a1 a2 hS hV) ?_
 rintro _ w⟨e1,hV,rfl,d3,hS⟩
 replace hS:=hS.f2.drop
 replace hS:=hS.drop
 refine zz ?_
 refine Ce hV ?_ ?_<;>intro c7 hV
 obtain⟨b2,b5,hV⟩:=hV
 refine WC.meet (fun a w=>∃A B O P S g Y a0,b2 (A,B,O,P,S)/\View.le H g/\I64 A/\I64 B/\IsSl g cR Y P/\IsSl g cR a0 S/\St w0 g ([(c,oc #[i6 A,i6 B,sv O,Y,a0] 32)]++L) w/\Fr 54 [(6,(pq c))] a) ?_ ?_
 rintro a w⟨A,B,O,P,S,g,Y,a0,hI,d8,d4,d5,c3,c4,hS,ha⟩
 refine Ab ha ?_
 have hV:=b5 _ hI
 refine zz ?_
 exact vc
 exact Z
 refine zz ?_
 refine Ce hV ?_ ?_<;>intro c6 hV
 obtain⟨b0,b3,hV⟩:=hV
 refine WC.meet (fun a w=>∃n o C D E d T U,b0 (n,o,C,D,E)/\View.le H d/\I64 n/\I64 o/\IsSl d cR T D/\IsSl d cR U E/\St w0 d ([(c,oc #[i6 n,i6 o,sv C,T,U] 32)]++L) w/\Fr 54 [(6,(pq c))] a) ?_ ?_
 rintro a w⟨n,o,C,D,E,d,T,U,hI,d6,c8,c9,b8,b9,hS,ha⟩
 refine Ab ha ?_
 have hV:=b3 _ hI
 refine zz ?_
 exact vc
 exact Z
 refine zz ?_
 refine Ce hV ?_ ?_<;>intro c5 hV
 obtain⟨b1,b4,hV⟩:=hV
 refine WC.meet (fun a w=>∃r x F G N f V W,b1 (r,x,F,G,N)/\View.le H f/\I64 r/\I64 x/\IsSl f cR V G/\IsSl f cR W N/\St w0 f ([(c,oc #[i6 r,i6 x,sv F,V,W] 32)]++L) w/\Fr 54 [(6,(pq c))] a) ?_ ?_
 rintro a w⟨r,x,F,G,N,f,V,W,hI,d7,d0,d2,c0,c2,hS,ha⟩
 refine Ab ha ?_
 have hV:=b4 _ hI
 refine zz ?_
 exact vc
 exact Z
 exact Z
theorem AaR{l:Int}{m:Int}{Q:RV->Prop}(a5:I64 l)(a6:I64 m)(hS:St w0 H L w)(hV:Qk l m Q):
 Cl 86 #[i6 l,i6 m] w (pR w0 H L Q):=by
 refine Co func86 ntmps86 ?_
 refine zz ?_
 refine aR hS ?_
 intro o w hS
 refine zz ?_
 refine Rn hS (Aq (vs:=[i6 (5:Int)]) (zc:=#[i6 0,i6 0,sv ([]:Aa),ns,ns]) (cs:=#[i6 (5:Int),i6 0,sv ([]:Aa),ns,ns]) (places:=#[(0,1),(1,1),(2,1),(3,1),(4,1)]) underlying32 zeroValue32 (fun w=>by simp[sizeOf2,sizeOf3,sizeOf30,sizeOf9]) rfl ⟨rfl,trivial⟩ rfl Zf) ?_
 refine aR hS ?_
 intro n w hS
 refine sE hS ?_
 intro w hS
 refine zz ?_
 refine Ce hV ?_ ?_<;>intro a1 hV
 refine zz ?_
 refine Rn hS (Ac (cs:=[i6 (5:Int),i6 0,sv ([]:Aa),ns,ns]) isAgg32 sizeOf32 rfl rfl rfl) ?_
 replace hS:=hS.f2
 refine sE hS ?_
 intro w hS
 refine zz ?_
 replace hS:=hS.f2.drop
 refine zz ?_
 exact vc
 refine zz ?_
 refine Rn hS (EH rfl rfl) ?_
 refine zz ?_
 refine Ce hV ?_ ?_<;>intro a0 hV
 refine zz ?_
 refine Rn hS bR ?_
 replace hS:=hS.f2
 refine sE hS ?_
 intro w hS
 refine zz ?_
 replace hS:=hS.f2.drop
 refine zz ?_
 exact vc
 refine zz ?_
 replace hS:=hS.nilseg
 replace hS:=hS.f2.f3
 obtain⟨x,N,V,hV⟩:=hV
 refine WC.loop (σ:=(List RV)×Int) (fun s a w=>∃d e g r p,s=(d,e)/\x (d,e)/\View.le H g/\OwnSl g cR 32 r d p/\I64 e/\St w0 g ([(o,Obj.cells #[i6 0,i6 0,sv ([]:Aa),ns,ns] 32 (0,0))]++([(n,Obj.cells #[i6 (5:Int),i6 0,sv ([]:Aa),r,ns] 32 (0,0))]++(p++L))) w/\Fr 36 [(1,i6 m),(4,(pq o)),(5,(pq n)),(6,i6 e)] a) N (([]:List RV),l) ?_ ?_
 exact y
 rintro _ a w⟨d,e,g,r,p,rfl,hI,a9,A,F,hS,ha⟩
 refine Ab ha ?_
 replace hV:=hV _ hI
 refine zz ?_
 refine Rd call81 (CT F hS hV) ?_
 rintro _ w⟨b,h,j,v,hV,rfl,J,G,I,B,C,hS⟩
 refine aR hS ?_
 intro S w hS
 refine sE hS ?_
 intro w hS
 refine zz ?_
 replace hS:=hS.f3
 refine R hS ?_
 replace hS:=hS.f2
 refine Rn hS (Ac (cs:=[i6 b.k,i6 b.i,sv b.t,h,j]) isAgg32 sizeOf32 rfl rfl rfl) ?_
 refine WL.builds (c:=cR) (xs:=[b]) (vs:=[.agg #[i6 b.k,i6 b.i,sv b.t,h,j]]) (css:=[[i6 b.k,i6 b.i,sv b.t,h,j]]) rfl underlying30 info32 rfl ⟨rfl,trivial⟩ rfl (by decide) rfl (by simp;rfl) ⟨[i6 b.k,i6 b.i,sv b.t,h,j],_,rfl,(cR_rep.2 ⟨_,_,rfl,G,I,B,C⟩),rfl⟩ hS rfl (by decide) ?_
 intro b1 w T D hS
 obtain⟨u,hV⟩:=hV
 replace hS:=hS.f5
 refine WL.append (c:=cR) (xs:=d) (ys:=([b])) rfl underlying30 info32 rfl rfl rfl hS (A.mono J) (D.src hS.f2) u.1 u.2 ?_
 intro f w U q hS
 refine R hS ?_
 replace hS:=hS.f4
 refine Ee #[i6 (5:Int),i6 0,sv ([]:Aa),f,ns] sizeOf30 hS ?_ (cs:=[f]) (hc:=(congrArg Array.toList (AN (OwnSl.one q)))) (hone:=⟨(OwnSl.one q),trivial⟩)
 intro w hS
 refine zz ?_
 replace hS:=hS.f4.drop
 replace hS:=hS.f3.drop
 refine zz ?_
 refine Ce hV ?_ ?_<;>intro Z hV
 refine zz ?_
 refine Rn hS (Ac (cs:=[i6 (5:Int),i6 0,sv ([]:Aa),f,ns]) isAgg32 sizeOf32 rfl rfl rfl) ?_
 replace hS:=hS.f2
 obtain⟨O,a7,E,hS⟩:∃K,View.le v K/\IsSl K cR f (d++([b]))/\St w0 K ([(n,Obj.cells #[i6 (5:Int),i6 0,sv ([]:Aa),f,ns] 32 (0,0))]++([(o,Obj.cells #[i6 0,i6 0,sv ([]:Aa),ns,ns] 32 (0,0))]++L)) w:=⟨_,hS.put_le,q.share hS.put_le,hS.freeze⟩
 refine Rd call80 (IE (v_1:=(RV.mk (5:Int) 0 ([]:Aa) (d++([b])) ([]:List RV))) (by exact(show I64 (5:Int) by unfold I64;omega)) (by exact i0) E (by exact IsSl.nil) hS hV) ?_
 rintro _ w⟨b0,b2,b3,P,hV,rfl,a8,a3,a4,W,Y,hS⟩
 replace hS:=hS.f2
 refine sE hS ?_
 intro w hS
 refine zz ?_
 replace hS:=hS.f2.drop
 refine zz ?_
 exact vc
 obtain⟨a2,hV⟩:=hV
 refine zz ?_
 replace hS:=hS.f2.f2.f3
 exact y
end Go.Proofs.YtlhkfkecoekoeaaGreatDoor
