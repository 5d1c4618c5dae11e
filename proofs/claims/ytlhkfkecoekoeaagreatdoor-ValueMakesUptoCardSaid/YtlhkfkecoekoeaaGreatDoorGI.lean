/- Part I of the proof: walks. No condition beyond those that each theorem names. -/
import Derived.Test.YtlhkfkecoekoeaaGreatDoorGH
set_option linter.unusedVariables false
set_option linter.unusedSimpArgs false
set_option maxRecDepth 100000
set_option maxHeartbeats 1000000
namespace Go.Proofs.YtlhkfkecoekoeaaGreatDoor
open Go.Vc _root_.Go.Proofs.Tryz _root_.Go.Proofs.YtlhkfkecoekoeaaGreatDoor.Tryz
variable{w0:World}{H:View}{L:Ar}{w:World}
theorem OP{n:Value}{a_1:List Val}{f:Ar}{Q:Val->Prop}(g:Bor H cV n a_1 f)(hS:St w0 H (f++L) w)(hV:DA a_1 Q):
 Cl 176 #[n] w (pV w0 H (f++L) Q):=by
 refine BW func176 ntmps176 ?_
 refine zz ?_
 refine aV hS ?_
 intro d w hS
 replace hS:=hS.nilseg
 replace hS:=hS.nilseg
 replace hS:=hS.f2.f3.f4
 obtain⟨c2,h9,i5,hV⟩:=hV
 refine zz ?_
 refine WC.loop (σ:=(List (Val))×(List (Val))×Int) (fun s a w=>∃j k b o i p e,s=(j,k,b)/\c2 (j,k,b)/\OwnSl H cV 25 o j i/\OwnSl H cV 25 p k e/\I64 b/\St w0 H (f++([(d,oc #[.nilIface] 25)]++(i++(e++L)))) w/\Fr 36 [(0,n),(2,(pq d)),(3,o),(4,p),(5,i6 b)] a) h9 (([]:List (Val)),([]:List (Val)),(0:Int)) ?_ ?_
 exact y
 rintro _ a w⟨j,k,b,o,i,p,e,rfl,hI,l,m,k6,hS,ha⟩
 refine Ab ha ?_
 replace hV:=hV _ hI
 obtain⟨j9,hV⟩:=hV
 have f8:=g.bound
 replace hV:=hV f8
 refine zz ?_
 refine Rn hS (CN underlying42 rfl g) ?_
 refine zz ?_
 refine Ce hV ?_ ?_<;>intro j7 hV
 obtain⟨c3,c7,hV⟩:=hV
 iterate 2 refine z ?_
 refine WC.meet (fun a w=>∃D S O t P u,c3 (D,S)/\OwnSl H cV 25 O D t/\OwnSl H cV 25 P S u/\St w0 H (f++([(d,oc #[.nilIface] 25)]++(t++(u++L)))) w/\Fr 36 [(0,n),(2,(pq d)),(3,O),(4,P),(5,i6 b)] a) ?_ ?_
 rintro a w⟨D,S,O,t,P,u,hI,j3,j4,hS,ha⟩
 refine Ab ha ?_
 have hV:=c7 _ hI
 obtain⟨j8,hV⟩:=hV
 replace hS:=hS.f4.f4.f4.f4
 refine zz ?_
 exact y
 refine z ?_
 refine WC.drawns (C:=St w0 H (f++([(d,oc #[.nilIface] 25)]++(i++(e++L))))) [[],[],[],[1,2],[1,2,3],[1,2,3,4],[0,1,2,3,4,5],[],[],[],[9],[8,9,10],[8,9,10,11],[8,9,10,11,12],[0,1,2,3,4,5,6,7,8,9,10,11,12,13],[0,1,2,3,4,5,6,7,8,9,10,11,12,13,14],[0,1,2,3,4,5,6,7,8,9,10,11,12,13,14,15]] [5,6,13,14] [[0,1,2,3,4,7,8,9,10,11,12,5,6,13,14,15,16],[0,1,2,3,4,7,8,9,10,11,12,5,13,6,14,15,16],[0,1,2,3,4,7,8,9,10,11,12,13,5,6,14,15,16]] mixed (by kernel_rfl) (hS.drawn _) ?_
 refine⟨?_,?_,?_,trivial⟩
 replace hV:=hV.1
 refine Dm fun o2 a9=>?_
 refine Dm fun o3 h3=>?_
 refine Dm fun o4 h4=>?_
 obtain⟨f0,hV⟩:=hV
 refine Wd.runx rfl rfl rfl rfl (AA (Ag underlying42 sizeOf25 rfl rfl g f0)) ?_
 intro l2 g3
 intro o5 h5
 refine Wd.runs (fp:=f) rfl rfl rfl rfl (Ad isAgg25 sizeOf25 rfl g3) (fun _ h=>h) ?_
 rintro p9⟨_,rfl,hu⟩
 obtain⟨J,rfl,d8⟩:=Aw hu
 intro o6 h6
 refine Dm fun o7 B=>?_
 refine Dm fun o8 b0=>?_
 refine Dm fun o9 b1=>?_
 obtain⟨e5,hV⟩:=hV
 refine Wd.run rfl rfl rfl rfl (fun _=>Eg rfl rfl e5) fun p0 b2=>?_
 obtain⟨f1,hV⟩:=hV
 refine Wd.runx rfl rfl rfl rfl (AA (Ag underlying42 sizeOf25 rfl rfl g f1)) ?_
 intro l3 g4
 intro p1 b3
 refine Wd.runs (fp:=f) rfl rfl rfl rfl (Ad isAgg25 sizeOf25 rfl g4) (fun _ h=>h) ?_
 rintro q0⟨_,rfl,hu⟩
 obtain⟨N,rfl,d9⟩:=Aw hu
 intro p2 b4
 refine Wd.turn rfl rfl rfl fun w hS=>?_
 refine WL.builds (c:=cV) (xs:=[(ix a_1 b)]) (vs:=[.agg #[J]]) (css:=[[J]]) rfl underlying42 info25 rfl ⟨rfl,trivial⟩ rfl (by decide) rfl (by simp;rfl) ⟨[J],_,rfl,(BZ d8),rfl⟩ hS rfl (by decide) ?_
 intro q9 w v e0 hS
 refine WL.nil (DQ.mk2 hS ⟨.inr (b4 H (v++([(d,oc #[.nilIface] 25)]++(i++(e++L)))) _ (View.le.refl _) (fun _ h=>St.f2 h)),.inr (b3 _),.inr (b2 _),.inr (b1 _),.inr (b0 _),.inr (B _),il,il,il,il,.inr (a9 _),trivial⟩ ?_)
 refine Wd.turn rfl rfl rfl fun w hS=>?_
 obtain⟨b9,hV⟩:=hV
 replace hS:=hS.f4
 refine WL.append (c:=cV) (xs:=j) (ys:=([(ix a_1 b)])) rfl underlying42 info25 rfl rfl rfl hS l (e0.src hS.f2) b9.1 b9.2 ?_
 intro r0 w V j5 hS
 refine WL.nil (DQ.mk2 hS ⟨.inr (b4 H (V++(v++([(d,oc #[.nilIface] 25)]++(e++L)))) _ (View.le.refl _) (fun _ h=>St.f3 h)),.inr (b3 _),.inr (b2 _),.inr (b1 _),.inr (b0 _),.inr (B _),il,il,il,il,il,trivial⟩ ?_)
 refine Wd.turn rfl rfl rfl fun w hS=>?_
 refine WL.builds (c:=cV) (xs:=[(ix a_1 (b+(1:Int)))]) (vs:=[.agg #[N]]) (css:=[[N]]) rfl underlying42 info25 rfl ⟨rfl,trivial⟩ rfl (by decide) rfl (by simp;rfl) ⟨[N],_,rfl,(BZ d9),rfl⟩ hS rfl (by decide) ?_
 intro r1 w c6 e1 hS
 refine WL.nil (DQ.mk2 hS ⟨il,il,il,il,il,.inr (B _),.inr (h6 H (c6++(V++(v++([(d,oc #[.nilIface] 25)]++(e++L))))) _ (View.le.refl _) (fun _ h=>St.f4 h)),.inr (h5 _),.inr (h4 _),.inr (h3 _),.inr (a9 _),trivial⟩ ?_)
 refine Wd.turn rfl rfl rfl fun w hS=>?_
 obtain⟨c0,hV⟩:=hV
 replace hS:=hS.f6
 refine WL.append (c:=cV) (xs:=k) (ys:=([(ix a_1 (b+(1:Int)))])) rfl underlying42 info25 rfl rfl rfl hS m (e1.src hS.f2) c0.1 c0.2 ?_
 intro r2 w i2 i7 hS
 refine WL.nil (DQ.mk2 hS ⟨il,il,il,il,il,il,il,il,il,il,il,trivial⟩ ?_)
 refine Wd.run rfl rfl rfl rfl (fun _=>Ba rfl) fun l4 k0=>?_
 refine Wd.run rfl rfl rfl rfl (fun _=>Ba rfl) fun l5 k1=>?_
 refine Wd.nil fun w hS=>?_
 replace hS:=hS.f2.drop
 replace hS:=hS.f3.drop
 replace hS:=hS.f2.f4.f4
 refine zz ?_
 exact y
 replace hV:=hV.2.1
 refine Dm fun l6 W=>?_
 refine Dm fun l7 g5=>?_
 refine Dm fun l8 g6=>?_
 obtain⟨e6,hV⟩:=hV
 refine Wd.runx rfl rfl rfl rfl (AA (Ag underlying42 sizeOf25 rfl rfl g e6)) ?_
 intro k8 f9
 intro l9 g7
 refine Wd.runs (fp:=f) rfl rfl rfl rfl (Ad isAgg25 sizeOf25 rfl f9) (fun _ h=>h) ?_
 rintro p4⟨_,rfl,hu⟩
 obtain⟨E,rfl,c8⟩:=Aw hu
 intro m0 g8
 refine Dm fun m1 x=>?_
 refine Dm fun m2 Y=>?_
 refine Dm fun m3 Z=>?_
 obtain⟨e2,hV⟩:=hV
 refine Wd.run rfl rfl rfl rfl (fun _=>Eg rfl rfl e2) fun m4 a0=>?_
 obtain⟨e7,hV⟩:=hV
 refine Wd.runx rfl rfl rfl rfl (AA (Ag underlying42 sizeOf25 rfl rfl g e7)) ?_
 intro k9 g0
 intro m5 a1
 refine Wd.runs (fp:=f) rfl rfl rfl rfl (Ad isAgg25 sizeOf25 rfl g0) (fun _ h=>h) ?_
 rintro p5⟨_,rfl,hu⟩
 obtain⟨F,rfl,c9⟩:=Aw hu
 intro m6 a2
 refine Wd.turn rfl rfl rfl fun w hS=>?_
 refine WL.builds (c:=cV) (xs:=[(ix a_1 b)]) (vs:=[.agg #[E]]) (css:=[[E]]) rfl underlying42 info25 rfl ⟨rfl,trivial⟩ rfl (by decide) rfl (by simp;rfl) ⟨[E],_,rfl,(BZ c8),rfl⟩ hS rfl (by decide) ?_
 intro q1 w q d0 hS
 refine WL.nil (DQ.mk2 hS ⟨.inr (a2 H (q++([(d,oc #[.nilIface] 25)]++(i++(e++L)))) _ (View.le.refl _) (fun _ h=>St.f2 h)),.inr (a1 _),.inr (a0 _),.inr (Z _),.inr (Y _),.inr (x _),il,il,il,il,.inr (W _),trivial⟩ ?_)
 refine Wd.turn rfl rfl rfl fun w hS=>?_
 refine WL.builds (c:=cV) (xs:=[(ix a_1 (b+(1:Int)))]) (vs:=[.agg #[F]]) (css:=[[F]]) rfl underlying42 info25 rfl ⟨rfl,trivial⟩ rfl (by decide) rfl (by simp;rfl) ⟨[F],_,rfl,(BZ c9),rfl⟩ hS rfl (by decide) ?_
 intro q2 w T d1 hS
 refine WL.nil (DQ.mk2 hS ⟨il,il,il,il,il,.inr (x _),.inr (g8 H (T++(q++([(d,oc #[.nilIface] 25)]++(i++(e++L))))) _ (View.le.refl _) (fun _ h=>St.f3 h)),.inr (g7 _),.inr (g6 _),.inr (g5 _),.inr (W _),trivial⟩ ?_)
 refine Wd.turn rfl rfl rfl fun w hS=>?_
 obtain⟨b5,hV⟩:=hV
 replace hS:=hS.f2.f5
 refine WL.append (c:=cV) (xs:=j) (ys:=([(ix a_1 b)])) rfl underlying42 info25 rfl rfl rfl hS l (d0.src hS.f2) b5.1 b5.2 ?_
 intro q3 w c4 i8 hS
 refine WL.nil (DQ.mk2 hS ⟨.inr (a2 H (c4++(q++(T++([(d,oc #[.nilIface] 25)]++(e++L))))) _ (View.le.refl _) (fun _ h=>St.f4 h)),.inr (a1 _),.inr (a0 _),.inr (Z _),.inr (Y _),.inr (x _),il,il,il,il,il,trivial⟩ ?_)
 refine Wd.turn rfl rfl rfl fun w hS=>?_
 obtain⟨b6,hV⟩:=hV
 replace hS:=hS.f3.f6
 refine WL.append (c:=cV) (xs:=k) (ys:=([(ix a_1 (b+(1:Int)))])) rfl underlying42 info25 rfl rfl rfl hS m (d1.src hS.f2) b6.1 b6.2 ?_
 intro q4 w i3 i9 hS
 refine WL.nil (DQ.mk2 hS ⟨il,il,il,il,il,il,il,il,il,il,il,trivial⟩ ?_)
 refine Wd.run rfl rfl rfl rfl (fun _=>Ba rfl) fun m7 k2=>?_
 refine Wd.run rfl rfl rfl rfl (fun _=>Ba rfl) fun m8 k3=>?_
 refine Wd.nil fun w hS=>?_
 replace hS:=hS.f2.drop
 replace hS:=hS.f3.drop
 replace hS:=hS.f2.f4.f4
 refine zz ?_
 exact y
 replace hV:=hV.2.2
 refine Dm fun m9 a3=>?_
 refine Dm fun n0 g9=>?_
 refine Dm fun n1 h0=>?_
 obtain⟨e8,hV⟩:=hV
 refine Wd.runx rfl rfl rfl rfl (AA (Ag underlying42 sizeOf25 rfl rfl g e8)) ?_
 intro l0 g1
 intro n2 h1
 refine Wd.runs (fp:=f) rfl rfl rfl rfl (Ad isAgg25 sizeOf25 rfl g1) (fun _ h=>h) ?_
 rintro p6⟨_,rfl,hu⟩
 obtain⟨G,rfl,d2⟩:=Aw hu
 intro n3 h2
 refine Dm fun n4 A=>?_
 refine Dm fun n5 a4=>?_
 refine Dm fun n6 a5=>?_
 obtain⟨e3,hV⟩:=hV
 refine Wd.run rfl rfl rfl rfl (fun _=>Eg rfl rfl e3) fun n7 a6=>?_
 obtain⟨e9,hV⟩:=hV
 refine Wd.runx rfl rfl rfl rfl (AA (Ag underlying42 sizeOf25 rfl rfl g e9)) ?_
 intro l1 g2
 intro n8 a7
 refine Wd.runs (fp:=f) rfl rfl rfl rfl (Ad isAgg25 sizeOf25 rfl g2) (fun _ h=>h) ?_
 rintro p7⟨_,rfl,hu⟩
 obtain⟨I,rfl,d3⟩:=Aw hu
 intro n9 a8
 refine Wd.turn rfl rfl rfl fun w hS=>?_
 refine WL.builds (c:=cV) (xs:=[(ix a_1 (b+(1:Int)))]) (vs:=[.agg #[I]]) (css:=[[I]]) rfl underlying42 info25 rfl ⟨rfl,trivial⟩ rfl (by decide) rfl (by simp;rfl) ⟨[I],_,rfl,(BZ d3),rfl⟩ hS rfl (by decide) ?_
 intro q5 w r d4 hS
 refine WL.nil (DQ.mk2 hS ⟨il,il,il,il,il,.inr (A _),.inr (h2 H (r++([(d,oc #[.nilIface] 25)]++(i++(e++L)))) _ (View.le.refl _) (fun _ h=>St.f2 h)),.inr (h1 _),.inr (h0 _),.inr (g9 _),.inr (a3 _),trivial⟩ ?_)
 refine Wd.turn rfl rfl rfl fun w hS=>?_
 refine WL.builds (c:=cV) (xs:=[(ix a_1 b)]) (vs:=[.agg #[G]]) (css:=[[G]]) rfl underlying42 info25 rfl ⟨rfl,trivial⟩ rfl (by decide) rfl (by simp;rfl) ⟨[G],_,rfl,(BZ d2),rfl⟩ hS rfl (by decide) ?_
 intro q6 w U d5 hS
 refine WL.nil (DQ.mk2 hS ⟨.inr (a8 H (U++(r++([(d,oc #[.nilIface] 25)]++(i++(e++L))))) _ (View.le.refl _) (fun _ h=>St.f3 h)),.inr (a7 _),.inr (a6 _),.inr (a5 _),.inr (a4 _),.inr (A _),il,il,il,il,.inr (a3 _),trivial⟩ ?_)
 refine Wd.turn rfl rfl rfl fun w hS=>?_
 obtain⟨b7,hV⟩:=hV
 replace hS:=hS.f5
 refine WL.append (c:=cV) (xs:=j) (ys:=([(ix a_1 b)])) rfl underlying42 info25 rfl rfl rfl hS l (d5.src hS.f2) b7.1 b7.2 ?_
 intro q7 w c5 j0 hS
 refine WL.nil (DQ.mk2 hS ⟨.inr (a8 H (c5++(U++(r++([(d,oc #[.nilIface] 25)]++(e++L))))) _ (View.le.refl _) (fun _ h=>St.f4 h)),.inr (a7 _),.inr (a6 _),.inr (a5 _),.inr (a4 _),.inr (A _),il,il,il,il,il,trivial⟩ ?_)
 refine Wd.turn rfl rfl rfl fun w hS=>?_
 obtain⟨b8,hV⟩:=hV
 replace hS:=hS.f3.f6
 refine WL.append (c:=cV) (xs:=k) (ys:=([(ix a_1 (b+(1:Int)))])) rfl underlying42 info25 rfl rfl rfl hS m (d4.src hS.f2) b8.1 b8.2 ?_
 intro q8 w i4 j1 hS
 refine WL.nil (DQ.mk2 hS ⟨il,il,il,il,il,il,il,il,il,il,il,trivial⟩ ?_)
 refine Wd.run rfl rfl rfl rfl (fun _=>Ba rfl) fun o0 k4=>?_
 refine Wd.run rfl rfl rfl rfl (fun _=>Ba rfl) fun o1 k5=>?_
 refine Wd.nil fun w hS=>?_
 replace hS:=hS.f2.drop
 replace hS:=hS.f3.drop
 replace hS:=hS.f2.f4.f4
 refine zz ?_
 exact y
 have f7:=g.bound
 replace hV:=hV f7
 refine zz ?_
 refine Rn hS (CN underlying42 rfl g) ?_
 obtain⟨e4,hV⟩:=hV
 refine Rn hS (QW rfl rfl e4) ?_
 refine zz ?_
 refine Ce hV ?_ ?_<;>intro j6 hV
 refine zz ?_
 refine Rn hS bV ?_
 replace hS:=hS.f2
 refine sA hS ?_
 intro w hS
 replace hS:=hS.f3.drop
 replace hS:=hS.f3.drop
 refine zz ?_
 exact vc
 replace hS:=hS.f3
 refine zz ?_
 obtain⟨c1,h7,d6,hS⟩:∃K,View.le H K/\IsSl K cV o j/\St w0 K (f++([(d,oc #[.nilIface] 25)]++(e++L))) w:=⟨_,hS.put_le,l.share hS.put_le,hS.freeze⟩
 replace hS:=hS.f3
 obtain⟨i0,h8,d7,hS⟩:∃K,View.le c1 K/\IsSl K cV p k/\St w0 K (f++([(d,oc #[.nilIface] 25)]++L)) w:=⟨_,hS.put_le,(m.mono h7).share hS.put_le,hS.freeze⟩
 refine Rd call65 (DY (d6.mono h8) d7 hS hV) ?_
 rintro _ w⟨p3,p8,i1,hV,rfl,k7,j2,hS⟩
 replace hS:=hS.f2
 refine sA hS ?_
 intro w hS
 refine zz ?_
 exact vc
theorem OL{b:Value}{a_1:List Val}{a:Ar}{Q:Val->Prop}(f:Bor H cV b a_1 a)(hS:St w0 H (a++L) w)(hV:ED a_1 Q):
 Cl 177 #[b] w (pV w0 H (a++L) Q):=by
 refine BW func177 ntmps177 ?_
 refine zz ?_
 refine aV hS ?_
 intro c w hS
 replace hS:=hS.f2
 refine zz ?_
 refine Rd call154 (FJ f hS hV) ?_
 rintro _ w⟨g,h,k,hV,rfl,d,hS⟩
 obtain⟨i,m,e,hS⟩:∃K,View.le H K/\IsSl K cV h g/\St w0 K (a++([(c,oc #[.nilIface] 25)]++L)) w:=⟨_,hS.put_le,d.share hS.put_le,hS.freeze⟩
 refine Rd call61 (Dq e hS hV) ?_
 rintro _ w⟨o,p,j,hV,rfl,n,l,hS⟩
 replace hS:=hS.f2
 refine sA hS ?_
 intro w hS
 refine zz ?_
 exact vc
theorem OI{c:Value}{a_1:List Val}{a:Ar}{Q:Val->Prop}(b:Bor H cV c a_1 a)(hS:St w0 H (a++L) w)(hV:Es a_1 Q):
 Cl 178 #[c] w (pV w0 H (a++L) Q):=by
 refine BW func178 ntmps178 ?_
 refine zz ?_
 refine aV hS ?_
 intro l w hS
 iterate 2 refine z ?_
 refine WC.drawn (σ:=[0,1,2,3,4,5,6,7]) [[],[0],[0,1],[],[3],[3,4],[0,1,2,3,4,5],[0,1,2,3,4,5,6]] [6,7] mixed (by kernel_rfl) (hS.drawn _) ?_
 refine Dm fun E s=>?_
 obtain⟨f,hV⟩:=hV
 refine Wd.runx rfl rfl rfl rfl (AA (Ag underlying42 sizeOf25 rfl rfl b f)) ?_
 intro u i
 intro x n
 refine Wd.runs (fp:=a) rfl rfl rfl rfl (Ad isAgg25 sizeOf25 rfl i) (fun _ h=>St.f2 h) ?_
 rintro G⟨_,rfl,hu⟩
 obtain⟨I,rfl,d⟩:=Aw hu
 intro A o
 refine Dm fun B p=>?_
 obtain⟨g,hV⟩:=hV
 refine Wd.runx rfl rfl rfl rfl (AA (Ag underlying42 sizeOf25 rfl rfl b g)) ?_
 intro v j
 intro C q
 refine Wd.runs (fp:=a) rfl rfl rfl rfl (Ad isAgg25 sizeOf25 rfl j) (fun _ h=>St.f2 h) ?_
 rintro J⟨_,rfl,hu⟩
 obtain⟨K,rfl,e⟩:=Aw hu
 intro D r
 refine Wd.turn rfl rfl rfl fun w hS=>?_
 refine Rd call179 (Aem d e hS hV) ?_
 rintro _ w⟨F,N,k,hV,rfl,t,m,hS⟩
 refine WL.nil (DQ.mk2 hS ⟨il,il,il,il,il,il,trivial⟩ ?_)
 refine Wd.turn rfl rfl rfl fun w hS=>?_
 refine sA hS ?_
 intro w hS
 refine WL.nil (DQ.mk2 hS ⟨il,il,il,il,il,il,trivial⟩ ?_)
 refine Wd.nil fun w hS=>?_
 refine zz ?_
 exact vc
theorem OJ{c:Value}{a_1:List Val}{a:Ar}{Q:Val->Prop}(b:Bor H cV c a_1 a)(hS:St w0 H (a++L) w)(hV:EB a_1 Q):
 Cl 180 #[c] w (pV w0 H (a++L) Q):=by
 refine BW func180 ntmps180 ?_
 refine zz ?_
 refine aV hS ?_
 intro o w hS
 iterate 2 refine z ?_
 refine WC.drawn (σ:=[0,1,2,3,4,5,6,7,8,9,10]) [[],[0],[0,1],[],[3],[3,4],[],[6],[6,7],[0,1,2,3,4,5,6,7,8],[0,1,2,3,4,5,6,7,8,9]] [9,10] mixed (by kernel_rfl) (hS.drawn _) ?_
 refine Dm fun T B=>?_
 obtain⟨g,hV⟩:=hV
 refine Wd.runx rfl rfl rfl rfl (AA (Ag underlying42 sizeOf25 rfl rfl b g)) ?_
 intro D k
 intro G q
 refine Wd.runs (fp:=a) rfl rfl rfl rfl (Ad isAgg25 sizeOf25 rfl k) (fun _ h=>St.f2 h) ?_
 rintro V⟨_,rfl,hu⟩
 obtain⟨W,rfl,d⟩:=Aw hu
 intro I r
 refine Dm fun J s=>?_
 obtain⟨i,hV⟩:=hV
 refine Wd.runx rfl rfl rfl rfl (AA (Ag underlying42 sizeOf25 rfl rfl b i)) ?_
 intro E l
 intro K t
 refine Wd.runs (fp:=a) rfl rfl rfl rfl (Ad isAgg25 sizeOf25 rfl l) (fun _ h=>St.f2 h) ?_
 rintro Y⟨_,rfl,hu⟩
 obtain⟨Z,rfl,e⟩:=Aw hu
 intro N u
 refine Dm fun O v=>?_
 obtain⟨j,hV⟩:=hV
 refine Wd.runx rfl rfl rfl rfl (AA (Ag underlying42 sizeOf25 rfl rfl b j)) ?_
 intro F m
 intro P x
 refine Wd.runs (fp:=a) rfl rfl rfl rfl (Ad isAgg25 sizeOf25 rfl m) (fun _ h=>St.f2 h) ?_
 rintro a0⟨_,rfl,hu⟩
 obtain⟨a1,rfl,f⟩:=Aw hu
 intro S A
 refine Wd.turn rfl rfl rfl fun w hS=>?_
 refine Rd call181 (AcR d e f hS hV) ?_
 rintro _ w⟨U,a2,n,hV,rfl,C,p,hS⟩
 refine WL.nil (DQ.mk2 hS ⟨il,il,il,il,il,il,il,il,il,trivial⟩ ?_)
 refine Wd.turn rfl rfl rfl fun w hS=>?_
 refine sA hS ?_
 intro w hS
 refine WL.nil (DQ.mk2 hS ⟨il,il,il,il,il,il,il,il,il,trivial⟩ ?_)
 refine Wd.nil fun w hS=>?_
 refine zz ?_
 exact vc
theorem OV{d:Value}{a_1:List Val}{c:Ar}{Q:Val->Prop}(i:Bor H cV d a_1 c)(hS:St w0 H (c++L) w)(hV:Ex a_1 Q):
 Cl 182 #[d] w (pV w0 H (c++L) Q):=by
 refine BW func182 ntmps182 ?_
 have c1:=@IK;have d1:=call99
 refine zz ?_
 refine aV hS ?_
 intro f w hS
 obtain⟨j,hV⟩:=hV
 refine zz ?_
 refine Rx hS (Ag underlying42 sizeOf25 rfl rfl i j) ?_
 intro t l
 replace hS:=hS.f2
 refine Rx hS (BG (H:=H) (L:=[(f,oc #[.nilIface] 25)]++L) (Ad isAgg25 sizeOf25 rfl l)) ?_
 rintro C⟨_,rfl,hu⟩
 obtain⟨D,rfl,g⟩:=Aw hu
 refine Rd call183 (MH g hS hV) ?_
 rintro _ w⟨x,A,B,v_15,E,m,hV,rfl,r,n,o,hS⟩
 exact Z
theorem OG{c:Value}{a_1:List Val}{a:Ar}{Q:Val->Prop}(g:Bor H cV c a_1 a)(hS:St w0 H (a++L) w)(hV:Ez a_1 Q):
 Cl 184 #[c] w (pV w0 H (a++L) Q):=by
 refine BW func184 ntmps184 ?_
 refine zz ?_
 refine aV hS ?_
 intro b w hS
 obtain⟨h,hV⟩:=hV
 refine zz ?_
 refine Rx hS (Ag underlying42 sizeOf25 rfl rfl g h) ?_
 intro r i
 replace hS:=hS.f2
 refine Rx hS (BG (H:=H) (L:=[(b,oc #[.nilIface] 25)]++L) (Ad isAgg25 sizeOf25 rfl i)) ?_
 rintro A⟨_,rfl,hu⟩
 obtain⟨B,rfl,d⟩:=Aw hu
 refine Rd call183 (MH d hS hV) ?_
 rintro _ w⟨s,t,u,v_15,D,j,hV,rfl,p,m,e,hS⟩
 refine zz ?_
 refine Cf hV ?_ ?_<;>intro o hV
 refine zz ?_
 refine Rd call154 (FJ (L:=a++([(b,oc #[.nilIface] 25)]++L)) (IsSl.bor (fp:=[]) e) hS hV) ?_
 rintro _ w⟨v,E,l,hV,rfl,f,hS⟩
 simp only[List.nil_append] at hS
 refine Rd call60 (HA f hS hV) ?_
 rintro _ w⟨x,C,k,hV,rfl,q,n,hS⟩
 replace hS:=hS.f2
 refine sA hS ?_
 intro w hS
 refine zz ?_
 exact vc
 refine zz ?_
 refine Rn hS bV ?_
 replace hS:=hS.f2
 refine sA hS ?_
 intro w hS
 refine zz ?_
 exact vc
theorem OX{f:Value}{e:List Val}{g:Value}{b:List Val}{a:Ar}{Q:Val->Prop}(c:IsSl H cV f e)(j:Bor H cV g b a)(hS:St w0 H (a++L) w)(hV:Gt e b Q):
 Cl 185 #[f,g] w (pV w0 H (a++L) Q):=by
 refine Co func185 ntmps185 ?_
 refine zz ?_
 refine aV hS ?_
 intro b_9 w hS
 have d:=c.bound
 replace hV:=hV d
 refine zz ?_
 refine Rn hS (Ao underlying42 rfl c) ?_
 refine Rd call100 (Cz (Len.i64 d) hS hV) ?_
 rintro _ w⟨l,m,h,hV,rfl,k,i,hS⟩
 refine sA hS ?_
 intro w hS
 refine zz ?_
 exact vc
theorem OK{g:Value}{f:List Val}{i:Value}{d:List Val}{c:Ar}{Q:Val->Prop}(j:IsSl H cV g f)(l:Bor H cV i d c)(hS:St w0 H (c++L) w)(hV:EC f d Q):
 Cl 186 #[g,i] w (pV w0 H (c++L) Q):=by
 unfold EC at hV
 refine Co func186 ntmps186 ?_
 exact Z
theorem Nf{e:Value}{d:List Val}{f:Value}{c:List Val}{a:Ar}{Q:Val->Prop}(b:IsSl H cV e d)(r:Bor H cV f c a)(hS:St w0 H (a++L) w)(hV:FM d c Q):
 Cl 187 #[e,f] w (pV w0 H (a++L) Q):=by
 refine Co func187 ntmps187 ?_
 refine zz ?_
 refine aV hS ?_
 intro b_9 w hS
 have k:=b.bound
 replace hV:=hV k
 refine zz ?_
 refine Rn hS (Ao underlying42 rfl b) ?_
 refine zz ?_
 refine Ce hV ?_ ?_<;>intro s hV
 refine zz ?_
 refine Rn hS bV ?_
 refine sA hS ?_
 intro w hS
 refine zz ?_
 exact vc
 obtain⟨j,hV⟩:=hV
 refine zz ?_
 refine Rx hS (Md underlying42 sizeOf25 rfl rfl b j) ?_
 intro v_15 g
 refine Rd call154 (FJ (L:=[(b_9,oc #[.nilIface] 25)]++(a++L)) (IsSl.bor (fp:=[]) g) hS hV) ?_
 rintro _ w⟨l,m,p,hV,rfl,h,hS⟩
 simp only[List.nil_append] at hS
 obtain⟨n,t,i,hS⟩:∃K,View.le H K/\IsSl K cV m l/\St w0 K ([(b_9,oc #[.nilIface] 25)]++(a++L)) w:=⟨_,hS.put_le,h.share hS.put_le,hS.freeze⟩
 refine Rd call61 (Dq i hS hV) ?_
 rintro _ w⟨v,x,o,hV,rfl,u,q,hS⟩
 refine sA hS ?_
 intro w hS
 refine zz ?_
 exact vc
theorem OD{e:Value}{d:List Val}{f:Value}{b:List Val}{a:Ar}{Q:Val->Prop}(m:IsSl H cV e d)(n:Bor H cV f b a)(hS:St w0 H (a++L) w)(hV:FX d b Q):
 Cl 188 #[e,f] w (pV w0 H (a++L) Q):=by
 refine Co func188 ntmps188 ?_
 refine zz ?_
 refine aV hS ?_
 intro b_9 w hS
 obtain⟨o,hV⟩:=hV
 refine zz ?_
 refine Rx hS (Fb underlying42 sizeOf25 rfl rfl n o) ?_
 intro q h
 refine WL.buildn (c:=(Rt cV a)) (xs:=[d,(b.drop (1:Int).toNat)]) (vs:=[e,q]) rfl underlying204 info42 rfl rfl ⟨rfl,rfl,trivial⟩ rfl ⟨_,_,rfl,(IQ (IsSl.bor m)),⟨_,_,rfl,(IQ h),rfl⟩⟩ hS rfl ?_
 intro v_15 w u i hS
 obtain⟨g,A,j,hS⟩:∃K,View.le H K/\IsSl K (Rt cV a) v_15 ([d,(b.drop (1:Int).toNat)])/\St w0 K ([(b_9,oc #[.nilIface] 25)]++(a++L)) w:=⟨_,hS.put_le,i.share hS.put_le,hS.freeze⟩
 replace hS:=hS.f2
 refine Rd call161 (Lw j hS hV) ?_
 rintro _ w⟨p,r,v,hV,rfl,k,hS⟩
 obtain⟨s,B,l,hS⟩:∃K,View.le g K/\IsSl K cV r p/\St w0 K (a++([(b_9,oc #[.nilIface] 25)]++L)) w:=⟨_,hS.put_le,k.share hS.put_le,hS.freeze⟩
 refine Rd call61 (Dq l hS hV) ?_
 rintro _ w⟨D,E,t,hV,rfl,C,x,hS⟩
 replace hS:=hS.f2
 refine sA hS ?_
 intro w hS
 refine zz ?_
 exact vc
theorem NP{d:Value}{b:List Val}{g:Value}{e:List Val}{a:Ar}{Q:Val->Prop}(n:IsSl H cV d b)(q:Bor H cV g e a)(hS:St w0 H (a++L) w)(hV:FF b e Q):
 Cl 189 #[d,g] w (pV w0 H (a++L) Q):=by
 refine Co func189 ntmps189 ?_
 refine zz ?_
 refine aV hS ?_
 intro b_9 w hS
 obtain⟨r,hV⟩:=hV
 refine zz ?_
 refine Rx hS (Ag underlying42 sizeOf25 rfl rfl q r) ?_
 intro O s
 replace hS:=hS.f2
 refine Rx hS (BG (H:=H) (L:=[(b_9,oc #[.nilIface] 25)]++L) (Ad isAgg25 sizeOf25 rfl s)) ?_
 rintro T⟨_,rfl,hu⟩
 obtain⟨U,rfl,j⟩:=Aw hu
 refine Rd call175 (Ns j hS hV) ?_
 rintro _ w⟨f,P,v,h,hV,rfl,t,k,hS⟩
 refine zz ?_
 refine Cf hV ?_ ?_<;>intro G hV
 refine zz ?_
 refine WL.buildn (c:=(Rt cV ([]:Ar))) (xs:=[b,f]) (vs:=[d,v]) rfl underlying204 info42 rfl rfl ⟨rfl,rfl,trivial⟩ rfl ⟨_,_,rfl,(IQ (IsSl.bor (n.mono t))),⟨_,_,rfl,(IQ (IsSl.bor k)),rfl⟩⟩ hS rfl ?_
 intro x w D l hS
 obtain⟨i,I,m,hS⟩:∃K,View.le h K/\IsSl K (Rt cV ([]:Ar)) x ([b,f])/\St w0 K (a++([(b_9,oc #[.nilIface] 25)]++L)) w:=⟨_,hS.put_le,l.share hS.put_le,hS.freeze⟩
 refine Rd call161 (Lw (L:=a++([(b_9,oc #[.nilIface] 25)]++L)) m hS hV) ?_
 rintro _ w⟨u,A,E,hV,rfl,o,hS⟩
 simp only[List.nil_append] at hS
 obtain⟨B,J,p,hS⟩:∃K,View.le i K/\IsSl K cV A u/\St w0 K (a++([(b_9,oc #[.nilIface] 25)]++L)) w:=⟨_,hS.put_le,o.share hS.put_le,hS.freeze⟩
 refine Rd call61 (Dq p hS hV) ?_
 rintro _ w⟨S,V,C,hV,rfl,N,F,hS⟩
 replace hS:=hS.f2
 refine sA hS ?_
 intro w hS
 refine zz ?_
 exact vc
 refine zz ?_
 refine Rn hS bV ?_
 replace hS:=hS.f2
 refine sA hS ?_
 intro w hS
 refine zz ?_
 exact vc
theorem RZ{a:Aa}{Q:Int->(Option EA)->Prop}(hS:St w0 H L w)(hV:BC a Q):
 Cl 77 #[sv a] w (pO w0 H L Q):=by
 refine BW func77 ntmps77 ?_
 refine zz ?_
 refine aO hS ?_
 intro n w hS
 refine zz ?_
 refine Ce hV ?_ ?_<;>intro J hV
 refine zz ?_
 refine Rn hS (Aq (vs:=[i6 (-1),.func (.func 176) #[] #[]]) (zc:=#[i6 0,.nilFunc]) (cs:=#[i6 (-1),.func (.func 176) #[] #[]]) (places:=#[(0,1),(1,1)]) underlying78 zeroValue78 (fun w=>by simp[sizeOf3,sizeOf76]) rfl ⟨rfl,rfl,trivial⟩ rfl Zf) ?_
 refine Ee #[i6 (-1),.func (.func 176) #[] #[]] sizeOf78 hS ?_
 intro w hS
 have b:=An (P:=Tryz.prog) (cs:=[i6 (-1),.func (.func 176) #[] #[]]) isAgg78 sizeOf78 hS rfl
 replace hS:=hS.drop
 refine zz ?_
 exact AZ (il) rfl rfl b (⟨(-1),(some (fun x Q=>DA x Q)),(.func (.func 176) #[] #[]),H,hV,rfl,(View.le.refl _),(show I64 ((-1):Int) by unfold I64;omega),(FvB.A (g:=(fun x Q=>DA x Q)) (caps:=[]) call176 (fun hle hx hS hV=>OP hx hS hV)),hS⟩)
 refine zz ?_
 refine Ce hV ?_ ?_<;>intro I hV
 refine zz ?_
 refine Rn hS (Aq (vs:=[i6 (-1),.func (.func 177) #[] #[]]) (zc:=#[i6 0,.nilFunc]) (cs:=#[i6 (-1),.func (.func 177) #[] #[]]) (places:=#[(0,1),(1,1)]) underlying78 zeroValue78 (fun w=>by simp[sizeOf3,sizeOf76]) rfl ⟨rfl,rfl,trivial⟩ rfl Zf) ?_
 refine Ee #[i6 (-1),.func (.func 177) #[] #[]] sizeOf78 hS ?_
 intro w hS
 have c:=An (P:=Tryz.prog) (cs:=[i6 (-1),.func (.func 177) #[] #[]]) isAgg78 sizeOf78 hS rfl
 replace hS:=hS.drop
 refine zz ?_
 exact AZ (il) rfl rfl c (⟨(-1),(some (fun x Q=>ED x Q)),(.func (.func 177) #[] #[]),H,hV,rfl,(View.le.refl _),(show I64 ((-1):Int) by unfold I64;omega),(FvB.A (g:=(fun x Q=>ED x Q)) (caps:=[]) call177 (fun hle hx hS hV=>OL hx hS hV)),hS⟩)
 refine zz ?_
 refine Ce hV ?_ ?_<;>intro G hV
 refine zz ?_
 refine Rn hS (Aq (vs:=[i6 (2:Int),.func (.func 178) #[] #[]]) (zc:=#[i6 0,.nilFunc]) (cs:=#[i6 (2:Int),.func (.func 178) #[] #[]]) (places:=#[(0,1),(1,1)]) underlying78 zeroValue78 (fun w=>by simp[sizeOf3,sizeOf76]) rfl ⟨rfl,rfl,trivial⟩ rfl Zf) ?_
 refine Ee #[i6 (2:Int),.func (.func 178) #[] #[]] sizeOf78 hS ?_
 intro w hS
 have d:=An (P:=Tryz.prog) (cs:=[i6 (2:Int),.func (.func 178) #[] #[]]) isAgg78 sizeOf78 hS rfl
 replace hS:=hS.drop
 refine zz ?_
 exact AZ (il) rfl rfl d (⟨(2:Int),(some (fun x Q=>Es x Q)),(.func (.func 178) #[] #[]),H,hV,rfl,(View.le.refl _),(show I64 (2:Int) by unfold I64;omega),(FvB.A (g:=(fun x Q=>Es x Q)) (caps:=[]) call178 (fun hle hx hS hV=>OI hx hS hV)),hS⟩)
 refine zz ?_
 refine Ce hV ?_ ?_<;>intro F hV
 refine zz ?_
 refine Rn hS (Aq (vs:=[i6 (3:Int),.func (.func 180) #[] #[]]) (zc:=#[i6 0,.nilFunc]) (cs:=#[i6 (3:Int),.func (.func 180) #[] #[]]) (places:=#[(0,1),(1,1)]) underlying78 zeroValue78 (fun w=>by simp[sizeOf3,sizeOf76]) rfl ⟨rfl,rfl,trivial⟩ rfl Zf) ?_
 refine Ee #[i6 (3:Int),.func (.func 180) #[] #[]] sizeOf78 hS ?_
 intro w hS
 have e:=An (P:=Tryz.prog) (cs:=[i6 (3:Int),.func (.func 180) #[] #[]]) isAgg78 sizeOf78 hS rfl
 replace hS:=hS.drop
 refine zz ?_
 exact AZ (il) rfl rfl e (⟨(3:Int),(some (fun x Q=>EB x Q)),(.func (.func 180) #[] #[]),H,hV,rfl,(View.le.refl _),(show I64 (3:Int) by unfold I64;omega),(FvB.A (g:=(fun x Q=>EB x Q)) (caps:=[]) call180 (fun hle hx hS hV=>OJ hx hS hV)),hS⟩)
 refine zz ?_
 refine Ce hV ?_ ?_<;>intro E hV
 refine zz ?_
 refine Rn hS (Aq (vs:=[i6 (1:Int),.func (.func 182) #[] #[]]) (zc:=#[i6 0,.nilFunc]) (cs:=#[i6 (1:Int),.func (.func 182) #[] #[]]) (places:=#[(0,1),(1,1)]) underlying78 zeroValue78 (fun w=>by simp[sizeOf3,sizeOf76]) rfl ⟨rfl,rfl,trivial⟩ rfl Zf) ?_
 refine Ee #[i6 (1:Int),.func (.func 182) #[] #[]] sizeOf78 hS ?_
 intro w hS
 have f:=An (P:=Tryz.prog) (cs:=[i6 (1:Int),.func (.func 182) #[] #[]]) isAgg78 sizeOf78 hS rfl
 replace hS:=hS.drop
 refine zz ?_
 exact AZ (il) rfl rfl f (⟨(1:Int),(some (fun x Q=>Ex x Q)),(.func (.func 182) #[] #[]),H,hV,rfl,(View.le.refl _),(show I64 (1:Int) by unfold I64;omega),(FvB.A (g:=(fun x Q=>Ex x Q)) (caps:=[]) call182 (fun hle hx hS hV=>OV hx hS hV)),hS⟩)
 refine zz ?_
 refine Ce hV ?_ ?_<;>intro D hV
 refine zz ?_
 refine Rn hS (Aq (vs:=[i6 (1:Int),.func (.func 184) #[] #[]]) (zc:=#[i6 0,.nilFunc]) (cs:=#[i6 (1:Int),.func (.func 184) #[] #[]]) (places:=#[(0,1),(1,1)]) underlying78 zeroValue78 (fun w=>by simp[sizeOf3,sizeOf76]) rfl ⟨rfl,rfl,trivial⟩ rfl Zf) ?_
 refine Ee #[i6 (1:Int),.func (.func 184) #[] #[]] sizeOf78 hS ?_
 intro w hS
 have h:=An (P:=Tryz.prog) (cs:=[i6 (1:Int),.func (.func 184) #[] #[]]) isAgg78 sizeOf78 hS rfl
 replace hS:=hS.drop
 refine zz ?_
 exact AZ (il) rfl rfl h (⟨(1:Int),(some (fun x Q=>Ez x Q)),(.func (.func 184) #[] #[]),H,hV,rfl,(View.le.refl _),(show I64 (1:Int) by unfold I64;omega),(FvB.A (g:=(fun x Q=>Ez x Q)) (caps:=[]) call184 (fun hle hx hS hV=>OG hx hS hV)),hS⟩)
 refine zz ?_
 refine Ce hV ?_ ?_<;>intro C hV
 refine zz ?_
 refine Rc (As (vs:=[i6 (1:Int),.func (.func 185) #[] #[]]) (caps:=[]) rfl call173 ⟨rfl,rfl,trivial⟩) (DW (show I64 (1:Int) by unfold I64;omega) (FvB.LA (g:=(fun x Q=>Gt x.1 x.2 Q)) (caps:=[]) call185 (fun hle hx hy hS hV=>OX hx hy hS hV)) hS hV) ?_
 rintro _ w⟨a5,a0,b0,i,hV,rfl,U,K,o,hS⟩
 refine⟨_,rfl,?_⟩
 refine sB hS ?_
 intro w hS
 refine zz ?_
 exact vc
 refine zz ?_
 refine Ce hV ?_ ?_<;>intro B hV
 refine zz ?_
 refine Rc (As (vs:=[i6 (1:Int),.func (.func 186) #[] #[]]) (caps:=[]) rfl call173 ⟨rfl,rfl,trivial⟩) (DW (show I64 (1:Int) by unfold I64;omega) (FvB.LA (g:=(fun x Q=>EC x.1 x.2 Q)) (caps:=[]) call186 (fun hle hx hy hS hV=>OK hx hy hS hV)) hS hV) ?_
 rintro _ w⟨a6,a1,b1,j,hV,rfl,V,N,p,hS⟩
 refine⟨_,rfl,?_⟩
 refine sB hS ?_
 intro w hS
 refine zz ?_
 exact vc
 refine zz ?_
 refine Ce hV ?_ ?_<;>intro v hV
 refine zz ?_
 refine Rc (As (vs:=[i6 (1:Int),.func (.func 187) #[] #[]]) (caps:=[]) rfl call173 ⟨rfl,rfl,trivial⟩) (DW (show I64 (1:Int) by unfold I64;omega) (FvB.LA (g:=(fun x Q=>FM x.1 x.2 Q)) (caps:=[]) call187 (fun hle hx hy hS hV=>Nf hx hy hS hV)) hS hV) ?_
 rintro _ w⟨a7,a2,b2,k,hV,rfl,W,O,q,hS⟩
 refine⟨_,rfl,?_⟩
 refine sB hS ?_
 intro w hS
 refine zz ?_
 exact vc
 refine zz ?_
 refine Ce hV ?_ ?_<;>intro u hV
 refine zz ?_
 refine Rc (As (vs:=[i6 (2:Int),.func (.func 188) #[] #[]]) (caps:=[]) rfl call173 ⟨rfl,rfl,trivial⟩) (DW (show I64 (2:Int) by unfold I64;omega) (FvB.LA (g:=(fun x Q=>FX x.1 x.2 Q)) (caps:=[]) call188 (fun hle hx hy hS hV=>OD hx hy hS hV)) hS hV) ?_
 rintro _ w⟨a8,a3,b3,l,hV,rfl,Y,S,r,hS⟩
 refine⟨_,rfl,?_⟩
 refine sB hS ?_
 intro w hS
 refine zz ?_
 exact vc
 refine zz ?_
 refine Ce hV ?_ ?_<;>intro t hV
 refine zz ?_
 refine Rc (As (vs:=[i6 (2:Int),.func (.func 189) #[] #[]]) (caps:=[]) rfl call173 ⟨rfl,rfl,trivial⟩) (DW (show I64 (2:Int) by unfold I64;omega) (FvB.LA (g:=(fun x Q=>FF x.1 x.2 Q)) (caps:=[]) call189 (fun hle hx hy hS hV=>NP hx hy hS hV)) hS hV) ?_
 rintro _ w⟨a9,a4,b4,m,hV,rfl,Z,T,s,hS⟩
 refine⟨_,rfl,?_⟩
 refine sB hS ?_
 intro w hS
 refine zz ?_
 exact vc
 refine zz ?_
 refine Rn hS (Aq (vs:=[]) (zc:=#[i6 0,.nilFunc]) (cs:=#[i6 0,.nilFunc]) (places:=#[(0,1),(1,1)]) underlying78 zeroValue78 (fun w=>by simp[sizeOf3,sizeOf76]) rfl trivial rfl Zf) ?_
 refine sB hS ?_
 intro w hS
 refine zz ?_
 exact vc
theorem QZ{f:Aa}{Q:Int->(Option EA)->Prop}(hS:St w0 H L w)(hV:Hj f Q):
 Cl 34 #[sv f] w (pO w0 H L Q):=by
 refine BW func34 ntmps34 ?_
 refine zz ?_
 refine aO hS ?_
 intro h w hS
 refine zz ?_
 refine WL.buildn (c:=(cB Tryz.prog w0 arS (reO Tryz.prog w0))) (xs:=[(Hd DH),(Hd Cc),(Hd EY),(Hd BC)]) (vs:=[.func (.func 74) #[] #[],.func (.func 75) #[] #[],.func (.func 76) #[] #[],.func (.func 77) #[] #[]]) rfl underlying116 info79 rfl rfl ⟨rfl,rfl,rfl,rfl,trivial⟩ rfl ⟨_,_,rfl,(Mb (FvB.S (g:=(Hd DH)) (caps:=[]) call74 (fun hle hS hV=>AbV hS hV))),⟨_,_,rfl,(Mb (FvB.S (g:=(Hd Cc)) (caps:=[]) call75 (fun hle hS hV=>Xw hS hV))),⟨_,_,rfl,(Mb (FvB.S (g:=(Hd EY)) (caps:=[]) call76 (fun hle hS hV=>Adx hS hV))),⟨_,_,rfl,(Mb (FvB.S (g:=(Hd BC)) (caps:=[]) call77 (fun hle hS hV=>RZ hS hV))),rfl⟩⟩⟩⟩ hS rfl ?_
 intro u w m e hS
 have o:Len ([(Hd DH),(Hd Cc),(Hd EY),(Hd BC)]):=e.bound
 replace hV:=hV o
 refine Rn hS (AP underlying116 rfl e) ?_
 replace hS:=hS.f2
 obtain⟨l,q,A,hV⟩:=hV
 refine zz ?_
 refine WC.loop (σ:=Int) (fun s a w=>∃b d,s=b/\l b/\View.le H d/\I64 b/\St w0 d ([(h,oc #[i6 0,.nilFunc] 78)]++(m++L)) w/\Fr 21 [(0,sv f),(2,(pq h)),(6,u),(7,i6 (([(Hd DH),(Hd Cc),(Hd EY),(Hd BC)]).length:Int)),(8,i6 b)] a) q (0:Int) ?_ ?_
 exact y
 rintro b a w⟨_,d,rfl,hI,k,E,hS,ha⟩
 refine Ab ha ?_
 replace hV:=hV _ hI
 refine zz ?_
 refine Ce hV ?_ ?_<;>intro C hV
 obtain⟨j,hV⟩:=hV
 refine zz ?_
 refine Rx hS (Ai underlying116 sizeOf79 rfl rfl (e.mono k) j) ?_
 intro J p
 replace hS:=hS.f2
 refine Rx hS (BG (H:=d) (L:=[(h,oc #[i6 0,.nilFunc] 78)]++L) (AD isAgg79 rfl rfl (e.mono k) p j)) ?_
 intro K i
 replace i:=Aan i
 refine zz ?_
 refine Rcv (vs:=[sv f]) ⟨rfl,trivial⟩ (FvB.cS i hS hV) ?_
 rintro _ w⟨r,I,t,v,hV,rfl,G,F,n,hS⟩
 refine⟨_,rfl,?_⟩
 refine aO hS ?_
 intro x w hS
 refine sB hS ?_
 intro w hS
 refine zz ?_
 refine Rn hS (Xz underlying76 rfl n) ?_
 refine zz ?_
 refine Cf hV ?_ ?_<;>intro B hV
 refine zz ?_
 refine Rn hS (Ac (cs:=[i6 r,t]) isAgg78 sizeOf78 rfl rfl rfl) ?_
 replace hS:=hS.f3
 refine sB hS ?_
 intro w hS
 replace hS:=hS.f3.drop
 replace hS:=hS.f2.drop
 refine zz ?_
 exact vc
 replace hS:=hS.drop
 obtain⟨D,hV⟩:=hV
 replace hS:=hS.f2
 refine zz ?_
 exact y
 replace hS:=hS.f2.drop
 refine zz ?_
 refine Rn hS (Aq (vs:=[]) (zc:=#[i6 0,.nilFunc]) (cs:=#[i6 0,.nilFunc]) (places:=#[(0,1),(1,1)]) underlying78 zeroValue78 (fun w=>by simp[sizeOf3,sizeOf76]) rfl trivial rfl Zf) ?_
 refine sB hS ?_
 intro w hS
 refine zz ?_
 exact vc
theorem AbS{m:Aa}{d:Value}{i:List Val}{b:Ar}{Q:Val->Prop}(e:Bor H cV d i b)(hS:St w0 H (b++L) w)(hV:Ry m i Q):
 Cl 17 #[sv m,d] w (pV w0 H (b++L) Q):=by
 refine Co func17 ntmps17 ?_
 refine zz ?_
 refine aV hS ?_
 intro k w hS
 refine zz ?_
 refine Rd call34 (QZ hS hV) ?_
 rintro _ w⟨n,t,u,o,hV,rfl,g,C,l,hS⟩
 refine aO hS ?_
 intro j w hS
 refine sB hS ?_
 intro w hS
 obtain⟨p,q,hV⟩:=hV
 iterate 2 refine z ?_
 refine WC.meet (fun a w=>∃h,p h/\St w0 o (b++([(k,oc #[.nilIface] 25)]++([(j,oc #[i6 n,u] 78)]++L))) w/\Fr 28 [(1,d),(4,(pq k)),(5,(pq j)),(22,.bool h)] a) ?_ ?_
 rintro a w⟨h,hI,hS,ha⟩
 refine Ab ha ?_
 have hV:=q _ hI
 refine Cf hV ?_ ?_<;>intro B hV
 refine zz ?_
 refine Rn hS bV ?_
 replace hS:=hS.f2
 refine sA hS ?_
 intro w hS
 refine zz ?_
 replace hS:=hS.f3.drop
 refine zz ?_
 exact vc
 refine zz ?_
 replace hS:=hS.f3
 refine zz ?_
 replace hS:=hS.f2
 obtain⟨x,r,hV⟩:=hV
 refine Rcv (vs:=[d]) ⟨rfl,trivial⟩ (FvB.cA (OF.get l r) (e.mono g) hS hV) ?_
 rintro _ w⟨E,F,v,hV,rfl,D,A,hS⟩
 refine⟨_,rfl,?_⟩
 replace hS:=hS.f3
 refine sA hS ?_
 intro w hS
 refine zz ?_
 replace hS:=hS.f3.drop
 refine zz ?_
 exact vc
 refine zz ?_
 refine Rn hS (XN underlying76 rfl l) ?_
 refine R hS ?_
 rcases DG t.isNone with f|f
 replace hV:=hV.1 f
 refine zz ?_
 replace hS:=hS.f2.f3
 exact y
 replace hV:=hV.2 f
 refine zz ?_
 rcases DG (decide ((0:Int)<=n)) with c|c
 replace hV:=hV.1 (od c)
 refine zz ?_
 refine Ug c ?_
 have s:=(e.mono g).bound
 replace hV:=hV s
 refine Rn hS (CN underlying42 rfl (e.mono g)) ?_
 refine zz ?_
 replace hS:=hS.f2.f3
 exact y
 replace hV:=hV.2 (ov c)
 refine zz ?_
 replace hS:=hS.f2.f3
 exact y
theorem Rl{U:Value}{a3:List ((List UInt8)×Int×List UInt8)}{Q:Bool->Prop}(b2:IsSl H (Aaa cStr (Aaa (CV .i64) cStr)) U a3)(hN:GlobN w0 H)(hS:St w0 H L w)(hV:Kb a3 Q):
 Cl 4 #[U] w (pB w0 H L Q):=by
 refine BW func4 ntmps4 ?_
 refine zz ?_
 replace hS:=hS.nilseg
 replace hS:=hS.nilseg
 replace hS:=hS.nilseg
 replace hS:=hS.f2.f3
 obtain⟨d3,h1,i8,hV⟩:=hV
 refine WC.loop (σ:=(List (Val))×(List RV)×(List (List UInt8))×Int) (fun s a w=>∃A a2 a4 l x N C V T O D,s=(A,a2,a4,l)/\d3 (A,a2,a4,l)/\View.le H x/\OwnSl x cV 25 N A C/\OwnSl x cR 32 V a2 T/\OwnSl x cStr 9 O a4 D/\I64 l/\St w0 x (C++(T++(D++L))) w/\Fr 120 [(0,U),(3,N),(4,V),(5,O),(6,i6 l)] a) h1 (([]:List (Val)),([]:List RV),([]:List (List UInt8)),(0:Int)) ?_ ?_
 exact y
 rintro _ a w⟨A,a2,a4,l,x,N,C,V,T,O,D,rfl,hI,B,m,a6,b3,m2,hS,ha⟩
 refine Ab ha ?_
 replace hV:=hV _ hI
 have g0:=(b2.mono B).bound
 replace hV:=hV g0
 refine zz ?_
 refine Rn hS (Ao underlying41 rfl (b2.mono B)) ?_
 refine zz ?_
 refine Ce hV ?_ ?_<;>intro k2 hV
 obtain⟨f0,hV⟩:=hV
 refine zz ?_
 refine Rx hS (Au underlying41 sizeOf45 rfl rfl (b2.mono B) f0) ?_
 intro m8 g3
 refine Rx hS (AE isAgg45 sizeOf45 rfl g3) ?_
 rintro o7⟨_,rfl,hu⟩
 obtain⟨_,_,rfl,g5,g6⟩:=hu
 obtain rfl:=g5
 obtain⟨_,_,rfl,g7,g8⟩:=g6
 obtain⟨rfl,a7⟩:=g7
 replace a7:=Bx a7
 replace hV:=hV a7
 obtain rfl:=g8
 refine WL.alloc (arr:=#[sv ([]:Aa),i6 0,sv ([]:Aa)]) rfl zeroValue45 rfl hS ?_
 intro h6 w hS
 refine Ee #[sv ((ix a3 l).1),i6 ((ix a3 l).2.1),sv ((ix a3 l).2.2)] sizeOf45 hS ?_
 intro w hS
 refine zz ?_
 refine Rd call15 (Acd (hN.mono B) hS hV) ?_
 rintro _ w⟨o2,o3,o8,p9,q0,d0,hV,rfl,j,j5,m3,m4,j6,j7,hS⟩
 refine zz ?_
 refine aV hS ?_
 intro P w hS
 refine aR hS ?_
 intro S w hS
 replace hS:=hS.f2
 refine sA hS ?_
 intro w hS
 replace hS:=hS.f2
 refine sE hS ?_
 intro w hS
 obtain⟨d4,d6,hV⟩:=hV
 refine z ?_
 refine WC.meet (fun a w=>∃W d f g F G E n o r,d4 (W,d,f,g,F,G)/\View.le d0 E/\IsW E n W/\I64 d/\I64 f/\IsSl E cR o F/\IsSl E cR r G/\St w0 E (C++(T++(D++([(P,oc #[n] 25)]++([(S,oc #[i6 d,i6 f,sv g,o,r] 32)]++L))))) w/\Fr 120 [(0,U),(3,N),(4,V),(5,O),(6,i6 l),(8,(pq P)),(9,(pq S))] a) ?_ ?_
 rintro a w⟨W,d,f,g,F,G,E,n,o,r,hI,a1,a9,b4,b5,b0,b1,hS,ha⟩
 refine Ab ha ?_
 have hV:=d6 _ hI
 refine zz ?_
 replace hS:=hS.f4
 refine Rn hS (Ac (cs:=[n]) isAgg25 sizeOf25 rfl rfl rfl) ?_
 refine Rd call11 (Aaz a9 (((hN.mono B).mono j).mono a1) hS hV) ?_
 rintro _ w⟨n8,hV,rfl,hS⟩
 refine zz ?_
 replace hS:=hS.f5
 refine Rn hS (Ac (cs:=[i6 d,i6 f,sv g,o,r]) isAgg32 sizeOf32 rfl rfl rfl) ?_
 obtain⟨mf,hV⟩:=hV
 refine Rd call12 (AbB mf (v_1:=(RV.mk d f g F G)) b4 b5 b0 b1 hS hV) ?_
 rintro _ w⟨c9,hV,rfl,hS⟩
 refine zz ?_
 replace hS:=hS.f2
 refine Rn hS (Ac (cs:=[n]) isAgg25 sizeOf25 rfl rfl rfl) ?_
 refine Rd call13 (Kv a9 hS hV) ?_
 rintro _ w⟨n9,hV,rfl,l9,hS⟩
 refine zz ?_
 replace hS:=hS.f2
 refine Rn hS (Ac (cs:=[i6 d,i6 f,sv g,o,r]) isAgg32 sizeOf32 rfl rfl rfl) ?_
 obtain⟨mf,hV⟩:=hV
 refine Rd call14 (PQ mf (v_1:=(RV.mk d f g F G)) b4 b5 b0 b1 hS hV) ?_
 rintro _ w⟨o0,hV,rfl,m0,hS⟩
 obtain⟨d5,d7,hV⟩:=hV
 iterate 3 refine z ?_
 refine WC.meet (fun a w=>∃b9,d5 b9/\St w0 E (C++(T++(D++([(P,oc #[n] 25)]++([(S,oc #[i6 d,i6 f,sv g,o,r] 32)]++L))))) w/\Fr 120 [(0,U),(3,N),(4,V),(5,O),(6,i6 l),(8,(pq P)),(9,(pq S)),(14,sv c9),(90,.bool b9)] a) ?_ ?_
 rintro a w⟨b9,hI,hS,ha⟩
 refine Ab ha ?_
 have hV:=d7 _ hI
 refine Cf hV ?_ ?_<;>intro j9 hV
 refine zz ?_
 replace hS:=hS.drop
 replace hS:=hS.drop
 replace hS:=hS.drop
 replace hS:=hS.drop
 replace hS:=hS.drop
 refine zz ?_
 exact Lj rfl rfl (⟨false,hV,rfl,(hS.weaken ((((View.le.refl _).trans B).trans j).trans a1))⟩)
 refine zz ?_
 replace hS:=hS.f4
 refine Rn hS (Ac (cs:=[n]) isAgg25 sizeOf25 rfl rfl rfl) ?_
 refine WL.builds (c:=cV) (xs:=[W]) (vs:=[.agg #[n]]) (css:=[[n]]) rfl underlying42 info25 rfl ⟨rfl,trivial⟩ rfl (by decide) rfl (by simp;rfl) ⟨[n],_,rfl,(BZ a9),rfl⟩ hS rfl (by decide) ?_
 intro p3 w h9 e2 hS
 obtain⟨c5,hV⟩:=hV
 replace hS:=hS.f3
 refine WL.append (c:=cV) (xs:=A) (ys:=([W])) rfl underlying42 info25 rfl rfl rfl hS ((m.mono j).mono a1) (e2.src hS.f2) c5.1 c5.2 ?_
 intro p4 w i0 j2 hS
 refine zz ?_
 replace hS:=hS.f3.drop
 replace hS:=hS.f2.drop
 refine zz ?_
 replace hS:=hS.f4
 refine Rn hS (Ac (cs:=[i6 d,i6 f,sv g,o,r]) isAgg32 sizeOf32 rfl rfl rfl) ?_
 refine WL.builds (c:=cR) (xs:=[(RV.mk d f g F G)]) (vs:=[.agg #[i6 d,i6 f,sv g,o,r]]) (css:=[[i6 d,i6 f,sv g,o,r]]) rfl underlying30 info32 rfl ⟨rfl,trivial⟩ rfl (by decide) rfl (by simp;rfl) ⟨[i6 d,i6 f,sv g,o,r],_,rfl,(cR_rep.2 ⟨_,_,rfl,b4,b5,b0,b1⟩),rfl⟩ hS rfl (by decide) ?_
 intro p5 w i1 e3 hS
 obtain⟨c6,hV⟩:=hV
 replace hS:=hS.f4
 refine WL.append (c:=cR) (xs:=a2) (ys:=([(RV.mk d f g F G)])) rfl underlying30 info32 rfl rfl rfl hS ((a6.mono j).mono a1) (e3.src hS.f2) c6.1 c6.2 ?_
 intro p6 w i2 j3 hS
 refine zz ?_
 replace hS:=hS.f3.drop
 replace hS:=hS.f2.drop
 refine zz ?_
 refine WL.build1 (c:=cStr) rfl underlying43 info9 rfl rfl Ax hS ?_
 intro p7 w i3 e4 hS
 obtain⟨c7,hV⟩:=hV
 replace hS:=hS.f4
 refine WL.append (c:=cStr) (xs:=a4) (ys:=([c9])) rfl underlying43 info9 rfl rfl rfl hS ((b3.mono j).mono a1) (e4.src hS.f2) c7.1 c7.2 ?_
 intro p8 w i4 j4 hS
 refine zz ?_
 replace hS:=hS.f2.drop
 obtain⟨k4,hV⟩:=hV
 refine zz ?_
 replace hS:=hS.f2.f3
 exact y
 exact Z
 refine zz ?_
 replace hS:=hS.f3
 refine zz ?_
 refine Ce hV ?_ ?_<;>intro j8 hV
 have f1:=(m.mono j).bound
 replace hV:=hV f1
 refine zz ?_
 refine Rn hS (AP underlying42 rfl (m.mono j)) ?_
 obtain⟨e8,hV⟩:=hV
 refine R hS ?_
 refine Rd call16 (Ada a7 e8 hS hV) ?_
 rintro _ w⟨c8,hV,rfl,l5,hS⟩
 refine zz ?_
 refine WL.build0 (α:=(Val)) (c:=cV) rfl underlying42 sizeOf25 hS ?_
 intro o9 w h7 d8 hS
 have f7:=(m.mono j).bound
 replace hV:=hV f7
 refine zz ?_
 refine Rn hS (AP underlying42 rfl (m.mono j)) ?_
 obtain⟨k3,hV⟩:=hV
 obtain⟨e6,hV⟩:=hV
 refine zz ?_
 refine Rx hS (Fb underlying42 sizeOf25 rfl rfl (OwnSl.bor (m.mono j)) e6) ?_
 intro p0 d9
 obtain⟨c4,hV⟩:=hV
 replace hS:=hS.f5.f2
 refine WL.append (c:=cV) (xs:=([]:List (Val))) (ys:=(A.drop ((A.length:Int)-c8).toNat)) rfl underlying42 info25 rfl rfl rfl hS d8 ((Bor.src d9) hS.f2) c4.1 c4.2 ?_
 intro p1 w h8 c1 hS
 rw[List.nil_append] at c1
 refine zz ?_
 replace hS:=hS.f3
 refine zz ?_
 replace hS:=hS.f2
 refine Rd call17 (AbS (OwnSl.bor c1) hS hV) ?_
 rintro _ w⟨n7,h2,h5,hV,rfl,b6,i9,hS⟩
 replace hS:=hS.f5
 refine sA hS ?_
 intro w hS
 iterate 2 refine z ?_
 refine WC.drawn (σ:=[0,1,2,3,4,5,6,7,8,9]) [[],[0],[],[],[3],[],[3,4,5],[2,3,4,5,6],[0,1,2,3,4,5,6,7],[0,1,2,3,4,5,6,7,8]] [8,9] mixed (by kernel_rfl) (hS.drawn _) ?_
 refine Wd.run rfl rfl rfl rfl (fun _=>Af (o':=0) underlying45 rfl sizeOf9 rfl rfl) fun m9 k7=>?_
 refine Wd.runb (off:=0) rfl rfl rfl rfl (fun _ _ _ h=>Aj isAgg9 rfl h) rfl (fun _ h=>St.f3 h) fun n0 k8=>?_
 refine Dm fun n1 k9=>?_
 refine Dm fun n2 l0=>?_
 have f8:=((a6.mono j).mono b6).bound
 replace hV:=hV f8
 refine Wd.run rfl rfl rfl rfl (fun _=>AP underlying30 rfl ((a6.mono j).mono b6)) fun n3 l1=>?_
 refine Dm fun n4 l2=>?_
 obtain⟨e9,hV⟩:=hV
 refine Wd.run rfl rfl rfl rfl (fun _=>Hp rfl rfl e9) fun n5 l3=>?_
 obtain⟨e7,hV⟩:=hV
 refine Wd.runx rfl rfl rfl rfl (AA (Fb underlying30 sizeOf32 rfl rfl (OwnSl.bor ((a6.mono j).mono b6)) e7)) ?_
 intro p2 e0
 intro n6 l4
 refine Wd.turn rfl rfl rfl fun w hS=>?_
 replace hS:=hS.f6
 refine Rd call18 (YI e0 hS hV) ?_
 rintro _ w⟨b7,h3,h4,c0,hV,rfl,m5,l6,l7,j0,j1,hS⟩
 refine WL.nil (DQ.mk2 hS ⟨il,il,il,il,il,il,il,il,trivial⟩ ?_)
 refine Wd.turn rfl rfl rfl fun w hS=>?_
 replace hS:=hS.f6
 refine sE hS ?_
 intro w hS
 refine WL.nil (DQ.mk2 hS ⟨il,il,il,il,il,il,il,il,trivial⟩ ?_)
 refine Wd.nil fun w hS=>?_
 refine zz ?_
 replace hS:=hS.f5.drop
 refine zz ?_
 replace hS:=hS.f4.f2.f4.f6.f5.f6
 obtain⟨d1,g9,i5,hV⟩:=hV
 refine WC.loop (σ:=(List (Val))×Int) (fun s a w=>∃a5 a0 b8 a8,s=(a5,a0)/\d1 (a5,a0)/\OwnSl c0 cV 25 b8 a5 a8/\I64 a0/\St w0 c0 (C++(T++(D++([(P,oc #[h2] 25)]++([(S,oc #[i6 b7.k,i6 b7.i,sv b7.t,h3,h4] 32)]++(a8++L)))))) w/\Fr 120 [(0,U),(3,N),(4,V),(5,O),(6,i6 l),(8,(pq P)),(9,(pq S)),(11,b8),(12,i6 a0)] a) g9 ((A.drop ((A.length:Int)-c8).toNat),(0:Int)) ?_ ?_
 exact y
 rintro _ a w⟨a5,a0,b8,a8,rfl,hI,e1,l8,hS,ha⟩
 refine Ab ha ?_
 replace hV:=hV _ hI
 have k6:=e1.bound
 exact Z
 refine zz ?_
 replace hS:=hS.drop
 replace hS:=hS.f2.f5.f5.f5
 exact y
 refine zz ?_
 replace hS:=hS.f2.drop
 refine zz ?_
 replace hS:=hS.f2.f2
 obtain⟨d2,h0,i7,hV⟩:=hV
 refine WC.loop (σ:=Int) (fun s a w=>∃Y,s=Y/\d2 Y/\I64 Y/\St w0 x (C++(D++L)) w/\Fr 120 [(3,N),(5,O),(17,i6 Y)] a) h0 (0:Int) ?_ ?_
 exact y
 rintro Y a w⟨_,rfl,hI,m1,hS,ha⟩
 refine Ab ha ?_
 replace hV:=hV _ hI
 have f9:=m.bound
 replace hV:=hV f9
 refine zz ?_
 refine Rn hS (AP underlying42 rfl m) ?_
 refine zz ?_
 refine Ce hV ?_ ?_<;>intro k1 hV
 obtain⟨c2,hV⟩:=hV
 refine zz ?_
 refine Rx hS (Ai underlying42 sizeOf25 rfl rfl m c2) ?_
 intro m6 g1
 refine Rx hS (BG (H:=x) (L:=D++L) (Bt isAgg25 sizeOf25 rfl m g1 c2)) ?_
 rintro o4⟨_,rfl,hu⟩
 obtain⟨o5,rfl,e5⟩:=Aw hu
 refine Rd call11 (Aaz e5 (hN.mono B) hS hV) ?_
 rintro _ w⟨o1,hV,rfl,hS⟩
 obtain⟨c3,hV⟩:=hV
 refine zz ?_
 refine Rx hS (Ai underlying43 sizeOf9 rfl rfl b3 c3) ?_
 intro m7 g2
 replace hS:=hS.f2
 refine Rx hS (BG (H:=x) (L:=C++L) (AD isAgg9 rfl rfl b3 g2 c3)) ?_
 intro o6 g4
 obtain rfl:=Nq g4
 refine zz ?_
 refine Ce hV ?_ ?_<;>intro k0 hV
 refine zz ?_
 replace hS:=hS.f2.drop
 replace hS:=hS.drop
 refine zz ?_
 exact Lj rfl rfl (⟨false,hV,rfl,(hS.weaken ((View.le.refl _).trans B))⟩)
 obtain⟨k5,hV⟩:=hV
 refine zz ?_
 replace hS:=hS.f2
 exact y
 refine zz ?_
 replace hS:=hS.drop
 replace hS:=hS.drop
 refine zz ?_
 exact Lj rfl rfl (⟨true,hV,rfl,(hS.weaken ((View.le.refl _).trans B))⟩)
end Go.Proofs.YtlhkfkecoekoeaaGreatDoor
