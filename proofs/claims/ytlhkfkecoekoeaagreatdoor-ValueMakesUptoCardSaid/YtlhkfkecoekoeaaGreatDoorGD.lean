/- Part D of the proof: walks. No condition beyond those that each theorem names. -/
import Derived.Test.YtlhkfkecoekoeaaGreatDoorGC
set_option linter.unusedVariables false
set_option linter.unusedSimpArgs false
set_option maxRecDepth 100000
set_option maxHeartbeats 1000000
namespace Go.Proofs.YtlhkfkecoekoeaaGreatDoor
open Go.Vc _root_.Go.Proofs.Tryz _root_.Go.Proofs.YtlhkfkecoekoeaaGreatDoor.Tryz
variable{w0:World}{H:View}{L:Ar}{w:World}
theorem Vy(m0:Nat):∀{w0:World}{H:View}{L:Ar}{w:World}{j:Value}{r:LI}{l:Ar}{c:Int}{f:Int}{d:Int}{i:Nat}{o:Value}{U:List Val}{Q:LI->Prop}(n:OwnSl H (CV .i64) 3 j r l)(d9:I64 c)(e0:I64 f)(d8:I64 d)(N:IsSl H cV o U)(hS:St w0 H (l++([(i,oc #[o] 42)]++L)) w)(hV:CX m0 r c f d U Q),
 Cl 221 #[j,i6 c,i6 f,i6 d,.func (.func 102) #[] #[(pq i)]] w fun e w'=>∃(r1:LI)(fp1:Ar),Q r1/\e=.returned (.tuple #[])/\OwnSl H (CV .i64) 3 j r1 fp1/\St w0 H (fp1++([(i,oc #[o] 42)]++L)) w':=by
 induction m0 with
 |zero=>intro w0 H L w j r l c f d i o U Q n d9 e0 d8 N hS hV;exact hV.elim
 |succ m0 ih=>
  intro w0 H L w j r l c f d i o U Q n d9 e0 d8 N hS hV
  unfold CX at hV
  refine En5 func221 ntmps221 ?_
  have c1:=@ih;have d1:=call221
  have c2:=@Abc;have d2:=call230
  obtain⟨l5,hV⟩:=hV
  refine zz ?_
  refine Ce hV ?_ ?_<;>intro k9 hV
  replace hS:=hS.f2.f2
  obtain⟨e1,i9,k0,hV⟩:=hV
  refine zz ?_
  refine WC.loop (σ:=Int×Int) (fun s a w=>∃x E,s=(x,E)/\e1 (x,E)/\I64 x/\I64 E/\St w0 H (l++([(i,oc #[o] 42)]++L)) w/\Fr 220 [(0,j),(1,i6 c),(4,.func (.func 102) #[] #[(pq i)]),(10,i6 x),(11,i6 E)] a) i9 (f,d) ?_ ?_
  exact y
  rintro _ a w⟨x,E,rfl,hI,t6,t7,hS,ha⟩
  refine Ab ha ?_
  replace hV:=hV _ hI
  refine zz ?_
  refine Ce hV ?_ ?_<;>intro l1 hV
  obtain⟨l4,hV⟩:=hV
  refine zz ?_
  refine Rn hS (Gm (q:=1) rfl rfl (Ec _ _) (by decide)) ?_
  iterate 4 refine z ?_
  refine WC.drawn (σ:=[0,1,2,3,4,5,6,7,8,9,10]) [[],[],[],[1,2],[1,2,3],[],[],[5,6],[5,6,7],[0,1,2,3,4,5,6,7,8],[0,1,2,3,4,5,6,7,8,9]] [9] mixed (by kernel_rfl) (hS.drawn _) ?_
  refine Dm fun v8 m9=>?_
  refine Dm fun v9 n0=>?_
  refine Dm fun w1 n1=>?_
  obtain⟨c0,hV⟩:=hV
  refine Wd.runx rfl rfl rfl rfl (AA (Ai underlying130 sizeOf3 rfl rfl n c0)) ?_
  intro u3 f8
  intro w2 n2
  refine Wd.runs (fp:=l) rfl rfl rfl rfl (AD isAgg3 rfl rfl n f8 c0) (fun _ h=>h) ?_
  intro C8 h8
  obtain⟨rfl,Y⟩:=Bh h8
  replace Y:=Bx Y
  replace hV:=hV Y
  intro w3 n3
  refine Dm fun w4 n4=>?_
  refine Dm fun w5 n5=>?_
  obtain⟨c3,hV⟩:=hV
  refine Wd.runx rfl rfl rfl rfl (AA (Ai underlying130 sizeOf3 rfl rfl n c3)) ?_
  intro u4 f9
  intro w6 n6
  refine Wd.runs (fp:=l) rfl rfl rfl rfl (AD isAgg3 rfl rfl n f9 c3) (fun _ h=>h) ?_
  intro C9 h9
  obtain⟨rfl,a0⟩:=Bh h9
  replace a0:=Bx a0
  replace hV:=hV a0
  intro w7 n7
  refine Wd.turn rfl rfl rfl fun w hS=>?_
  replace hS:=hS.f2
  refine Rc (As (vs:=[i6 (ix r (IntKind.i64.wrap ((IntKind.u64.wrap (x+E))/2))),i6 (ix r c)]) (caps:=[(pq i)]) rfl call102 ⟨rfl,rfl,trivial⟩) (Kt Y a0 N hS hV) ?_
  rintro _ w⟨C5,hV,rfl,t0,hS⟩
  refine⟨_,rfl,?_⟩
  refine WL.nil (DQ.mk2 hS ⟨il,il,il,il,il,il,il,il,il,trivial⟩ ?_)
  refine Wd.run rfl rfl rfl rfl (fun _=>JE rfl rfl) fun w8 n8=>?_
  refine Wd.nil fun w hS=>?_
  refine zz ?_
  exact Z
  replace hS:=hS.f2.f2
  obtain⟨e2,j0,j9,hV⟩:=hV
  refine zz ?_
  refine WC.loop (σ:=LI×Int) (fun s a w=>∃V O F,s=(V,O)/\e2 (V,O)/\OwnSl H (CV .i64) 3 j V F/\I64 O/\St w0 H (F++([(i,oc #[o] 42)]++L)) w/\Fr 220 [(0,j),(10,i6 x),(13,i6 O)] a) j0 (r,c) ?_ ?_
  exact y
  rintro _ a w⟨V,O,F,rfl,hI,B,t1,hS,ha⟩
  refine Ab ha ?_
  replace hV:=hV _ hI
  obtain⟨l6,hV⟩:=hV
  refine zz ?_
  refine Ce hV ?_ ?_<;>intro l0 hV
  iterate 4 refine z ?_
  refine WC.drawn (σ:=[0,1,2,3,4,5,6,7,8,9,10,11,12,13,14,15,16,17]) [[],[],[],[],[3],[],[],[6],[5,6,7],[5,6,7,8],[],[],[10,11],[10,11,12],[0,1,5,6,7,8,9,10,11,12,13],[0,1,5,6,7,8,9,10,11,12,13,14],[0,1,2,3,4,5,6,7,8,9,10,11,12,13,14,15],[0,1,2,3,4,5,6,7,8,9,10,11,12,13,14,15,16]] [15,17] mixed (by kernel_rfl) (hS.drawn _) ?_
  refine Dm fun w9 n9=>?_
  refine Dm fun x0 o0=>?_
  refine Dm fun x1 h2=>?_
  refine Dm fun x2 h3=>?_
  obtain⟨f3,hV⟩:=hV
  refine Wd.run rfl rfl rfl rfl (fun _=>Eg rfl rfl f3) fun x3 h4=>?_
  refine Dm fun x4 o1=>?_
  refine Dm fun x5 o2=>?_
  obtain⟨f4,hV⟩:=hV
  refine Wd.run rfl rfl rfl rfl (fun _=>Eg rfl rfl f4) fun x6 o3=>?_
  obtain⟨c4,hV⟩:=hV
  refine Wd.runx rfl rfl rfl rfl (AA (Ai underlying130 sizeOf3 rfl rfl B c4)) ?_
  intro u5 g0
  intro x7 o4
  refine Wd.runs (fp:=F) rfl rfl rfl rfl (AD isAgg3 rfl rfl B g0 c4) (fun _ h=>h) ?_
  intro D0 i0
  obtain⟨rfl,a1⟩:=Bh i0
  replace a1:=Bx a1
  replace hV:=hV a1
  intro x8 o5
  refine Dm fun x9 o6=>?_
  refine Dm fun y0 o7=>?_
  obtain⟨c5,hV⟩:=hV
  refine Wd.runx rfl rfl rfl rfl (AA (Ai underlying130 sizeOf3 rfl rfl B c5)) ?_
  intro u6 g1
  intro y1 o8
  refine Wd.runs (fp:=F) rfl rfl rfl rfl (AD isAgg3 rfl rfl B g1 c5) (fun _ h=>h) ?_
  intro D1 i1
  obtain⟨rfl,a2⟩:=Bh i1
  replace a2:=Bx a2
  replace hV:=hV a2
  intro y2 o9
  obtain⟨c6,hV⟩:=hV
  refine Wd.runx rfl rfl rfl rfl (AA (Ai underlying130 sizeOf3 rfl rfl B c6)) ?_
  intro u7 g2
  intro y3 p0
  refine Wd.turn rfl rfl rfl fun w hS=>?_
  refine WL.store_own sizeOf3 rfl rfl rfl (Du (I64.has a1)) hS B g2 c6 ?_
  intro w j4 b8 hS
  refine WL.nil (DQ.mk2 hS ⟨il,il,il,il,il,il,il,il,il,il,.inr (h4 _),.inr (h3 _),.inr (h2 _),il,il,trivial⟩ ?_)
  obtain⟨c7,hV⟩:=hV
  refine Wd.runx rfl rfl rfl rfl (AA (Ai underlying130 sizeOf3 rfl rfl b8 c7)) ?_
  intro u8 g3
  intro y4 p1
  refine Wd.turn rfl rfl rfl fun w hS=>?_
  refine WL.store_own sizeOf3 rfl rfl rfl (Du (I64.has a2)) hS b8 g3 c7 ?_
  intro w j5 k3 hS
  refine WL.nil (DQ.mk2 hS ⟨il,il,il,il,il,il,il,il,il,il,il,il,il,il,il,il,trivial⟩ ?_)
  refine Wd.nil fun w hS=>?_
  obtain⟨l7,hV⟩:=hV
  replace hS:=hS.f2.f2
  refine zz ?_
  exact y
  replace hS:=hS.f2.f2
  refine zz ?_
  exact v0
  obtain⟨l8,hV⟩:=hV
  refine zz ?_
  refine Ce hV ?_ ?_<;>intro k8 hV
  replace hS:=hS.f2.f2
  obtain⟨e3,j1,k2,hV⟩:=hV
  refine zz ?_
  refine WC.loop (σ:=Int×Int) (fun s a w=>∃t D,s=(t,D)/\e3 (t,D)/\I64 t/\I64 D/\St w0 H (l++([(i,oc #[o] 42)]++L)) w/\Fr 220 [(0,j),(2,i6 f),(4,.func (.func 102) #[] #[(pq i)]),(14,i6 t),(15,i6 D)] a) j1 (c,f) ?_ ?_
  exact y
  rintro _ a w⟨t,D,rfl,hI,t2,t3,hS,ha⟩
  refine Ab ha ?_
  replace hV:=hV _ hI
  refine zz ?_
  refine Ce hV ?_ ?_<;>intro l3 hV
  obtain⟨l9,hV⟩:=hV
  refine zz ?_
  refine Rn hS (Gm (q:=1) rfl rfl (Ec _ _) (by decide)) ?_
  iterate 4 refine z ?_
  refine WC.drawn (σ:=[0,1,2,3,4,5,6,7,8,9,10,11]) [[],[],[],[1,2],[1,2,3],[],[],[5,6],[5,6,7],[0,1,2,3,4,5,6,7,8],[0,1,2,3,4,5,6,7,8,9],[0,1,2,3,4,5,6,7,8,9,10]] [9] mixed (by kernel_rfl) (hS.drawn _) ?_
  refine Dm fun y5 p2=>?_
  refine Dm fun y6 p3=>?_
  refine Dm fun y7 p4=>?_
  obtain⟨c8,hV⟩:=hV
  refine Wd.runx rfl rfl rfl rfl (AA (Ai underlying130 sizeOf3 rfl rfl n c8)) ?_
  intro u9 g4
  intro y8 p5
  refine Wd.runs (fp:=l) rfl rfl rfl rfl (AD isAgg3 rfl rfl n g4 c8) (fun _ h=>h) ?_
  intro D2 i2
  obtain⟨rfl,a3⟩:=Bh i2
  replace a3:=Bx a3
  replace hV:=hV a3
  intro y9 p6
  refine Dm fun z0 p7=>?_
  refine Dm fun z1 p8=>?_
  obtain⟨c9,hV⟩:=hV
  refine Wd.runx rfl rfl rfl rfl (AA (Ai underlying130 sizeOf3 rfl rfl n c9)) ?_
  intro v1 g5
  intro z2 p9
  refine Wd.runs (fp:=l) rfl rfl rfl rfl (AD isAgg3 rfl rfl n g5 c9) (fun _ h=>h) ?_
  intro D3 i3
  obtain⟨rfl,a4⟩:=Bh i3
  replace a4:=Bx a4
  replace hV:=hV a4
  intro z3 q0
  refine Wd.turn rfl rfl rfl fun w hS=>?_
  replace hS:=hS.f2
  refine Rc (As (vs:=[i6 (ix r f),i6 (ix r (IntKind.i64.wrap ((IntKind.u64.wrap (t+D))/2)))]) (caps:=[(pq i)]) rfl call102 ⟨rfl,rfl,trivial⟩) (Kt a3 a4 N hS hV) ?_
  rintro _ w⟨C6,hV,rfl,t4,hS⟩
  refine⟨_,rfl,?_⟩
  refine WL.nil (DQ.mk2 hS ⟨il,il,il,il,il,il,il,il,il,trivial⟩ ?_)
  refine Wd.run rfl rfl rfl rfl (fun _=>JE rfl rfl) fun z4 q1=>?_
  refine Wd.run rfl rfl rfl rfl (fun _=>NZ rfl) fun z5 q2=>?_
  refine Wd.nil fun w hS=>?_
  refine zz ?_
  refine Cd ?_ ?_
  intro b3
  replace hV:=hV.1 (PG b3)
  obtain⟨m1,hV⟩:=hV
  replace hS:=hS.f2
  refine zz ?_
  exact y
  intro b3
  replace hV:=hV.2 (Py b3)
  replace hS:=hS.f2
  refine zz ?_
  exact y
  replace hS:=hS.f2.f2
  obtain⟨e4,j2,k1,hV⟩:=hV
  refine zz ?_
  refine WC.loop (σ:=LI×Int) (fun s a w=>∃W P G,s=(W,P)/\e4 (W,P)/\OwnSl H (CV .i64) 3 j W G/\I64 P/\St w0 H (G++([(i,oc #[o] 42)]++L)) w/\Fr 220 [(0,j),(14,i6 t),(17,i6 P)] a) j2 (r,f) ?_ ?_
  exact y
  rintro _ a w⟨W,P,G,rfl,hI,C,t5,hS,ha⟩
  refine Ab ha ?_
  replace hV:=hV _ hI
  refine zz ?_
  refine Ce hV ?_ ?_<;>intro l2 hV
  iterate 4 refine z ?_
  refine WC.drawn (σ:=[0,1,2,3,4,5,6,7,8,9,10,11,12,13,14,15,16,17]) [[],[],[],[],[3],[],[],[6],[5,6,7],[5,6,7,8],[],[],[10,11],[10,11,12],[0,1,5,6,7,8,9,10,11,12,13],[0,1,5,6,7,8,9,10,11,12,13,14],[0,1,2,3,4,5,6,7,8,9,10,11,12,13,14,15],[0,1,2,3,4,5,6,7,8,9,10,11,12,13,14,15,16]] [15,17] mixed (by kernel_rfl) (hS.drawn _) ?_
  refine Dm fun z6 q3=>?_
  refine Dm fun z7 q4=>?_
  refine Dm fun z8 h5=>?_
  refine Dm fun z9 h6=>?_
  obtain⟨f5,hV⟩:=hV
  refine Wd.run rfl rfl rfl rfl (fun _=>Hp rfl rfl f5) fun A0 h7=>?_
  refine Dm fun A1 q5=>?_
  refine Dm fun A2 q6=>?_
  obtain⟨f6,hV⟩:=hV
  refine Wd.run rfl rfl rfl rfl (fun _=>Hp rfl rfl f6) fun A3 q7=>?_
  obtain⟨d0,hV⟩:=hV
  refine Wd.runx rfl rfl rfl rfl (AA (Ai underlying130 sizeOf3 rfl rfl C d0)) ?_
  intro v2 g6
  intro A4 q8
  refine Wd.runs (fp:=G) rfl rfl rfl rfl (AD isAgg3 rfl rfl C g6 d0) (fun _ h=>h) ?_
  intro D4 i4
  obtain⟨rfl,a5⟩:=Bh i4
  replace a5:=Bx a5
  replace hV:=hV a5
  intro A5 q9
  refine Dm fun A6 r0=>?_
  refine Dm fun A7 r2=>?_
  obtain⟨d3,hV⟩:=hV
  refine Wd.runx rfl rfl rfl rfl (AA (Ai underlying130 sizeOf3 rfl rfl C d3)) ?_
  intro v3 g7
  intro A8 r3
  refine Wd.runs (fp:=G) rfl rfl rfl rfl (AD isAgg3 rfl rfl C g7 d3) (fun _ h=>h) ?_
  intro D5 i5
  obtain⟨rfl,a6⟩:=Bh i5
  replace a6:=Bx a6
  replace hV:=hV a6
  intro A9 r4
  obtain⟨d4,hV⟩:=hV
  refine Wd.runx rfl rfl rfl rfl (AA (Ai underlying130 sizeOf3 rfl rfl C d4)) ?_
  intro v4 g8
  intro B0 r5
  refine Wd.turn rfl rfl rfl fun w hS=>?_
  refine WL.store_own sizeOf3 rfl rfl rfl (Du (I64.has a5)) hS C g8 d4 ?_
  intro w j6 b9 hS
  refine WL.nil (DQ.mk2 hS ⟨il,il,il,il,il,il,il,il,il,il,.inr (h7 _),.inr (h6 _),.inr (h5 _),il,il,trivial⟩ ?_)
  obtain⟨d5,hV⟩:=hV
  refine Wd.runx rfl rfl rfl rfl (AA (Ai underlying130 sizeOf3 rfl rfl b9 d5)) ?_
  intro v5 g9
  intro B1 r6
  refine Wd.turn rfl rfl rfl fun w hS=>?_
  refine WL.store_own sizeOf3 rfl rfl rfl (Du (I64.has a6)) hS b9 g9 d5 ?_
  intro w j7 k4 hS
  refine WL.nil (DQ.mk2 hS ⟨il,il,il,il,il,il,il,il,il,il,il,il,il,il,il,il,trivial⟩ ?_)
  refine Wd.nil fun w hS=>?_
  obtain⟨m2,hV⟩:=hV
  replace hS:=hS.f2.f2
  refine zz ?_
  exact y
  replace hS:=hS.f2.f2
  refine zz ?_
  exact v0
  obtain⟨m3,hV⟩:=hV
  refine zz ?_
  refine Rn hS (Gm (q:=1) rfl rfl (Ec _ _) (by decide)) ?_
  obtain⟨m4,hV⟩:=hV
  obtain⟨e6,e9,hV⟩:=hV
  iterate 13 refine z ?_
  refine WC.meet (fun a w=>∃T S,e6 (T,S)/\I64 T/\I64 S/\St w0 H (l++([(i,oc #[o] 42)]++L)) w/\Fr 220 [(0,j),(1,i6 c),(2,i6 f),(3,i6 d),(4,.func (.func 102) #[] #[(pq i)]),(18,i6 (IntKind.i64.wrap ((IntKind.u64.wrap (c+d))/2))),(19,i6 ((IntKind.i64.wrap ((IntKind.u64.wrap (c+d))/2))+f)),(20,i6 T),(21,i6 S)] a) ?_ ?_
  rintro a w⟨T,S,hI,t8,t9,hS,ha⟩
  refine Ab ha ?_
  have hV:=e9 _ hI
  obtain⟨m5,hV⟩:=hV
  replace hS:=hS.f2.f2
  obtain⟨e5,j3,j8,hV⟩:=hV
  refine zz ?_
  refine WC.loop (σ:=Int×Int) (fun s a w=>∃g A,s=(g,A)/\e5 (g,A)/\I64 g/\I64 A/\St w0 H (l++([(i,oc #[o] 42)]++L)) w/\Fr 220 [(0,j),(1,i6 c),(2,i6 f),(3,i6 d),(4,.func (.func 102) #[] #[(pq i)]),(18,i6 (IntKind.i64.wrap ((IntKind.u64.wrap (c+d))/2))),(19,i6 ((IntKind.i64.wrap ((IntKind.u64.wrap (c+d))/2))+f)),(20,i6 g),(21,i6 A),(22,i6 (((IntKind.i64.wrap ((IntKind.u64.wrap (c+d))/2))+f)-(1:Int)))] a) j3 (T,S) ?_ ?_
  exact y
  rintro _ a w⟨g,A,rfl,hI,u0,u1,hS,ha⟩
  refine Ab ha ?_
  replace hV:=hV _ hI
  refine zz ?_
  refine Ce hV ?_ ?_<;>intro k7 hV
  obtain⟨m6,hV⟩:=hV
  refine zz ?_
  refine Rn hS (Gm (q:=1) rfl rfl (Ec _ _) (by decide)) ?_
  iterate 4 refine z ?_
  refine WC.drawn (σ:=[0,1,2,3,4,5,6,7,8,9,10,11,12,13]) [[],[],[],[],[2,3],[1,2,3,4],[1,2,3,4,5],[],[],[7,8],[7,8,9],[0,1,2,3,4,5,6,7,8,9,10],[0,1,2,3,4,5,6,7,8,9,10,11],[0,1,2,3,4,5,6,7,8,9,10,11,12]] [11] mixed (by kernel_rfl) (hS.drawn _) ?_
  refine Dm fun B2 r7=>?_
  refine Dm fun B3 r8=>?_
  refine Dm fun B4 r9=>?_
  refine Dm fun B5 s0=>?_
  obtain⟨f7,hV⟩:=hV
  refine Wd.run rfl rfl rfl rfl (fun _=>Hp rfl rfl f7) fun B6 s1=>?_
  obtain⟨d6,hV⟩:=hV
  refine Wd.runx rfl rfl rfl rfl (AA (Ai underlying130 sizeOf3 rfl rfl n d6)) ?_
  intro v6 h0
  intro B7 s2
  refine Wd.runs (fp:=l) rfl rfl rfl rfl (AD isAgg3 rfl rfl n h0 d6) (fun _ h=>h) ?_
  intro D6 i7
  obtain⟨rfl,a7⟩:=Bh i7
  replace a7:=Bx a7
  replace hV:=hV a7
  intro B8 s3
  refine Dm fun B9 s4=>?_
  refine Dm fun C0 s5=>?_
  obtain⟨d7,hV⟩:=hV
  refine Wd.runx rfl rfl rfl rfl (AA (Ai underlying130 sizeOf3 rfl rfl n d7)) ?_
  intro v7 h1
  intro C1 s6
  refine Wd.runs (fp:=l) rfl rfl rfl rfl (AD isAgg3 rfl rfl n h1 d7) (fun _ h=>h) ?_
  intro D7 i8
  obtain⟨rfl,a8⟩:=Bh i8
  replace a8:=Bx a8
  replace hV:=hV a8
  intro C2 s7
  refine Wd.turn rfl rfl rfl fun w hS=>?_
  replace hS:=hS.f2
  refine Rc (As (vs:=[i6 (ix r ((((IntKind.i64.wrap ((IntKind.u64.wrap (c+d))/2))+f)-(1:Int))-(IntKind.i64.wrap ((IntKind.u64.wrap (g+A))/2)))),i6 (ix r (IntKind.i64.wrap ((IntKind.u64.wrap (g+A))/2)))]) (caps:=[(pq i)]) rfl call102 ⟨rfl,rfl,trivial⟩) (Kt a7 a8 N hS hV) ?_
  rintro _ w⟨C7,hV,rfl,u2,hS⟩
  refine⟨_,rfl,?_⟩
  refine WL.nil (DQ.mk2 hS ⟨il,il,il,il,il,il,il,il,il,il,il,trivial⟩ ?_)
  refine Wd.run rfl rfl rfl rfl (fun _=>JE rfl rfl) fun C3 s8=>?_
  refine Wd.run rfl rfl rfl rfl (fun _=>NZ rfl) fun C4 s9=>?_
  refine Wd.nil fun w hS=>?_
  refine zz ?_
  refine Cd ?_ ?_
  intro b4
  replace hV:=hV.1 (PG b4)
  obtain⟨m7,hV⟩:=hV
  replace hS:=hS.f2
  refine zz ?_
  exact y
  intro b4
  replace hV:=hV.2 (Py b4)
  replace hS:=hS.f2
  refine zz ?_
  exact y
  obtain⟨m8,hV⟩:=hV
  obtain⟨e7,f0,hV⟩:=hV
  iterate 11 refine z ?_
  refine WC.meet (fun a w=>∃a9 b1,e7 a9/\OwnSl H (CV .i64) 3 j a9 b1/\St w0 H (b1++([(i,oc #[o] 42)]++L)) w/\Fr 220 [(0,j),(1,i6 c),(3,i6 d),(4,.func (.func 102) #[] #[(pq i)]),(18,i6 (IntKind.i64.wrap ((IntKind.u64.wrap (c+d))/2))),(20,i6 g),(24,i6 (((IntKind.i64.wrap ((IntKind.u64.wrap (c+d))/2))+f)-g))] a) ?_ ?_
  rintro a w⟨a9,b1,hI,k5,hS,ha⟩
  refine Ab ha ?_
  have hV:=f0 _ hI
  obtain⟨e8,f1,hV⟩:=hV
  refine WC.meet (fun a w=>∃b0 b2,e8 b0/\OwnSl H (CV .i64) 3 j b0 b2/\St w0 H (b2++([(i,oc #[o] 42)]++L)) w/\Fr 220 [(0,j),(3,i6 d),(4,.func (.func 102) #[] #[(pq i)]),(18,i6 (IntKind.i64.wrap ((IntKind.u64.wrap (c+d))/2))),(24,i6 (((IntKind.i64.wrap ((IntKind.u64.wrap (c+d))/2))+f)-g))] a) ?_ ?_
  rintro a w⟨b0,b2,hI,k6,hS,ha⟩
  refine Ab ha ?_
  have hV:=f1 _ hI
  refine WC.seq ?_
  refine WC.via (m:=[(0,j),(3,i6 d),(4,.func (.func 102) #[] #[(pq i)]),(18,i6 (IntKind.i64.wrap ((IntKind.u64.wrap (c+d))/2))),(24,i6 (((IntKind.i64.wrap ((IntKind.u64.wrap (c+d))/2))+f)-g)),(213,.bool (decide (((IntKind.i64.wrap ((IntKind.u64.wrap (c+d))/2))<(((IntKind.i64.wrap ((IntKind.u64.wrap (c+d))/2))+f)-g))/\((((IntKind.i64.wrap ((IntKind.u64.wrap (c+d))/2))+f)-g)<d))))]) ?_ ?_
  refine zz ?_
  rcases DG (decide ((IntKind.i64.wrap ((IntKind.u64.wrap (c+d))/2))<(((IntKind.i64.wrap ((IntKind.u64.wrap (c+d))/2))+f)-g))) with b7|b7
  iterate 4 refine z ?_
  refine WL.up (s:=213) rfl (De b7) ?_
  exact WL.nil At.os
  iterate 4 refine z ?_
  refine WL.up (s:=213) rfl (Bj b7:false=decide (((IntKind.i64.wrap ((IntKind.u64.wrap (c+d))/2))<(((IntKind.i64.wrap ((IntKind.u64.wrap (c+d))/2))+f)-g))/\((((IntKind.i64.wrap ((IntKind.u64.wrap (c+d))/2))+f)-g)<d))) ?_
  exact WL.nil At.os
  exact Z
  refine WC.seq ?_
  refine WC.via (m:=[(0,j),(1,i6 c),(3,i6 d),(4,.func (.func 102) #[] #[(pq i)]),(18,i6 (IntKind.i64.wrap ((IntKind.u64.wrap (c+d))/2))),(20,i6 g),(24,i6 (((IntKind.i64.wrap ((IntKind.u64.wrap (c+d))/2))+f)-g)),(199,.bool (decide ((c<g)/\(g<(IntKind.i64.wrap ((IntKind.u64.wrap (c+d))/2))))))]) ?_ ?_
  refine zz ?_
  rcases DG (decide (c<g)) with b6|b6
  iterate 4 refine z ?_
  refine WL.up (s:=199) rfl (De b6) ?_
  exact WL.nil At.os
  iterate 4 refine z ?_
  refine WL.up (s:=199) rfl (Bj b6:false=decide ((c<g)/\(g<(IntKind.i64.wrap ((IntKind.u64.wrap (c+d))/2))))) ?_
  exact WL.nil At.os
  exact Z
  refine WC.seq ?_
  refine WC.via (m:=[(0,j),(1,i6 c),(2,i6 f),(3,i6 d),(4,.func (.func 102) #[] #[(pq i)]),(18,i6 (IntKind.i64.wrap ((IntKind.u64.wrap (c+d))/2))),(20,i6 g),(24,i6 (((IntKind.i64.wrap ((IntKind.u64.wrap (c+d))/2))+f)-g)),(185,.bool (decide ((g<f)/\(f<(((IntKind.i64.wrap ((IntKind.u64.wrap (c+d))/2))+f)-g)))))]) ?_ ?_
  refine zz ?_
  rcases DG (decide (g<f)) with b5|b5
  iterate 4 refine z ?_
  refine WL.up (s:=185) rfl (De b5) ?_
  exact WL.nil At.os
  iterate 4 refine z ?_
  refine WL.up (s:=185) rfl (Bj b5:false=decide ((g<f)/\(f<(((IntKind.i64.wrap ((IntKind.u64.wrap (c+d))/2))+f)-g)))) ?_
  exact WL.nil At.os
  exact Z
  exact Z
theorem ZX{d:Value}{x:LI}{N:Ar}{g:Int}{c:Nat}{i:Value}{G:List Val}{Q:LI->Prop}(c0:OwnSl H (CV .i64) 3 d x N)(a5:I64 g)(F:IsSl H cV i G)(hS:St w0 H (N++([(c,oc #[i] 42)]++L)) w)(hV:Oa x g G Q):
 Cl 192 #[d,i6 g,.func (.func 102) #[] #[(pq c)]] w fun e w'=>∃(r1:LI)(fp1:Ar),Q r1/\e=.returned (.tuple #[])/\OwnSl H (CV .i64) 3 d r1 fp1/\St w0 H (fp1++([(c,oc #[i] 42)]++L)) w':=by
 refine Li func192 ntmps192 ?_
 have c1:=@Vy;have d1:=call221
 replace hS:=hS.f2.f2
 obtain⟨U,a8,b6,hV⟩:=hV
 refine zz ?_
 refine WC.loop (σ:=LI×Int×Int) (fun s a w=>∃t l n D,s=(t,l,n)/\U (t,l,n)/\OwnSl H (CV .i64) 3 d t D/\I64 l/\I64 n/\St w0 H (D++([(c,oc #[i] 42)]++L)) w/\Fr 63 [(0,d),(1,i6 g),(2,.func (.func 102) #[] #[(pq c)]),(6,i6 (20:Int)),(7,i6 l),(8,i6 n)] a) a8 (x,(0:Int),(20:Int)) ?_ ?_
 exact y
 rintro _ a w⟨t,l,n,D,rfl,hI,O,P,a4,hS,ha⟩
 refine Ab ha ?_
 replace hV:=hV _ hI
 refine zz ?_
 refine Ce hV ?_ ?_<;>intro c6 hV
 replace hS:=hS.f2.f2
 refine zz ?_
 refine Rd call220 (VO O P a4 F hS hV) ?_
 rintro _ w⟨b0,b2,hV,rfl,c2,hS⟩
 obtain⟨d2,hV⟩:=hV
 replace hS:=hS.f2.f2
 refine zz ?_
 exact y
 replace hS:=hS.f2.f2
 refine zz ?_
 refine Rd call220 (VO O P a5 F hS hV) ?_
 rintro _ w⟨W,b3,hV,rfl,c3,hS⟩
 replace hS:=hS.f2.f2
 obtain⟨S,a6,b5,hV⟩:=hV
 refine zz ?_
 refine WC.loop (σ:=LI×Int) (fun s a w=>∃o f B,s=(o,f)/\S (o,f)/\OwnSl H (CV .i64) 3 d o B/\I64 f/\St w0 H (B++([(c,oc #[i] 42)]++L)) w/\Fr 63 [(0,d),(1,i6 g),(2,.func (.func 102) #[] #[(pq c)]),(6,i6 f)] a) a6 (W,(20:Int)) ?_ ?_
 exact y
 rintro _ a w⟨o,f,B,rfl,hI,b7,d3,hS,ha⟩
 refine Ab ha ?_
 replace hV:=hV _ hI
 refine zz ?_
 refine Ce hV ?_ ?_<;>intro c5 hV
 obtain⟨c7,hV⟩:=hV
 replace hS:=hS.f2.f2
 obtain⟨T,a7,b4,hV⟩:=hV
 refine zz ?_
 refine WC.loop (σ:=LI×Int×Int) (fun s a w=>∃r j m C,s=(r,j,m)/\T (r,j,m)/\OwnSl H (CV .i64) 3 d r C/\I64 j/\I64 m/\St w0 H (C++([(c,oc #[i] 42)]++L)) w/\Fr 63 [(0,d),(1,i6 g),(2,.func (.func 102) #[] #[(pq c)]),(6,i6 f),(7,i6 j),(8,i6 m)] a) a7 (o,(0:Int),((2:Int)* f)) ?_ ?_
 exact y
 rintro _ a w⟨r,j,m,C,rfl,hI,a0,a2,a3,hS,ha⟩
 refine Ab ha ?_
 replace hV:=hV _ hI
 refine zz ?_
 refine Ce hV ?_ ?_<;>intro c4 hV
 obtain⟨a1,hV⟩:=hV
 replace hS:=hS.f2.f2
 obtain⟨mf,hV⟩:=hV
 refine zz ?_
 refine Rd call221 (Vy mf a0 a2 a1 a3 F hS hV) ?_
 rintro _ w⟨a9,b1,hV,rfl,b8,hS⟩
 obtain⟨c8,hV⟩:=hV
 obtain⟨c9,hV⟩:=hV
 replace hS:=hS.f2.f2
 refine zz ?_
 exact y
 obtain⟨V,Y,hV⟩:=hV
 iterate 5 refine z ?_
 refine WC.meet (fun a w=>∃A E,V A/\OwnSl H (CV .i64) 3 d A E/\St w0 H (E++([(c,oc #[i] 42)]++L)) w/\Fr 63 [(0,d),(1,i6 g),(2,.func (.func 102) #[] #[(pq c)]),(6,i6 f)] a) ?_ ?_
 rintro a w⟨A,E,hI,b9,hS,ha⟩
 refine Ab ha ?_
 have hV:=Y _ hI
 obtain⟨d0,hV⟩:=hV
 replace hS:=hS.f2.f2
 refine zz ?_
 exact y
 exact Z
 replace hS:=hS.f2.f2
 refine zz ?_
 exact v0
theorem Yc{c:Value}{h:LI}{f:Ar}{b_8:Nat}{b:Value}{d:List Val}{Q:LI->Prop}(a:OwnSl H (CV .i64) 3 c h f)(i:IsSl H cV b d)(hS:St w0 H (f++([(b_8,oc #[b] 42)]++L)) w)(hV:Ob h d Q):
 Cl 101 #[c,.func (.func 102) #[] #[(pq b_8)]] w fun e w'=>∃(r1:LI)(fp1:Ar),Q r1/\e=.returned (.tuple #[])/\OwnSl H (CV .i64) 3 c r1 fp1/\St w0 H (fp1++([(b_8,oc #[b] 42)]++L)) w':=by
 refine Co func101 ntmps101 ?_
 have g:=a.bound
 replace hV:=hV g
 refine zz ?_
 refine Rn hS (AP underlying130 rfl a) ?_
 replace hS:=hS.f2.f2
 refine R hS ?_
 refine Rd call192 (ZX a (Len.i64 g) i hS hV) ?_
 rintro _ w⟨j,k,hV,rfl,l,hS⟩
 replace hS:=hS.f2.f2
 refine zz ?_
 exact v0
theorem DY{i:Value}{G:List Val}{O:Value}{W:List Val}{Q:Val->Prop}(A:IsSl H cV i G)(c0:IsSl H cV O W)(hS:St w0 H L w)(hV:CL G W Q):
 Cl 65 #[i,O] w (pV w0 H L Q):=by
 refine Co func65 ntmps65 ?_
 refine zz ?_
 refine WL.box (arr:=#[i]) rfl rfl (AN (IsSl.one A)) hS ?_
 intro g w hS
 refine aV hS ?_
 intro b_9 w hS
 replace hS:=hS.f2
 have g9:=A.bound
 replace hV:=hV g9
 refine zz ?_
 refine Rn hS (Ao underlying42 rfl A) ?_
 obtain⟨a6,hV⟩:=hV
 refine WL.make (c:=(CV .i64)) (z0:=(0:Int)) rfl underlying130 info3 rfl ⟨rfl,I64.has (by unfold I64;omega)⟩ rfl rfl a6.1 a6.2.1 a6.2.2 hS ?_
 intro u8 w l0 b7 hS
 have h0:Len (List.replicate (G.length:Int).toNat (0:Int)):=b7.bound
 replace hV:=hV h0
 refine zz ?_
 refine Rn hS (AP underlying130 rfl b7) ?_
 replace hS:=hS.f3.f3
 obtain⟨d4,k1,l3,hV⟩:=hV
 refine zz ?_
 refine WC.loop (σ:=LI×Int) (fun s a w=>∃V S t a4,s=(V,S)/\d4 (V,S)/\OwnSl H (CV .i64) 3 t V a4/\I64 S/\St w0 H ([(g,oc #[i] 42)]++([(b_9,oc #[.nilIface] 25)]++(a4++L))) w/\Fr 107 [(1,O),(2,(pq g)),(4,(pq b_9)),(5,t),(14,i6 ((List.replicate (G.length:Int).toNat (0:Int)).length:Int)),(15,i6 S)] a) k1 ((List.replicate (G.length:Int).toNat (0:Int)),(0:Int)) ?_ ?_
 exact y
 rintro _ a w⟨V,S,t,a4,rfl,hI,a5,j4,hS,ha⟩
 refine Ab ha ?_
 replace hV:=hV _ hI
 refine zz ?_
 refine Ce hV ?_ ?_<;>intro m0 hV
 obtain⟨c2,hV⟩:=hV
 refine zz ?_
 refine Rx hS (Ai underlying130 sizeOf3 rfl rfl a5 c2) ?_
 intro p8 i0
 replace hS:=hS.f3
 refine WL.store_own sizeOf3 rfl rfl rfl (Du (I64.has j4)) hS a5 i0 c2 ?_
 intro w l1 l7 hS
 obtain⟨m3,hV⟩:=hV
 replace hS:=hS.f3.f3
 refine zz ?_
 exact y
 refine zz ?_
 refine Rn hS (AR (vs:=[(pq g)]) ⟨rfl,trivial⟩) ?_
 replace hS:=hS.f3
 refine Rd call101 (Yc a5 A hS hV) ?_
 rintro _ w⟨x,r,hV,rfl,P,hS⟩
 refine zz ?_
 refine Rn hS (Aq (vs:=[i6 (1:Int)]) (zc:=#[ns,ns,i6 0]) (cs:=#[ns,ns,i6 (1:Int)]) (places:=#[(0,1),(1,1),(2,1)]) underlying100 zeroValue100 (fun w=>by simp[sizeOf3,sizeOf42]) rfl ⟨rfl,trivial⟩ rfl Zf) ?_
 refine WL.box (arr:=#[ns,ns,i6 (1:Int)]) rfl rfl rfl hS ?_
 intro f w hS
 have h1:=P.bound
 replace hV:=hV h1
 refine zz ?_
 refine Rn hS (AP underlying130 rfl P) ?_
 replace hS:=hS.nilseg
 replace hS:=hS.nilseg
 replace hS:=hS.f2.f3.f4.f6.f6
 obtain⟨d5,k2,l2,hV⟩:=hV
 refine zz ?_
 refine WC.loop (σ:=(List (Val))×(List (Val))×Int×Int) (fun s a w=>∃D E d j n F l o,s=(D,E,d,j)/\d5 (D,E,d,j)/\OwnSl H cV 25 n D F/\OwnSl H cV 25 l E o/\I64 d/\I64 j/\St w0 H ([(g,oc #[i] 42)]++([(b_9,oc #[.nilIface] 25)]++(r++([(f,oc #[n,l,i6 d] 100)]++(F++(o++L)))))) w/\Fr 107 [(1,O),(2,(pq g)),(4,(pq b_9)),(5,t),(7,(pq f)),(28,t),(29,i6 (x.length:Int)),(30,i6 j)] a) k2 (([]:List (Val)),([]:List (Val)),(1:Int),(0:Int)) ?_ ?_
 exact y
 rintro _ a w⟨D,E,d,j,n,F,l,o,rfl,hI,b8,b9,j5,o8,hS,ha⟩
 refine Ab ha ?_
 replace hV:=hV _ hI
 refine zz ?_
 refine Ce hV ?_ ?_<;>intro l9 hV
 obtain⟨d6,e0,hV⟩:=hV
 iterate 2 refine z ?_
 refine WC.meet (fun a w=>∃Y a0 T b2 a1 b3 a2,d6 (Y,a0,T)/\OwnSl H cV 25 b2 Y a1/\OwnSl H cV 25 b3 a0 a2/\I64 T/\St w0 H ([(g,oc #[i] 42)]++([(b_9,oc #[.nilIface] 25)]++(r++([(f,oc #[b2,b3,i6 T] 100)]++(a1++(a2++L)))))) w/\Fr 107 [(1,O),(2,(pq g)),(4,(pq b_9)),(5,t),(7,(pq f)),(28,t),(29,i6 (x.length:Int)),(30,i6 j)] a) ?_ ?_
 rintro a w⟨Y,a0,T,b2,a1,b3,a2,hI,l4,l5,o4,hS,ha⟩
 refine Ab ha ?_
 have hV:=e0 _ hI
 obtain⟨m2,hV⟩:=hV
 replace hS:=hS.f6.f6.f6.f6.f6.f6
 refine zz ?_
 exact y
 obtain⟨c1,hV⟩:=hV
 refine zz ?_
 refine Rx hS (Ai underlying130 sizeOf3 rfl rfl P c1) ?_
 intro p0 h2
 replace hS:=hS.f3
 refine Rx hS (BG (H:=H) (L:=[(g,oc #[i] 42)]++([(b_9,oc #[.nilIface] 25)]++([(f,oc #[n,l,i6 d] 100)]++(F++(o++L))))) (AD isAgg3 rfl rfl P h2 c1)) ?_
 intro t7 j6
 obtain⟨rfl,a7⟩:=Bh j6
 replace a7:=Bx a7
 replace hV:=hV a7
 obtain⟨d7,e1,hV⟩:=hV
 iterate 4 refine z ?_
 refine WC.meet (fun a w=>∃b4,d7 b4/\St w0 H ([(g,oc #[i] 42)]++([(b_9,oc #[.nilIface] 25)]++(r++([(f,oc #[n,l,i6 d] 100)]++(F++(o++L)))))) w/\Fr 107 [(1,O),(2,(pq g)),(4,(pq b_9)),(5,t),(7,(pq f)),(9,i6 (ix x j)),(28,t),(29,i6 (x.length:Int)),(30,i6 j),(52,.bool b4)] a) ?_ ?_
 rintro a w⟨b4,hI,hS,ha⟩
 refine Ab ha ?_
 have hV:=e1 _ hI
 refine Cf hV ?_ ?_<;>intro l8 hV
 replace hS:=hS.f6.f6.f6.f6.f6.f6
 refine zz ?_
 exact y
 iterate 3 refine z ?_
 refine WC.drawn (σ:=[0,1,2,3,4,5,6,7,8,9,10,11,12,13]) [[],[],[1],[1,2],[1,2,3],[],[],[5,6],[5,6,7],[5,6,7,8],[1,2,3,4,5,6,7,8,9],[0,1,2,3,4,5,6,7,8,9,10],[0,1,2,3,4,5,6,7,8,9,10,11],[0,1,2,3,4,5,6,7,8,9,10,11,12]] [9,10,13] mixed (by kernel_rfl) (hS.drawn _) ?_
 refine Dm fun p9 c3=>?_
 refine Dm fun q0 i1=>?_
 refine Wd.run rfl rfl rfl rfl (fun _=>Bi rfl) fun q1 i2=>?_
 refine Wd.run rfl rfl rfl rfl (fun _=>Af (o':=0) underlying100 rfl sizeOf42 rfl rfl) fun q2 i3=>?_
 refine Wd.runb (off:=0) rfl rfl rfl rfl (fun _ _ _ h=>Aj isAgg42 rfl h) rfl (fun _ h=>St.f4 h) fun q3 i4=>?_
 refine Wd.runb (off:=0) rfl rfl rfl rfl (fun _ _ _ h=>Aj isAgg42 rfl h) rfl (fun _ h=>h) fun q4 m4=>?_
 refine Dm fun q5 m5=>?_
 obtain⟨g5,hV⟩:=hV
 refine Wd.runx rfl rfl rfl rfl (AA (Au underlying42 sizeOf25 rfl rfl A g5)) ?_
 intro p4 h6
 intro q6 m6
 refine Wd.runs (fp:=([]:Ar)) (L:=[(g,oc #[i] 42)]++([(b_9,oc #[.nilIface] 25)]++(r++([(f,oc #[n,l,i6 d] 100)]++(F++(o++L)))))) rfl rfl rfl rfl (AT isAgg25 sizeOf25 rfl h6) (fun _ h=>h) ?_
 rintro u1⟨_,rfl,hu⟩
 obtain⟨b0,rfl,e6⟩:=Aw hu
 intro q7 m7
 refine Wd.turn rfl rfl rfl fun w hS=>?_
 refine WL.builds (c:=cV) (xs:=[(ix G (ix x j))]) (vs:=[.agg #[b0]]) (css:=[[b0]]) rfl underlying42 info25 rfl ⟨rfl,trivial⟩ rfl (by decide) rfl (by simp;rfl) ⟨[b0],_,rfl,(BZ e6),rfl⟩ hS rfl (by decide) ?_
 intro u7 w k8 e7 hS
 refine WL.nil (DQ.mk2 hS ⟨il,il,il,il,.inr (i4 _ _ _ _ rfl (fun _ h=>St.f5 h)),.inr (i3 _),.inr (i2 _),.inr (i1 _),.inr (c3 _),trivial⟩ ?_)
 refine Wd.turn rfl rfl rfl fun w hS=>?_
 obtain⟨c9,hV⟩:=hV
 replace hS:=hS.f6
 refine WL.append (c:=cV) (xs:=D) (ys:=([(ix G (ix x j))])) rfl underlying42 info25 rfl rfl rfl hS b8 (e7.src hS.f2) c9.1 c9.2 ?_
 intro B w U b5 hS
 refine WL.nil (DQ.mk2 hS ⟨il,il,il,il,il,il,il,il,.inr (c3 _),trivial⟩ ?_)
 refine Wd.run rfl rfl rfl rfl (fun _=>Bi rfl) fun q8 m8=>?_
 refine Wd.run rfl rfl rfl rfl (fun _=>Af (o':=0) underlying100 rfl sizeOf42 rfl rfl) fun q9 m9=>?_
 refine Wd.turn rfl rfl rfl fun w hS=>?_
 replace hS:=hS.f6
 refine Ee #[B,l,i6 d] sizeOf42 hS ?_ (cs:=[B]) (hc:=(congrArg Array.toList (AN (OwnSl.one b5)))) (hone:=⟨(OwnSl.one b5),trivial⟩)
 intro w hS
 refine WL.nil (DQ.mk2 hS ⟨il,il,il,il,il,il,il,il,il,il,il,trivial⟩ ?_)
 refine Wd.nil fun w hS=>?_
 replace hS:=hS.f3.drop
 iterate 2 refine z ?_
 refine WC.drawn (σ:=[0,1,2,3,4,5,6,7,8,9,10,11,12,13]) [[],[],[1],[1,2],[1,2,3],[],[],[5,6],[5,6,7],[5,6,7,8],[1,2,3,4,5,6,7,8,9],[0,1,2,3,4,5,6,7,8,9,10],[0,1,2,3,4,5,6,7,8,9,10,11],[0,1,2,3,4,5,6,7,8,9,10,11,12]] [9,10,13] mixed (by kernel_rfl) (hS.drawn _) ?_
 refine Dm fun r0 c4=>?_
 refine Dm fun r1 i5=>?_
 refine Wd.run rfl rfl rfl rfl (fun _=>Bi rfl) fun r2 i7=>?_
 refine Wd.run rfl rfl rfl rfl (fun _=>Af (o':=1) underlying100 rfl sizeOf42 rfl rfl) fun r3 i8=>?_
 refine Wd.runb (off:=1) rfl rfl rfl rfl (fun _ _ _ h=>Aj isAgg42 rfl h) rfl (fun _ h=>h) fun r4 i9=>?_
 refine Dm fun r5 n0=>?_
 refine Dm fun r6 n1=>?_
 obtain⟨g6,hV⟩:=hV
 refine Wd.runx rfl rfl rfl rfl (AA (Au underlying42 sizeOf25 rfl rfl c0 g6)) ?_
 intro p5 h7
 intro r7 n2
 refine Wd.runs (fp:=([]:Ar)) (L:=[(f,oc #[B,l,i6 d] 100)]++(U++([(g,oc #[i] 42)]++([(b_9,oc #[.nilIface] 25)]++(r++(o++L)))))) rfl rfl rfl rfl (AT isAgg25 sizeOf25 rfl h7) (fun _ h=>h) ?_
 rintro u2⟨_,rfl,hu⟩
 obtain⟨b1,rfl,e8⟩:=Aw hu
 intro r8 n3
 refine Wd.turn rfl rfl rfl fun w hS=>?_
 refine WL.builds (c:=cV) (xs:=[(ix W (ix x j))]) (vs:=[.agg #[b1]]) (css:=[[b1]]) rfl underlying42 info25 rfl ⟨rfl,trivial⟩ rfl (by decide) rfl (by simp;rfl) ⟨[b1],_,rfl,(BZ e8),rfl⟩ hS rfl (by decide) ?_
 intro u9 w k9 e9 hS
 refine WL.nil (DQ.mk2 hS ⟨il,il,il,il,.inr (i9 _ _ _ _ rfl (fun _ h=>St.f2 h)),.inr (i8 _),.inr (i7 _),.inr (i5 _),.inr (c4 _),trivial⟩ ?_)
 refine Wd.turn rfl rfl rfl fun w hS=>?_
 obtain⟨d0,hV⟩:=hV
 replace hS:=hS.f7
 refine WL.append (c:=cV) (xs:=E) (ys:=([(ix W (ix x j))])) rfl underlying42 info25 rfl rfl rfl hS b9 (e9.src hS.f2) d0.1 d0.2 ?_
 intro N w a3 b6 hS
 refine WL.nil (DQ.mk2 hS ⟨il,il,il,il,il,il,il,il,.inr (c4 _),trivial⟩ ?_)
 refine Wd.run rfl rfl rfl rfl (fun _=>Bi rfl) fun r9 n4=>?_
 refine Wd.run rfl rfl rfl rfl (fun _=>Af (o':=1) underlying100 rfl sizeOf42 rfl rfl) fun s0 n5=>?_
 refine Wd.turn rfl rfl rfl fun w hS=>?_
 replace hS:=hS.f3
 refine Ee #[B,N,i6 d] sizeOf42 hS ?_ (cs:=[N]) (hc:=(congrArg Array.toList (AN (OwnSl.one b6)))) (hone:=⟨(OwnSl.one b6),trivial⟩)
 intro w hS
 refine WL.nil (DQ.mk2 hS ⟨il,il,il,il,il,il,il,il,il,il,il,trivial⟩ ?_)
 refine Wd.nil fun w hS=>?_
 replace hS:=hS.f3.drop
 iterate 2 refine z ?_
 refine WC.drawn (σ:=[0,1,2,3,4,5,6,7,9,10,11,12,8,13,14,15,16,17,18]) [[],[0],[0,1],[0,1,2],[],[],[4,5],[4,5,6],[4,5,6,7],[],[],[9,10],[9,10,11],[4,5,6,7,8,9,10,11,12],[4,5,6,7,8,9,10,11,12,13],[0,1,2,3,4,5,6,7,8,9,10,11,12,13,14],[0,1,2,3,4,5,6,7,8,9,10,11,12,13,14,15],[0,1,2,3,4,5,6,7,8,9,10,11,12,13,14,15,16],[0,1,2,3,4,5,6,7,8,9,10,11,12,13,14,15,16,17]] [8,13,18] mixed (by kernel_rfl) (hS.drawn _) ?_
 refine Dm fun s1 c5=>?_
 refine Wd.run rfl rfl rfl rfl (fun _=>Bi rfl) fun s2 c6=>?_
 refine Wd.run rfl rfl rfl rfl (fun _=>Af (o':=2) underlying100 rfl sizeOf3 rfl rfl) fun s3 c7=>?_
 refine Wd.runb (off:=2) rfl rfl rfl rfl (fun _ _ _ h=>Aj isAgg3 rfl h) rfl (fun _ h=>h) fun s4 c8=>?_
 refine Wd.runb (off:=0) rfl rfl rfl rfl (fun _ _ _ h=>Aj isAgg42 rfl h) rfl (fun _ h=>St.f4 h) fun s5 n6=>?_
 refine Dm fun s6 n7=>?_
 obtain⟨g7,hV⟩:=hV
 refine Wd.runx rfl rfl rfl rfl (AA (Au underlying42 sizeOf25 rfl rfl A g7)) ?_
 intro p6 h8
 intro s7 n8
 refine Wd.runs (fp:=([]:Ar)) (L:=[(f,oc #[B,N,i6 d] 100)]++(a3++(U++([(g,oc #[i] 42)]++([(b_9,oc #[.nilIface] 25)]++(r++L)))))) rfl rfl rfl rfl (AT isAgg25 sizeOf25 rfl h8) (fun _ h=>h) ?_
 rintro u3⟨_,rfl,hu⟩
 obtain⟨u4,rfl,f0⟩:=Aw hu
 intro s8 n9
 refine Dm fun s9 j0=>?_
 refine Dm fun t0 j1=>?_
 obtain⟨g8,hV⟩:=hV
 refine Wd.runx rfl rfl rfl rfl (AA (Au underlying42 sizeOf25 rfl rfl c0 g8)) ?_
 intro p7 h9
 intro t1 j2
 refine Wd.runs (fp:=([]:Ar)) (L:=[(f,oc #[B,N,i6 d] 100)]++(a3++(U++([(g,oc #[i] 42)]++([(b_9,oc #[.nilIface] 25)]++(r++L)))))) rfl rfl rfl rfl (AT isAgg25 sizeOf25 rfl h9) (fun _ h=>h) ?_
 rintro u5⟨_,rfl,hu⟩
 obtain⟨u6,rfl,f1⟩:=Aw hu
 intro t2 j3
 refine Wd.turn rfl rfl rfl fun w hS=>?_
 refine Rd call13 (Kv f0 hS hV) ?_
 rintro _ w⟨k3,hV,rfl,o6,hS⟩
 refine WL.nil (DQ.mk2 hS ⟨.inr (j3 H ([(f,oc #[B,N,i6 d] 100)]++(a3++(U++([(g,oc #[i] 42)]++([(b_9,oc #[.nilIface] 25)]++(r++L)))))) _ (View.le.refl _) (fun _ h=>h)),.inr (j2 _),.inr (j1 _),.inr (j0 _),il,il,il,il,.inr (c8 _ _ _ _ rfl (fun _ h=>h)),.inr (c7 _),.inr (c6 _),.inr (c5 _),trivial⟩ ?_)
 refine Wd.turn rfl rfl rfl fun w hS=>?_
 refine Rd call13 (Kv f1 hS hV) ?_
 rintro _ w⟨k4,hV,rfl,o7,hS⟩
 refine WL.nil (DQ.mk2 hS ⟨il,il,il,il,il,il,il,il,.inr (c8 _ _ _ _ rfl (fun _ h=>h)),.inr (c7 _),.inr (c6 _),.inr (c5 _),trivial⟩ ?_)
 obtain⟨g0,hV⟩:=hV
 refine Wd.run rfl rfl rfl rfl (fun _=>Eg rfl rfl g0) fun t3 o0=>?_
 obtain⟨g1,hV⟩:=hV
 refine Wd.run rfl rfl rfl rfl (fun _=>Eg rfl rfl g1) fun t4 o1=>?_
 refine Wd.run rfl rfl rfl rfl (fun _=>Bi rfl) fun t5 o2=>?_
 refine Wd.run rfl rfl rfl rfl (fun _=>Af (o':=2) underlying100 rfl sizeOf3 rfl rfl) fun t6 o3=>?_
 refine Wd.turn rfl rfl rfl fun w hS=>?_
 refine Ee #[B,N,i6 (d+(k3+k4))] sizeOf3 hS ?_
 intro w hS
 refine WL.nil (DQ.mk2 hS ⟨il,il,il,il,il,il,il,il,il,il,il,il,il,il,il,il,trivial⟩ ?_)
 refine Wd.nil fun w hS=>?_
 refine zz ?_
 exact Z
 have e2:=hS.freeze
 have a9:=hS.put_le
 refine WC.quiet (C:=St w0 (H.put r) ([(g,oc #[i] 42)]++([(b_9,oc #[.nilIface] 25)]++([(f,oc #[n,l,i6 d] 100)]++(F++(o++L)))))) mixed (by kernel_rfl) (e2.drawn _) ?_
 have hS0:=hS
 iterate 3 refine Rq ?_
 rcases DG (decide ((0:Int)<j)) with m|m
 replace hV:=hV.1 (od m)
 iterate 3 refine Rq ?_
 refine Uq m ?_
 obtain⟨m1,hV⟩:=hV
 refine Rq ?_
 refine Uq m ?_
 obtain⟨g2,hV⟩:=hV
 refine Wq.runx rfl rfl rfl (Au underlying130 sizeOf3 rfl rfl (P.share a9) g2) ?_
 intro p1 h3
 refine Uq m ?_
 refine Wq.runx rfl rfl rfl (Bp isAgg3 rfl rfl h3) ?_
 intro t8 j7
 obtain⟨rfl,a8⟩:=Bh j7
 replace a8:=Bx a8
 replace hV:=hV a8
 refine Uq m ?_
 obtain⟨g3,hV⟩:=hV
 refine Wq.runx rfl rfl rfl (Au underlying42 sizeOf25 rfl rfl (A.mono a9) g3) ?_
 intro p2 h4
 refine Uq m ?_
 refine Wq.runx rfl rfl rfl (AE isAgg25 sizeOf25 rfl h4) ?_
 rintro t9⟨_,rfl,hu⟩
 obtain⟨k5,rfl,e3⟩:=Aw hu
 iterate 2 refine Rq ?_
 refine Uq m ?_
 obtain⟨g4,hV⟩:=hV
 refine Wq.runx rfl rfl rfl (Au underlying42 sizeOf25 rfl rfl (A.mono a9) g4) ?_
 intro p3 h5
 refine Uq m ?_
 refine Wq.runx rfl rfl rfl (AE isAgg25 sizeOf25 rfl h5) ?_
 rintro u0⟨_,rfl,hu⟩
 obtain⟨k6,rfl,e4⟩:=Aw hu
 refine Uq m ?_
 obtain⟨k0,d1,e5,o5,hV⟩:=hV
 refine Wq.call (v:=i6 d1) rfl rfl rfl (fun w=>Bf (vs:=[.agg #[k5],.agg #[k6]]) call19 ⟨rfl,rfl,trivial⟩) (fun w hS=>(Er k0 (Q:=fun y0=>y0=d1) e3 e4 hS e5).mono ?_) ?_
 rintro e w'⟨_,rfl,he,_,hS⟩
 exact⟨he,hS⟩
 iterate 2 refine Rq ?_
 refine Wq.nil fun w hS=>?_
 have d8:=hS0.back hS
 have hS:=d8
 replace hS:=hS.f6.f6.f6.f4.f6.f6
 exact y
 replace hV:=hV.2 (ov m)
 iterate 15 refine Rq ?_
 refine Wq.nil fun w hS=>?_
 have d9:=hS0.back hS
 have hS:=d9
 replace hS:=hS.f6.f6.f6.f4.f6.f6
 exact y
 replace hS:=hS.drop
 replace hS:=hS.f2.drop
 replace hS:=hS.f3
 refine zz ?_
 obtain⟨d2,j8,f8,hS⟩:∃K,View.le H K/\IsSl K cV n D/\St w0 K ([(b_9,oc #[.nilIface] 25)]++([(f,oc #[n,l,i6 d] 100)]++(o++L))) w:=⟨_,hS.put_le,b8.share hS.put_le,hS.freeze⟩
 replace hS:=hS.f3
 obtain⟨d3,j9,f9,hS⟩:∃K,View.le d2 K/\IsSl K cV l E/\St w0 K ([(b_9,oc #[.nilIface] 25)]++([(f,oc #[n,l,i6 d] 100)]++L)) w:=⟨_,hS.put_le,(b9.mono j8).share hS.put_le,hS.freeze⟩
 replace hS:=hS.f2
 refine Rn hS (Bk concrete97 rfl) ?_
 obtain⟨k7,o9,l6,hS⟩:∃K,View.le d3 K/\IsW K (.iface 97 ((pq f))) (Val.fn D E d)/\St w0 K ([(b_9,oc #[.nilIface] 25)]++L) w:=⟨_,hS.put_le,IsW.mkfn hS (f8.mono j9) f9 j5,hS.freeze⟩
 refine Rn hS (Aq (vs:=[.iface 97 ((pq f))]) (zc:=#[.nilIface]) (cs:=#[.iface 97 ((pq f))]) (places:=#[(0,1)]) underlying25 zeroValue25 (fun w=>by simp[sizeOf23]) rfl ⟨rfl,trivial⟩ rfl (by simp[Instr.fill,Bs,Be,AW,AJ,AX,Br,BA,Dj])) ?_
 refine sA hS ?_
 intro w hS
 refine zz ?_
 exact vc
theorem Dq{m:Value}{e:List Val}{Q:Val->Prop}(j:IsSl H cV m e)(hS:St w0 H L w)(hV:BQ e Q):
 Cl 61 #[m] w (pV w0 H L Q):=by
 refine BW func61 ntmps61 ?_
 refine zz ?_
 refine aV hS ?_
 intro h w hS
 have x:=j.bound
 replace hV:=hV x
 refine zz ?_
 refine Rn hS (Ao underlying42 rfl j) ?_
 obtain⟨l,hV⟩:=hV
 refine WL.makes (c:=cV) (z0:=Val.nil) rfl underlying42 info25 (BZ IsW.nil) rfl rfl l.1 l.2.1 l.2.2 hS ?_
 intro v_8 w O n hS
 have v:Len (List.replicate (e.length:Int).toNat Val.nil):=n.bound
 replace hV:=hV v
 refine zz ?_
 refine Rn hS (AP underlying42 rfl n) ?_
 replace hS:=hS.f2
 obtain⟨r,D,P,hV⟩:=hV
 refine zz ?_
 refine WC.loop (σ:=(List (Val))×Int) (fun s a w=>∃d f b g i,s=(d,f)/\r (d,f)/\View.le H b/\OwnSl b cV 25 g d i/\I64 f/\St w0 b ([(h,oc #[.nilIface] 25)]++(i++L)) w/\Fr 23 [(0,m),(2,(pq h)),(3,g),(9,i6 ((List.replicate (e.length:Int).toNat Val.nil).length:Int)),(10,i6 f)] a) D ((List.replicate (e.length:Int).toNat Val.nil),(0:Int)) ?_ ?_
 exact y
 rintro _ a w⟨d,f,b,g,i,rfl,hI,B,k,W,hS,ha⟩
 refine Ab ha ?_
 replace hV:=hV _ hI
 refine zz ?_
 refine Ce hV ?_ ?_<;>intro U hV
 obtain⟨u,hV⟩:=hV
 refine zz ?_
 refine Rd call100 (Cz u hS hV) ?_
 rintro _ w⟨E,F,G,hV,rfl,q,o,hS⟩
 obtain⟨p,hV⟩:=hV
 refine Rx hS (Ai underlying42 sizeOf25 rfl rfl (k.mono q) p) ?_
 intro Z A
 replace hS:=hS.f2
 refine WL.store_own_agg (c:=cV) (z:=E) (m':=[F]) sizeOf25 rfl rfl rfl ⟨(IsW.one o),trivial⟩ (BZ o) hS (k.mono q) A p ?_
 intro w N S hS
 obtain⟨V,hV⟩:=hV
 replace hS:=hS.f2
 refine zz ?_
 exact y
 replace hS:=hS.f2
 refine zz ?_
 obtain⟨I,C,t,hS⟩:∃K,View.le b K/\IsSl K cV g d/\St w0 K ([(h,oc #[.nilIface] 25)]++L) w:=⟨_,hS.put_le,k.share hS.put_le,hS.freeze⟩
 refine Rd call65 (DY t ((j.mono B).mono C) hS hV) ?_
 rintro _ w⟨a0,a1,J,hV,rfl,Y,T,hS⟩
 refine sA hS ?_
 intro w hS
 refine zz ?_
 exact vc
theorem Gr{f:Nat}{h:Aa}{b:Int}{d:Int}{g:Bool}{c:Int}{E:Int->Int->Prop}{Q:Prop}(j:I64 b)(k:I64 d)(i:I64 c)(hS:St w0 H ([(f,oc #[sv h,i6 b,i6 d,.bool g] 62)]++L) w)(hV:Ef h b d g c E Q):
 Cl 25 #[(pq f),i6 c] w fun e w'=>(Q/\e=.returned (.tuple #[])/\St w0 H ([(f,oc #[sv h,i6 b,i6 d,.bool g] 62)]++L) w')\/(∃e1 a1,E e1 a1/\e=.panicked (Dy e1 a1)/\∃H1,View.le H H1/\St w0 H1 L w'):=by
 refine Co func25 ntmps25 ?_
 refine zz ?_
 refine Rn hS (Aq (vs:=[i6 c,i6 b]) (zc:=#[i6 0,i6 0]) (cs:=#[i6 c,i6 b]) (places:=#[(0,1),(1,1)]) underlying59 zeroValue59 (fun w=>by simp[sizeOf3,sizeOf57]) rfl ⟨rfl,rfl,trivial⟩ rfl Zf) ?_
 refine Rn hS (Bk concrete59 rfl) ?_
 refine WL.panic rfl ?_
 exact WQ.of fun a ha=>And.intro ha.defers (.inr ⟨c,b,hV,rfl,_,(View.le.refl _),hS.drop⟩)
theorem Ve{f:Nat}{d:Aa}{m:Int}{g:Int}{j:Bool}{Q:Int->Prop}(O:I64 m)(S:I64 g)(hS:St w0 H ([(f,oc #[sv d,i6 m,i6 g,.bool j] 62)]++L) w)(hV:MW d m g j Q):
 Cl 24 #[(pq f)] w fun e w'=>∃(r1:Int),Q r1/\e=.returned (.tuple #[])/\I64 r1/\St w0 H ([(f,oc #[sv d,i6 r1,i6 g,.bool j] 62)]++L) w':=by
 refine BW func24 ntmps24 ?_
 obtain⟨r,D,E,hV⟩:=hV
 refine zz ?_
 refine WC.loop (σ:=Int) (fun s a w=>∃c,s=c/\r c/\I64 c/\St w0 H ([(f,oc #[sv d,i6 c,i6 g,.bool j] 62)]++L) w/\Fr 32 [(0,(pq f))] a) D m ?_ ?_
 exact y
 rintro c a w⟨_,rfl,hI,N,hS,ha⟩
 refine Ab ha ?_
 replace hV:=hV _ hI
 obtain⟨t,A,hV⟩:=hV
 refine z ?_
 refine WC.meet (fun a w=>∃n,t n/\St w0 H ([(f,oc #[sv d,i6 c,i6 g,.bool j] 62)]++L) w/\Fr 32 [(0,(pq f)),(24,.bool n)] a) ?_ ?_
 rintro a w⟨n,hI,hS,ha⟩
 refine Ab ha ?_
 have hV:=A _ hI
 exact Z
 refine WC.quiet (C:=St w0 H ([(f,oc #[sv d,i6 c,i6 g,.bool j] 62)]++L)) mixed (by kernel_rfl) (hS.drawn _) ?_
 iterate 8 refine Rq ?_
 obtain⟨G,hV⟩:=hV
 iterate 3 refine Rq ?_
 rcases DG (decide (c<(d.length:Int))) with l|l
 replace hV:=hV.1 (od l)
 iterate 8 refine Rq ?_
 refine Uq l ?_
 obtain⟨F,hV⟩:=hV
 refine Rq ?_
 refine Uq l ?_
 obtain⟨o,B,P,hV⟩:=hV
 refine Wq.call (v:=i6 o) rfl rfl rfl (fun w=>Bf (vs:=[sv ([32,9,10]:Aa),.int .u8 (AS d c)]) call67 ⟨rfl,rfl,trivial⟩) (fun w hS=>(SF (Q:=fun y0=>y0=o) (IJ (x:=d) (i:=c)) hS B).mono ?_) ?_
 rintro e w'⟨_,rfl,he,_,hS⟩
 exact⟨he,hS⟩
 iterate 2 refine Rq ?_
 refine Wq.nil fun w hS=>?_
 exact y
 replace hV:=hV.2 (ov l)
 iterate 12 refine Rq ?_
 refine Wq.nil fun w hS=>?_
 exact y
theorem WZ{s_1:Aa}{d:Aa}{Q:Bool->Prop}(hS:St w0 H L w)(hV:PO s_1 d Q):
 Cl 94 #[sv s_1,sv d] w (pB w0 H L Q):=by
 refine Co func94 ntmps94 ?_
 obtain⟨f,g,hV⟩:=hV
 iterate 3 refine z ?_
 refine WC.meet (fun a w=>∃c,f c/\St w0 H (L) w/\Fr 18 [(4,.bool c)] a) ?_ ?_
 rintro a w⟨c,hI,hS,ha⟩
 refine Ab ha ?_
 have hV:=g _ hI
 refine z ?_
 exact v1
 exact Z
theorem GW{s_1:Aa}{a:Aa}{Q:Bool->Prop}(hS:St w0 H L w)(hV:EL s_1 a Q):
 Cl 57 #[sv s_1,sv a] w (pB w0 H L Q):=by
 refine Co func57 ntmps57 ?_
 refine zz ?_
 refine Rd call94 (WZ hS hV) ?_
 rintro _ w⟨b,hV,rfl,hS⟩
 refine zz ?_
 exact v1
theorem Qf{d:Nat}{c:Aa}{g:Int}{a:Int}{b:Bool}{f:Aa}{Q:Bool->Int->Prop}(j:I64 g)(k:I64 a)(hS:St w0 H ([(d,oc #[sv c,i6 g,i6 a,.bool b] 62)]++L) w)(hV:Lz c g a b f Q):
 Cl 95 #[(pq d),sv f] w fun e w'=>∃(r1:Bool)(r2:Int),Q r1 r2/\e=.returned (.bool r1)/\I64 r2/\St w0 H ([(d,oc #[sv c,i6 r2,i6 a,.bool b] 62)]++L) w':=by
 refine Co func95 ntmps95 ?_
 iterate 5 refine z ?_
 refine Rd call24 (Ve j k hS hV) ?_
 rintro _ w⟨l,hV,rfl,D,hS⟩
 iterate 3 refine z ?_
 refine WC.drawn (σ:=[0,1,2,3,4,5,6,7,8,9,10]) [[],[0],[0,1],[0,1,2],[],[4],[4,5],[4,5,6],[0,1,2,3,4,5,6,7],[],[0,1,2,3,4,5,6,7,8,9]] [10] mixed (by kernel_rfl) (hS.drawn _) ?_
 refine Dm fun E q=>?_
 refine Wd.run rfl rfl rfl rfl (fun _=>Bi rfl) fun F r=>?_
 refine Wd.run rfl rfl rfl rfl (fun _=>Af (o':=0) underlying62 rfl sizeOf9 rfl rfl) fun G s=>?_
 refine Wd.runb (off:=0) rfl rfl rfl rfl (fun _ _ _ h=>Aj isAgg9 rfl h) rfl (fun _ h=>h) fun I t=>?_
 refine Dm fun J u=>?_
 refine Wd.run rfl rfl rfl rfl (fun _=>Bi rfl) fun K v=>?_
 refine Wd.run rfl rfl rfl rfl (fun _=>Af (o':=1) underlying62 rfl sizeOf3 rfl rfl) fun N x=>?_
 refine Wd.runb (off:=1) rfl rfl rfl rfl (fun _ _ _ h=>Aj isAgg3 rfl h) rfl (fun _ h=>h) fun O A=>?_
 obtain⟨i,hV⟩:=hV
 refine Wd.run rfl rfl rfl rfl (fun _=>My underlying9 rfl rfl i) fun P B=>?_
 refine Dm fun S C=>?_
 refine Wd.turn rfl rfl rfl fun w hS=>?_
 refine Rd call57 (GW hS hV) ?_
 rintro _ w⟨T,hV,rfl,hS⟩
 refine WL.nil (DQ.mk2 hS ⟨il,il,il,il,il,il,il,il,il,il,trivial⟩ ?_)
 refine Wd.nil fun w hS=>?_
 refine z ?_
 refine Cf hV ?_ ?_<;>intro n hV
 obtain⟨p,hV⟩:=hV
 obtain⟨o,hV⟩:=hV
 iterate 10 refine z ?_
 refine Ee #[sv c,i6 (l+(f.length:Int)),i6 a,.bool b] sizeOf3 hS ?_
 intro w hS
 refine z ?_
 refine WC.sub (m:=[]) trivial ?_
 iterate 5 refine z ?_
 exact v1
 iterate 6 refine z ?_
 exact v1
theorem Ub{b:Nat}{g:Aa}{h:Int}{c:Int}{d:Bool}{k:Aa}{E:Int->Int->Prop}{Q:Int->Prop}(n:I64 h)(i:I64 c)(hS:St w0 H ([(b,oc #[sv g,i6 h,i6 c,.bool d] 62)]++L) w)(hV:ND g h c d k E Q):
 Cl 64 #[(pq b),sv k] w fun e w'=>(∃(r1:Int),Q r1/\e=.returned (.tuple #[])/\I64 r1/\St w0 H ([(b,oc #[sv g,i6 r1,i6 c,.bool d] 62)]++L) w')\/(∃e1 a1,E e1 a1/\e=.panicked (Dy e1 a1)/\∃H1,View.le H H1/\St w0 H1 L w'):=by
 refine Co func64 ntmps64 ?_
 refine zz ?_
 refine Rd call95 (Qf n i hS hV) ?_
 rintro _ w⟨s,j,hV,rfl,f,hS⟩
 refine zz ?_
 refine Cf hV ?_ ?_<;>intro r hV
 refine zz ?_
 refine WL.callP rfl rfl rfl (Bf (vs:=[(pq b),i6 (1:Int)]) call25 ⟨rfl,rfl,trivial⟩) (Gr f i (show I64 (1:Int) by unfold I64;omega) hS hV) (by rintro _ w⟨l,p,m,rfl,q,o,hS⟩;exact⟨_,rfl,WQ.of fun a ha=>And.intro ha.defers (.inr ⟨l,p,m,rfl,_,((View.le.refl _).trans o),hS⟩)⟩) ?_
 rintro _ w⟨hV,rfl,hS⟩
 refine⟨_,rfl,?_⟩
 refine zz ?_
 exact HX (.inr rfl) rfl (.inl ⟨j,hV,rfl,f,hS⟩)
 refine zz ?_
 exact HX (.inr rfl) rfl (.inl ⟨j,hV,rfl,f,hS⟩)
theorem ZN{a:Int}{Q:Bool->Prop}(A:IntKind.u8.has a)(hS:St w0 H L w)(hV:Tu a Q):
 Cl 193 #[.int .u8 a] w (pB w0 H L Q):=by
 refine BW func193 ntmps193 ?_
 iterate 3 refine z ?_
 refine WC.seq ?_
 refine WC.via (m:=[(2,.bool (decide ((((((97:Int)<=a)/\(a<=(122:Int)))\/(((65:Int)<=a)/\(a<=(90:Int))))\/(((48:Int)<=a)/\(a<=(57:Int))))\/(a=(95:Int)))))]) ?_ ?_
 refine zz ?_
 rcases DG (decide ((97:Int)<=a)) with c|c
 iterate 3 refine z ?_
 refine WL.up (s:=8) rfl (De c:decide (a<=(122:Int))=decide (((97:Int)<=a)/\(a<=(122:Int)))) (R hS ?_)
 rcases DG (decide (((97:Int)<=a)/\(a<=(122:Int)))) with b|b
 iterate 7 refine z ?_
 refine WL.up (s:=16) rfl (Bg b:true=decide ((((97:Int)<=a)/\(a<=(122:Int)))\/(((65:Int)<=a)/\(a<=(90:Int))))) (R hS ?_)
 refine WL.skip_g rfl rfl rfl (Bg b).symm rfl rfl (WL.skip_g rfl rfl rfl (Bg b).symm rfl rfl (WL.skip_g rfl rfl rfl (Bg b).symm rfl rfl (zz ?_)))
 refine WL.skip_g rfl rfl rfl (Bg b).symm rfl rfl (Rn hS (Dp rfl (Bg b).symm rfl) ?_)
 refine WL.up (s:=24) rfl (Bg (Bg b).symm:true=decide (((((97:Int)<=a)/\(a<=(122:Int)))\/(((65:Int)<=a)/\(a<=(90:Int))))\/(((48:Int)<=a)/\(a<=(57:Int))))) (R hS ?_)
 refine WL.skip_g rfl rfl rfl (Bg (Bg b).symm).symm rfl rfl (WL.skip_g rfl rfl rfl (Bg (Bg b).symm).symm rfl rfl (Rn hS (Dp rfl (Bg (Bg b).symm).symm rfl) ?_))
 refine WL.up (s:=28) rfl (Bg (Bg (Bg b).symm).symm:true=decide ((((((97:Int)<=a)/\(a<=(122:Int)))\/(((65:Int)<=a)/\(a<=(90:Int))))\/(((48:Int)<=a)/\(a<=(57:Int))))\/(a=(95:Int)))) (R hS ?_)
 exact WL.nil At.os
 refine zz ?_
 rcases DG (decide ((65:Int)<=a)) with t|t
 iterate 3 refine z ?_
 refine WL.up (s:=15) rfl (De t:decide (a<=(90:Int))=decide (((65:Int)<=a)/\(a<=(90:Int)))) (z ?_)
 refine WL.up (s:=16) rfl (CQ b:decide (((65:Int)<=a)/\(a<=(90:Int)))=decide ((((97:Int)<=a)/\(a<=(122:Int)))\/(((65:Int)<=a)/\(a<=(90:Int))))) (R hS ?_)
 rcases DG (decide ((((97:Int)<=a)/\(a<=(122:Int)))\/(((65:Int)<=a)/\(a<=(90:Int))))) with g|g
 iterate 7 refine z ?_
 refine WL.up (s:=24) rfl (Bg g:true=decide (((((97:Int)<=a)/\(a<=(122:Int)))\/(((65:Int)<=a)/\(a<=(90:Int))))\/(((48:Int)<=a)/\(a<=(57:Int))))) (R hS ?_)
 refine WL.skip_g rfl rfl rfl (Bg g).symm rfl rfl (WL.skip_g rfl rfl rfl (Bg g).symm rfl rfl (Rn hS (Dp rfl (Bg g).symm rfl) ?_))
 refine WL.up (s:=28) rfl (Bg (Bg g).symm:true=decide ((((((97:Int)<=a)/\(a<=(122:Int)))\/(((65:Int)<=a)/\(a<=(90:Int))))\/(((48:Int)<=a)/\(a<=(57:Int))))\/(a=(95:Int)))) (R hS ?_)
 exact WL.nil At.os
 refine zz ?_
 rcases DG (decide ((48:Int)<=a)) with u|u
 iterate 3 refine z ?_
 refine WL.up (s:=23) rfl (De u:decide (a<=(57:Int))=decide (((48:Int)<=a)/\(a<=(57:Int)))) (z ?_)
 refine WL.up (s:=24) rfl (CQ g:decide (((48:Int)<=a)/\(a<=(57:Int)))=decide (((((97:Int)<=a)/\(a<=(122:Int)))\/(((65:Int)<=a)/\(a<=(90:Int))))\/(((48:Int)<=a)/\(a<=(57:Int))))) (R hS ?_)
 rcases DG (decide (((((97:Int)<=a)/\(a<=(122:Int)))\/(((65:Int)<=a)/\(a<=(90:Int))))\/(((48:Int)<=a)/\(a<=(57:Int))))) with v|v
 iterate 3 refine z ?_
 refine WL.up (s:=28) rfl (Bg v:true=decide ((((((97:Int)<=a)/\(a<=(122:Int)))\/(((65:Int)<=a)/\(a<=(90:Int))))\/(((48:Int)<=a)/\(a<=(57:Int))))\/(a=(95:Int)))) (R hS ?_)
 exact WL.nil At.os
 iterate 3 refine z ?_
 refine WL.up (s:=28) rfl (CQ v:decide (a=(95:Int))=decide ((((((97:Int)<=a)/\(a<=(122:Int)))\/(((65:Int)<=a)/\(a<=(90:Int))))\/(((48:Int)<=a)/\(a<=(57:Int))))\/(a=(95:Int)))) (R hS ?_)
 exact WL.nil At.os
 iterate 3 refine z ?_
 refine WL.up (s:=23) rfl (Bj u:false=decide (((48:Int)<=a)/\(a<=(57:Int)))) (z ?_)
 refine WL.up (s:=24) rfl (CQ g:decide (((48:Int)<=a)/\(a<=(57:Int)))=decide (((((97:Int)<=a)/\(a<=(122:Int)))\/(((65:Int)<=a)/\(a<=(90:Int))))\/(((48:Int)<=a)/\(a<=(57:Int))))) (R hS ?_)
 rcases DG (decide (((((97:Int)<=a)/\(a<=(122:Int)))\/(((65:Int)<=a)/\(a<=(90:Int))))\/(((48:Int)<=a)/\(a<=(57:Int))))) with x|x
 iterate 3 refine z ?_
 refine WL.up (s:=28) rfl (Bg x:true=decide ((((((97:Int)<=a)/\(a<=(122:Int)))\/(((65:Int)<=a)/\(a<=(90:Int))))\/(((48:Int)<=a)/\(a<=(57:Int))))\/(a=(95:Int)))) (R hS ?_)
 exact WL.nil At.os
 iterate 3 refine z ?_
 refine WL.up (s:=28) rfl (CQ x:decide (a=(95:Int))=decide ((((((97:Int)<=a)/\(a<=(122:Int)))\/(((65:Int)<=a)/\(a<=(90:Int))))\/(((48:Int)<=a)/\(a<=(57:Int))))\/(a=(95:Int)))) (R hS ?_)
 exact WL.nil At.os
 iterate 3 refine z ?_
 refine WL.up (s:=15) rfl (Bj t:false=decide (((65:Int)<=a)/\(a<=(90:Int)))) (z ?_)
 refine WL.up (s:=16) rfl (CQ b:decide (((65:Int)<=a)/\(a<=(90:Int)))=decide ((((97:Int)<=a)/\(a<=(122:Int)))\/(((65:Int)<=a)/\(a<=(90:Int))))) (R hS ?_)
 rcases DG (decide ((((97:Int)<=a)/\(a<=(122:Int)))\/(((65:Int)<=a)/\(a<=(90:Int))))) with d|d
 iterate 7 refine z ?_
 refine WL.up (s:=24) rfl (Bg d:true=decide (((((97:Int)<=a)/\(a<=(122:Int)))\/(((65:Int)<=a)/\(a<=(90:Int))))\/(((48:Int)<=a)/\(a<=(57:Int))))) (R hS ?_)
 refine WL.skip_g rfl rfl rfl (Bg d).symm rfl rfl (WL.skip_g rfl rfl rfl (Bg d).symm rfl rfl (Rn hS (Dp rfl (Bg d).symm rfl) ?_))
 refine WL.up (s:=28) rfl (Bg (Bg d).symm:true=decide ((((((97:Int)<=a)/\(a<=(122:Int)))\/(((65:Int)<=a)/\(a<=(90:Int))))\/(((48:Int)<=a)/\(a<=(57:Int))))\/(a=(95:Int)))) (R hS ?_)
 exact WL.nil At.os
 refine zz ?_
 rcases DG (decide ((48:Int)<=a)) with h|h
 iterate 3 refine z ?_
 refine WL.up (s:=23) rfl (De h:decide (a<=(57:Int))=decide (((48:Int)<=a)/\(a<=(57:Int)))) (z ?_)
 refine WL.up (s:=24) rfl (CQ d:decide (((48:Int)<=a)/\(a<=(57:Int)))=decide (((((97:Int)<=a)/\(a<=(122:Int)))\/(((65:Int)<=a)/\(a<=(90:Int))))\/(((48:Int)<=a)/\(a<=(57:Int))))) (R hS ?_)
 rcases DG (decide (((((97:Int)<=a)/\(a<=(122:Int)))\/(((65:Int)<=a)/\(a<=(90:Int))))\/(((48:Int)<=a)/\(a<=(57:Int))))) with i|i
 iterate 3 refine z ?_
 refine WL.up (s:=28) rfl (Bg i:true=decide ((((((97:Int)<=a)/\(a<=(122:Int)))\/(((65:Int)<=a)/\(a<=(90:Int))))\/(((48:Int)<=a)/\(a<=(57:Int))))\/(a=(95:Int)))) (R hS ?_)
 exact WL.nil At.os
 iterate 3 refine z ?_
 refine WL.up (s:=28) rfl (CQ i:decide (a=(95:Int))=decide ((((((97:Int)<=a)/\(a<=(122:Int)))\/(((65:Int)<=a)/\(a<=(90:Int))))\/(((48:Int)<=a)/\(a<=(57:Int))))\/(a=(95:Int)))) (R hS ?_)
 exact WL.nil At.os
 iterate 3 refine z ?_
 refine WL.up (s:=23) rfl (Bj h:false=decide (((48:Int)<=a)/\(a<=(57:Int)))) (z ?_)
 refine WL.up (s:=24) rfl (CQ d:decide (((48:Int)<=a)/\(a<=(57:Int)))=decide (((((97:Int)<=a)/\(a<=(122:Int)))\/(((65:Int)<=a)/\(a<=(90:Int))))\/(((48:Int)<=a)/\(a<=(57:Int))))) (R hS ?_)
 rcases DG (decide (((((97:Int)<=a)/\(a<=(122:Int)))\/(((65:Int)<=a)/\(a<=(90:Int))))\/(((48:Int)<=a)/\(a<=(57:Int))))) with j|j
 iterate 3 refine z ?_
 refine WL.up (s:=28) rfl (Bg j:true=decide ((((((97:Int)<=a)/\(a<=(122:Int)))\/(((65:Int)<=a)/\(a<=(90:Int))))\/(((48:Int)<=a)/\(a<=(57:Int))))\/(a=(95:Int)))) (R hS ?_)
 exact WL.nil At.os
 iterate 3 refine z ?_
 refine WL.up (s:=28) rfl (CQ j:decide (a=(95:Int))=decide ((((((97:Int)<=a)/\(a<=(122:Int)))\/(((65:Int)<=a)/\(a<=(90:Int))))\/(((48:Int)<=a)/\(a<=(57:Int))))\/(a=(95:Int)))) (R hS ?_)
 exact WL.nil At.os
 iterate 3 refine z ?_
 refine WL.up (s:=8) rfl (Bj c:false=decide (((97:Int)<=a)/\(a<=(122:Int)))) (R hS ?_)
 refine Ug (Bj c).symm ?_
 refine R hS ?_
 refine Ug (Bj c).symm ?_
 refine R hS ?_
 refine Ug (Bj c).symm ?_
 refine R hS ?_
 rcases DG (decide ((65:Int)<=a)) with k|k
 refine zz ?_
 refine Ug (Bj c).symm ?_
 refine z ?_
 refine WL.up (s:=15) rfl (De k:decide (a<=(90:Int))=decide (((65:Int)<=a)/\(a<=(90:Int)))) (Rn hS (FA rfl (Bj c).symm rfl) ?_)
 refine WL.up (s:=16) rfl (CQ (Bj c).symm:decide (((65:Int)<=a)/\(a<=(90:Int)))=decide ((((97:Int)<=a)/\(a<=(122:Int)))\/(((65:Int)<=a)/\(a<=(90:Int))))) (R hS ?_)
 rcases DG (decide ((((97:Int)<=a)/\(a<=(122:Int)))\/(((65:Int)<=a)/\(a<=(90:Int))))) with e|e
 iterate 7 refine z ?_
 refine WL.up (s:=24) rfl (Bg e:true=decide (((((97:Int)<=a)/\(a<=(122:Int)))\/(((65:Int)<=a)/\(a<=(90:Int))))\/(((48:Int)<=a)/\(a<=(57:Int))))) (R hS ?_)
 refine WL.skip_g rfl rfl rfl (Bg e).symm rfl rfl (WL.skip_g rfl rfl rfl (Bg e).symm rfl rfl (Rn hS (Dp rfl (Bg e).symm rfl) ?_))
 refine WL.up (s:=28) rfl (Bg (Bg e).symm:true=decide ((((((97:Int)<=a)/\(a<=(122:Int)))\/(((65:Int)<=a)/\(a<=(90:Int))))\/(((48:Int)<=a)/\(a<=(57:Int))))\/(a=(95:Int)))) (R hS ?_)
 exact WL.nil At.os
 refine zz ?_
 rcases DG (decide ((48:Int)<=a)) with l|l
 iterate 3 refine z ?_
 refine WL.up (s:=23) rfl (De l:decide (a<=(57:Int))=decide (((48:Int)<=a)/\(a<=(57:Int)))) (z ?_)
 refine WL.up (s:=24) rfl (CQ e:decide (((48:Int)<=a)/\(a<=(57:Int)))=decide (((((97:Int)<=a)/\(a<=(122:Int)))\/(((65:Int)<=a)/\(a<=(90:Int))))\/(((48:Int)<=a)/\(a<=(57:Int))))) (R hS ?_)
 rcases DG (decide (((((97:Int)<=a)/\(a<=(122:Int)))\/(((65:Int)<=a)/\(a<=(90:Int))))\/(((48:Int)<=a)/\(a<=(57:Int))))) with n|n
 iterate 3 refine z ?_
 refine WL.up (s:=28) rfl (Bg n:true=decide ((((((97:Int)<=a)/\(a<=(122:Int)))\/(((65:Int)<=a)/\(a<=(90:Int))))\/(((48:Int)<=a)/\(a<=(57:Int))))\/(a=(95:Int)))) (R hS ?_)
 exact WL.nil At.os
 iterate 3 refine z ?_
 refine WL.up (s:=28) rfl (CQ n:decide (a=(95:Int))=decide ((((((97:Int)<=a)/\(a<=(122:Int)))\/(((65:Int)<=a)/\(a<=(90:Int))))\/(((48:Int)<=a)/\(a<=(57:Int))))\/(a=(95:Int)))) (R hS ?_)
 exact WL.nil At.os
 iterate 3 refine z ?_
 refine WL.up (s:=23) rfl (Bj l:false=decide (((48:Int)<=a)/\(a<=(57:Int)))) (z ?_)
 refine WL.up (s:=24) rfl (CQ e:decide (((48:Int)<=a)/\(a<=(57:Int)))=decide (((((97:Int)<=a)/\(a<=(122:Int)))\/(((65:Int)<=a)/\(a<=(90:Int))))\/(((48:Int)<=a)/\(a<=(57:Int))))) (R hS ?_)
 rcases DG (decide (((((97:Int)<=a)/\(a<=(122:Int)))\/(((65:Int)<=a)/\(a<=(90:Int))))\/(((48:Int)<=a)/\(a<=(57:Int))))) with o|o
 iterate 3 refine z ?_
 refine WL.up (s:=28) rfl (Bg o:true=decide ((((((97:Int)<=a)/\(a<=(122:Int)))\/(((65:Int)<=a)/\(a<=(90:Int))))\/(((48:Int)<=a)/\(a<=(57:Int))))\/(a=(95:Int)))) (R hS ?_)
 exact WL.nil At.os
 iterate 3 refine z ?_
 refine WL.up (s:=28) rfl (CQ o:decide (a=(95:Int))=decide ((((((97:Int)<=a)/\(a<=(122:Int)))\/(((65:Int)<=a)/\(a<=(90:Int))))\/(((48:Int)<=a)/\(a<=(57:Int))))\/(a=(95:Int)))) (R hS ?_)
 exact WL.nil At.os
 refine zz ?_
 refine Ug (Bj c).symm ?_
 refine z ?_
 refine WL.up (s:=15) rfl (Bj k:false=decide (((65:Int)<=a)/\(a<=(90:Int)))) (Rn hS (FA rfl (Bj c).symm rfl) ?_)
 refine WL.up (s:=16) rfl (CQ (Bj c).symm:decide (((65:Int)<=a)/\(a<=(90:Int)))=decide ((((97:Int)<=a)/\(a<=(122:Int)))\/(((65:Int)<=a)/\(a<=(90:Int))))) (R hS ?_)
 rcases DG (decide ((((97:Int)<=a)/\(a<=(122:Int)))\/(((65:Int)<=a)/\(a<=(90:Int))))) with f|f
 iterate 7 refine z ?_
 refine WL.up (s:=24) rfl (Bg f:true=decide (((((97:Int)<=a)/\(a<=(122:Int)))\/(((65:Int)<=a)/\(a<=(90:Int))))\/(((48:Int)<=a)/\(a<=(57:Int))))) (R hS ?_)
 refine WL.skip_g rfl rfl rfl (Bg f).symm rfl rfl (WL.skip_g rfl rfl rfl (Bg f).symm rfl rfl (Rn hS (Dp rfl (Bg f).symm rfl) ?_))
 refine WL.up (s:=28) rfl (Bg (Bg f).symm:true=decide ((((((97:Int)<=a)/\(a<=(122:Int)))\/(((65:Int)<=a)/\(a<=(90:Int))))\/(((48:Int)<=a)/\(a<=(57:Int))))\/(a=(95:Int)))) (R hS ?_)
 exact WL.nil At.os
 refine zz ?_
 rcases DG (decide ((48:Int)<=a)) with p|p
 iterate 3 refine z ?_
 refine WL.up (s:=23) rfl (De p:decide (a<=(57:Int))=decide (((48:Int)<=a)/\(a<=(57:Int)))) (z ?_)
 refine WL.up (s:=24) rfl (CQ f:decide (((48:Int)<=a)/\(a<=(57:Int)))=decide (((((97:Int)<=a)/\(a<=(122:Int)))\/(((65:Int)<=a)/\(a<=(90:Int))))\/(((48:Int)<=a)/\(a<=(57:Int))))) (R hS ?_)
 rcases DG (decide (((((97:Int)<=a)/\(a<=(122:Int)))\/(((65:Int)<=a)/\(a<=(90:Int))))\/(((48:Int)<=a)/\(a<=(57:Int))))) with q|q
 iterate 3 refine z ?_
 refine WL.up (s:=28) rfl (Bg q:true=decide ((((((97:Int)<=a)/\(a<=(122:Int)))\/(((65:Int)<=a)/\(a<=(90:Int))))\/(((48:Int)<=a)/\(a<=(57:Int))))\/(a=(95:Int)))) (R hS ?_)
 exact WL.nil At.os
 iterate 3 refine z ?_
 refine WL.up (s:=28) rfl (CQ q:decide (a=(95:Int))=decide ((((((97:Int)<=a)/\(a<=(122:Int)))\/(((65:Int)<=a)/\(a<=(90:Int))))\/(((48:Int)<=a)/\(a<=(57:Int))))\/(a=(95:Int)))) (R hS ?_)
 exact WL.nil At.os
 iterate 3 refine z ?_
 refine WL.up (s:=23) rfl (Bj p:false=decide (((48:Int)<=a)/\(a<=(57:Int)))) (z ?_)
 refine WL.up (s:=24) rfl (CQ f:decide (((48:Int)<=a)/\(a<=(57:Int)))=decide (((((97:Int)<=a)/\(a<=(122:Int)))\/(((65:Int)<=a)/\(a<=(90:Int))))\/(((48:Int)<=a)/\(a<=(57:Int))))) (R hS ?_)
 rcases DG (decide (((((97:Int)<=a)/\(a<=(122:Int)))\/(((65:Int)<=a)/\(a<=(90:Int))))\/(((48:Int)<=a)/\(a<=(57:Int))))) with r|r
 iterate 3 refine z ?_
 refine WL.up (s:=28) rfl (Bg r:true=decide ((((((97:Int)<=a)/\(a<=(122:Int)))\/(((65:Int)<=a)/\(a<=(90:Int))))\/(((48:Int)<=a)/\(a<=(57:Int))))\/(a=(95:Int)))) (R hS ?_)
 exact WL.nil At.os
 iterate 3 refine z ?_
 refine WL.up (s:=28) rfl (CQ r:decide (a=(95:Int))=decide ((((((97:Int)<=a)/\(a<=(122:Int)))\/(((65:Int)<=a)/\(a<=(90:Int))))\/(((48:Int)<=a)/\(a<=(57:Int))))\/(a=(95:Int)))) (R hS ?_)
 exact WL.nil At.os
 refine zz ?_
 exact v1
theorem AcX{c:Nat}{j:Aa}{d:Int}{f:Int}{g:Bool}{Q:Aa->Prop}(E:I64 d)(F:I64 f)(hS:St w0 H ([(c,oc #[sv j,i6 d,i6 f,.bool g] 62)]++L) w)(hV:Vb j d f g Q):
 Cl 104 #[(pq c)] w fun e w'=>∃(r1:Aa),Q r1/\e=.returned (sv r1)/\St w0 H ([(c,oc #[sv j,i6 d,i6 f,.bool g] 62)]++L) w':=by
 refine BW func104 ntmps104 ?_
 have c1:=@ZN;have d1:=call193
 obtain⟨m,t,x,hV⟩:=hV
 refine zz ?_
 refine WC.loop (σ:=Int) (fun s a w=>∃i,s=i/\m i/\I64 i/\St w0 H ([(c,oc #[sv j,i6 d,i6 f,.bool g] 62)]++L) w/\Fr 36 [(0,(pq c)),(3,i6 i)] a) t d ?_ ?_
 exact y
 rintro i a w⟨_,rfl,hI,D,hS,ha⟩
 refine Ab ha ?_
 replace hV:=hV _ hI
 obtain⟨n,o,hV⟩:=hV
 refine z ?_
 refine WC.meet (fun a w=>∃l,n l/\St w0 H ([(c,oc #[sv j,i6 d,i6 f,.bool g] 62)]++L) w/\Fr 36 [(0,(pq c)),(3,i6 i),(23,.bool l)] a) ?_ ?_
 rintro a w⟨l,hI,hS,ha⟩
 refine Ab ha ?_
 have hV:=o _ hI
 refine Cf hV ?_ ?_<;>intro A hV
 obtain⟨B,hV⟩:=hV
 refine zz ?_
 exact y
 iterate 6 refine z ?_
 refine WC.quiet (C:=St w0 H ([(c,oc #[sv j,i6 d,i6 f,.bool g] 62)]++L)) mixed (by kernel_rfl) (hS.drawn _) ?_
 iterate 9 refine Rq ?_
 obtain⟨r,hV⟩:=hV
 refine Rm (Ft underlying9 rfl rfl rfl r) ?_
 refine Rq ?_
 refine Wq.nil fun w hS=>?_
 refine zz ?_
 exact v1
 exact Z
theorem LG{g:Nat}{i:Aa}{f:Int}{c:Int}{n:Bool}{o:Val}{d:Value}{Q:Val->Bool->Prop}(A:I64 f)(B:I64 c)(x:IsW H d o)(hS:St w0 H ([(g,oc #[sv i,i6 f,i6 c,.bool n] 62)]++L) w)(hV:GP i f c n o Q):
 Cl 59 #[(pq g),.agg #[d]] w fun e w'=>∃(r1:Val)(r2:Bool)(u1:Value)(H':View),Q r1 r2/\e=.returned (.agg #[u1])/\View.le H H'/\IsW H' u1 r1/\St w0 H' ([(g,oc #[sv i,i6 f,i6 c,.bool r2] 62)]++L) w':=by
 refine Co func59 ntmps59 ?_
 refine zz ?_
 refine WL.box (arr:=#[d]) rfl rfl rfl hS ?_
 intro l w hS
 refine aV hS ?_
 intro m w hS
 obtain⟨r,t,hV⟩:=hV
 refine z ?_
 refine WC.meet (fun a w=>∃j,r j/\St w0 H ([(l,oc #[d] 25)]++([(m,oc #[.nilIface] 25)]++([(g,oc #[sv i,i6 f,i6 c,.bool j] 62)]++L))) w/\Fr 18 [(3,(pq l)),(4,(pq m))] a) ?_ ?_
 rintro a w⟨j,hI,hS,ha⟩
 refine Ab ha ?_
 have hV:=t _ hI
 refine zz ?_
 refine Rn hS (Ac (cs:=[d]) isAgg25 sizeOf25 rfl rfl rfl) ?_
 replace hS:=hS.f2
 refine sA hS ?_
 intro w hS
 replace hS:=hS.f2.drop
 refine zz ?_
 exact vc
 replace hS:=hS.f3
 exact Z
theorem UD{s_1:Aa}{Q:Bool->Prop}(hS:St w0 H L w)(hV:FC s_1 Q):
 Cl 107 #[sv s_1] w (pB w0 H L Q):=by
 refine BW func107 ntmps107 ?_
 obtain⟨d,f,hV⟩:=hV
 iterate 8 refine z ?_
 refine WC.meet (fun a w=>∃c,d c/\St w0 H (L) w/\Fr 57 [(4,.bool c)] a) ?_ ?_
 rintro a w⟨c,hI,hS,ha⟩
 refine Ab ha ?_
 have hV:=f _ hI
 exact Z
 exact Z
theorem Aaj{c:Nat}{l:Aa}{f:Int}{g:Int}{j:Bool}{d:Aa}{m:Bool}{E:Int->Int->Prop}{Q:Val->Int->Prop}(t:I64 f)(x:I64 g)(hN:GlobN w0 H)(hS:St w0 H ([(c,oc #[sv l,i6 f,i6 g,.bool j] 62)]++L) w)(hV:Ku l f g j d m E Q):
 Cl 105 #[(pq c),sv d,.bool m] w fun e w'=>(∃(r1:Val)(r2:Int)(u1:Value)(H':View),Q r1 r2/\e=.returned (.agg #[u1])/\View.le H H'/\IsW H' u1 r1/\I64 r2/\St w0 H' ([(c,oc #[sv l,i6 r2,i6 g,.bool j] 62)]++L) w')\/(∃e1 a1,E e1 a1/\e=.panicked (Dy e1 a1)/\∃H1,View.le H H1/\St w0 H1 L w'):=by
 refine Li func105 ntmps105 ?_
 refine z ?_
 refine aV hS ?_
 intro i w hS
 obtain⟨c6,hV⟩:=hV
 iterate 8 refine z ?_
 replace hS:=hS.f2
 obtain⟨G,b4,c1,hV⟩:=hV
 refine WC.loop (σ:=Int) (fun s a w=>∃n,s=n/\G n/\I64 n/\St w0 H ([(c,oc #[sv l,i6 f,i6 g,.bool j] 62)]++([(i,oc #[.nilIface] 25)]++L)) w/\Fr 85 [(0,(pq c)),(1,sv d),(2,.bool m),(6,(pq i)),(11,i6 (d.length:Int)),(12,i6 n)] a) b4 (0:Int) ?_ ?_
 exact y
 rintro n a w⟨_,rfl,hI,c9,hS,ha⟩
 refine Ab ha ?_
 replace hV:=hV _ hI
 iterate 4 refine z ?_
 refine Ce hV ?_ ?_<;>intro c5 hV
 obtain⟨N,a0,hV⟩:=hV
 iterate 2 refine z ?_
 refine WC.meet (fun a w=>N ()/\St w0 H ([(c,oc #[sv l,i6 f,i6 g,.bool j] 62)]++([(i,oc #[.nilIface] 25)]++L)) w/\Fr 85 [(0,(pq c)),(1,sv d),(2,.bool m),(6,(pq i)),(11,i6 (d.length:Int)),(12,i6 n)] a) ?_ ?_
 rintro a w⟨hI,hS,ha⟩
 refine Ab ha ?_
 have hV:=a0 _ hI
 refine z ?_
 refine Rn hS (CI rfl rfl) ?_
 iterate 2 refine z ?_
 replace hS:=hS.f2.f2
 exact y
 obtain⟨O,a2,hV⟩:=hV
 iterate 5 refine z ?_
 refine WC.meet (fun a w=>∃o,O o/\St w0 H ([(c,oc #[sv l,i6 f,i6 g,.bool j] 62)]++([(i,oc #[.nilIface] 25)]++L)) w/\Fr 85 [(0,(pq c)),(1,sv d),(2,.bool m),(6,(pq i)),(11,i6 (d.length:Int)),(12,i6 n),(36,.bool o)] a) ?_ ?_
 rintro a w⟨o,hI,hS,ha⟩
 refine Ab ha ?_
 have hV:=a2 _ hI
 refine Cf hV ?_ ?_<;>intro c2 hV
 iterate 2 refine z ?_
 refine WL.callP rfl rfl rfl (Bf (vs:=[(pq c),i6 (1:Int)]) call25 ⟨rfl,rfl,trivial⟩) (Gr t x (show I64 (1:Int) by unfold I64;omega) hS hV) (by rintro _ w⟨U,b7,W,rfl,b9,b0,hS⟩;exact⟨_,rfl,WQ.of fun a ha=>And.intro ha.defers (.inr ⟨U,b7,W,rfl,_,((View.le.refl _).trans b0),hS.drop⟩)⟩) ?_
 rintro _ w⟨hV,rfl,hS⟩
 refine⟨_,rfl,?_⟩
 iterate 2 refine z ?_
 replace hS:=hS.f2.f2
 exact y
 iterate 2 refine z ?_
 replace hS:=hS.f2.f2
 exact y
 exact Z
 iterate 7 refine z ?_
 refine Rd call194 (TN (show I64 (10:Int) by unfold I64;omega) (show I64 (64:Int) by unfold I64;omega) hN hS hV) ?_
 rintro _ w⟨A,d0,d1,hV,rfl,c8,a5,hS⟩
 obtain⟨S,a3,hV⟩:=hV
 iterate 6 refine z ?_
 refine WC.meet (fun a w=>S ()/\St w0 H ([(c,oc #[sv l,i6 f,i6 g,.bool j] 62)]++([(i,oc #[.nilIface] 25)]++L)) w/\Fr 85 [(0,(pq c)),(1,sv d),(2,.bool m),(6,(pq i)),(8,.int .u64 A)] a) ?_ ?_
 rintro a w⟨hI,hS,ha⟩
 refine Ab ha ?_
 have hV:=a3 _ hI
 obtain⟨c7,hV⟩:=hV
 iterate 7 refine z ?_
 refine Rn hS (CI rfl rfl) ?_
 iterate 2 refine z ?_
 refine Ee #[sv l,i6 (IntKind.i64.wrap (f+(d.length:Int))),i6 g,.bool j] sizeOf3 hS ?_
 intro w hS
 iterate 5 refine z ?_
 refine Cf hV ?_ ?_<;>intro c4 hV
 iterate 5 refine z ?_
 refine Rn hS (CI rfl rfl) ?_
 iterate 2 refine z ?_
 refine Ee #[sv l,i6 (IntKind.i64.wrap ((IntKind.i64.wrap (f+(d.length:Int)))+(1:Int))),i6 g,.bool j] sizeOf3 hS ?_
 intro w hS
 iterate 4 refine z ?_
 refine Rn hS (Kj rfl (Ck _)) ?_
 refine Rd call100 (Cz (GA _ (Ck _)) hS hV) ?_
 rintro _ w⟨b5,B,D,hV,rfl,b2,a6,hS⟩
 replace hS:=hS.f2
 refine sA hS ?_
 intro w hS
 iterate 3 refine z ?_
 have a8:=An (P:=Tryz.prog) (cs:=[B]) isAgg25 sizeOf25 hS rfl
 replace hS:=hS.drop
 exact AZ (il) rfl rfl a8 (.inl ⟨b5,(IntKind.i64.wrap ((IntKind.i64.wrap (f+(d.length:Int)))+(1:Int))),B,D,hV,rfl,((View.le.refl _).trans b2),a6,(Ck _),hS⟩)
 iterate 5 refine z ?_
 refine Rd call100 (Cz (Ck _) hS hV) ?_
 rintro _ w⟨b6,C,F,hV,rfl,b3,a7,hS⟩
 replace hS:=hS.f2
 refine sA hS ?_
 intro w hS
 iterate 2 refine z ?_
 have a9:=An (P:=Tryz.prog) (cs:=[C]) isAgg25 sizeOf25 hS rfl
 replace hS:=hS.drop
 exact AZ (il) rfl rfl a9 (.inl ⟨b6,(IntKind.i64.wrap (f+(d.length:Int))),C,F,hV,rfl,((View.le.refl _).trans b3),a7,(Ck _),hS⟩)
 obtain⟨T,a4,hV⟩:=hV
 refine WC.meet (fun a w=>∃r,T r/\St w0 H ([(c,oc #[sv l,i6 f,i6 g,.bool j] 62)]++([(i,oc #[.nilIface] 25)]++L)) w/\Fr 85 [(0,(pq c)),(1,sv d),(2,.bool m),(6,(pq i)),(8,.int .u64 A),(58,.bool r)] a) ?_ ?_
 rintro a w⟨r,hI,hS,ha⟩
 refine Ab ha ?_
 have hV:=a4 _ hI
 refine Cf hV ?_ ?_<;>intro c3 hV
 iterate 2 refine z ?_
 refine WL.callP rfl rfl rfl (Bf (vs:=[(pq c),i6 (5:Int)]) call25 ⟨rfl,rfl,trivial⟩) (Gr t x (show I64 (5:Int) by unfold I64;omega) hS hV) (by rintro _ w⟨V,b8,Y,rfl,c0,b1,hS⟩;exact⟨_,rfl,WQ.of fun a ha=>And.intro ha.defers (.inr ⟨V,b8,Y,rfl,_,((View.le.refl _).trans b1),hS.drop⟩)⟩) ?_
 rintro _ w⟨hV,rfl,hS⟩
 refine⟨_,rfl,?_⟩
 refine z ?_
 replace hS:=hS.f2.f2
 exact y
 refine z ?_
 replace hS:=hS.f2.f2
 exact y
 iterate 2 refine z ?_
 refine Rn hS (SU iface27 rfl a5) ?_
 exact Z
theorem YV{c:Nat}{f:Aa}{m:Int}{g:Int}{i:Bool}{E:Int->Int->Prop}{Q:Val->Int->Prop}(e7:I64 m)(o:I64 g)(hN:GlobN w0 H)(hS:St w0 H ([(c,oc #[sv f,i6 m,i6 g,.bool i] 62)]++L) w)(hV:KI f m g i E Q):
 Cl 66 #[(pq c)] w fun e w'=>(∃(r1:Val)(r2:Int)(u1:Value)(H':View),Q r1 r2/\e=.returned (.agg #[u1])/\View.le H H'/\IsW H' u1 r1/\I64 r2/\St w0 H' ([(c,oc #[sv f,i6 r2,i6 g,.bool i] 62)]++L) w')\/(∃e1 a1,E e1 a1/\e=.panicked (Dy e1 a1)/\∃H1,View.le H H1/\St w0 H1 L w'):=by
 refine BW func66 ntmps66 ?_
 refine z ?_
 refine aV hS ?_
 intro d w hS
 iterate 2 refine z ?_
 refine WC.quiet (C:=St w0 H ([(d,oc #[.nilIface] 25)]++([(c,oc #[sv f,i6 m,i6 g,.bool i] 62)]++L))) mixed (by kernel_rfl) (hS.drawn _) ?_
 iterate 3 refine Rq ?_
 refine Rm ((Aj isAgg9 rfl rfl).of (fun _ h=>St.f2 h)) ?_
 iterate 3 refine Rq ?_
 refine Rm ((Aj isAgg3 rfl rfl).of (fun _ h=>St.f2 h)) ?_
 obtain⟨d3,hV⟩:=hV
 refine Rm (My underlying9 rfl rfl d3) ?_
 refine Rq ?_
 refine Wq.nil fun w hS=>?_
 obtain⟨a0,c0,hV⟩:=hV
 refine z ?_
 refine WC.meet (fun a w=>a0 ()/\St w0 H ([(c,oc #[sv f,i6 m,i6 g,.bool i] 62)]++([(d,oc #[.nilIface] 25)]++L)) w/\Fr 185 [(0,(pq c)),(2,(pq d)),(3,sv (f.drop m.toNat))] a) ?_ ?_
 rintro a w⟨hI,hS,ha⟩
 refine Ab ha ?_
 have hV:=c0 _ hI
 iterate 2 refine z ?_
 refine Rd call57 (GW hS hV) ?_
 rintro _ w⟨x,hV,rfl,hS⟩
 obtain⟨a3,c2,hV⟩:=hV
 iterate 2 refine z ?_
 refine WC.meet (fun a w=>∃r,a3 r/\I64 r/\St w0 H ([(c,oc #[sv f,i6 r,i6 g,.bool i] 62)]++([(d,oc #[.nilIface] 25)]++L)) w/\Fr 185 [(0,(pq c)),(2,(pq d)),(6,.bool x)] a) ?_ ?_
 rintro a w⟨r,hI,e5,hS,ha⟩
 refine Ab ha ?_
 have hV:=c2 _ hI
 iterate 2 refine z ?_
 refine Rd call104 (AcX e5 o hS hV) ?_
 rintro _ w⟨l,hV,rfl,hS⟩
 obtain⟨a4,c3,hV⟩:=hV
 iterate 2 refine z ?_
 refine WC.meet (fun a w=>∃j,a4 j/\I64 j/\St w0 H ([(c,oc #[sv f,i6 j,i6 g,.bool i] 62)]++([(d,oc #[.nilIface] 25)]++L)) w/\Fr 185 [(0,(pq c)),(2,(pq d)),(6,.bool x),(7,sv l)] a) ?_ ?_
 rintro a w⟨j,hI,t,hS,ha⟩
 refine Ab ha ?_
 have hV:=c3 _ hI
 obtain⟨a5,c4,hV⟩:=hV
 refine z ?_
 refine WC.meet (fun a w=>∃B,a5 B/\St w0 H ([(c,oc #[sv f,i6 j,i6 g,.bool i] 62)]++([(d,oc #[.nilIface] 25)]++L)) w/\Fr 185 [(0,(pq c)),(2,(pq d)),(6,.bool x),(7,sv l),(118,.bool B)] a) ?_ ?_
 rintro a w⟨B,hI,hS,ha⟩
 refine Ab ha ?_
 have hV:=c4 _ hI
 refine Cf hV ?_ ?_<;>intro i3 hV
 iterate 4 refine z ?_
 refine WL.callP rfl rfl rfl (Bf (vs:=[(pq c),sv l,.bool x]) call105 ⟨rfl,rfl,rfl,trivial⟩) (Aaj t o hN hS hV) (by rintro _ w⟨b1,g5,b6,rfl,h0,f1,hS⟩;exact⟨_,rfl,WQ.of fun a ha=>And.intro ha.defers (.inr ⟨b1,g5,b6,rfl,_,((View.le.refl _).trans f1),hS.drop⟩)⟩) ?_
 rintro _ w⟨g0,g1,N,U,hV,rfl,f0,d0,e6,hS⟩
 refine⟨_,rfl,?_⟩
 replace hS:=hS.f2
 refine sA hS ?_
 intro w hS
 iterate 3 refine z ?_
 have e0:=An (P:=Tryz.prog) (cs:=[N]) isAgg25 sizeOf25 hS rfl
 replace hS:=hS.drop
 exact AZ (il) rfl rfl e0 (.inl ⟨g0,g1,N,U,hV,rfl,((View.le.refl _).trans f0),d0,e6,hS⟩)
 obtain⟨a6,c5,hV⟩:=hV
 iterate 2 refine z ?_
 refine WC.meet (fun a w=>a6 ()/\St w0 H ([(c,oc #[sv f,i6 j,i6 g,.bool i] 62)]++([(d,oc #[.nilIface] 25)]++L)) w/\Fr 185 [(0,(pq c)),(2,(pq d)),(7,sv l)] a) ?_ ?_
 rintro a w⟨hI,hS,ha⟩
 refine Ab ha ?_
 have hV:=c5 _ hI
 iterate 9 refine z ?_
 refine Ce hV ?_ ?_<;>intro i2 hV
 obtain⟨i9,hV⟩:=hV
 obtain⟨d6,hV⟩:=hV
 iterate 10 refine z ?_
 refine Ee #[sv f,i6 (j+(l.length:Int)),i6 g,.bool i] sizeOf3 hS ?_
 intro w hS
 iterate 2 refine z ?_
 refine Rn hS bV ?_
 replace hS:=hS.f2
 refine sA hS ?_
 intro w hS
 iterate 4 refine z ?_
 have e2:=An (P:=Tryz.prog) (cs:=[.nilIface]) isAgg25 sizeOf25 hS rfl
 replace hS:=hS.drop
 exact AZ (il) rfl rfl e2 (.inl ⟨Val.nil,(j+(l.length:Int)),.nilIface,H,hV,rfl,(View.le.refl _),IsW.nil,d6,hS⟩)
 obtain⟨a8,c7,hV⟩:=hV
 refine WC.meet (fun a w=>∃F,a8 F/\St w0 H ([(c,oc #[sv f,i6 j,i6 g,.bool i] 62)]++([(d,oc #[.nilIface] 25)]++L)) w/\Fr 185 [(0,(pq c)),(2,(pq d)),(7,sv l),(148,.bool F)] a) ?_ ?_
 rintro a w⟨F,hI,hS,ha⟩
 refine Ab ha ?_
 have hV:=c7 _ hI
 refine Cf hV ?_ ?_<;>intro i1 hV
 obtain⟨j0,hV⟩:=hV
 obtain⟨d7,hV⟩:=hV
 iterate 10 refine z ?_
 refine Ee #[sv f,i6 (j+(l.length:Int)),i6 g,.bool i] sizeOf3 hS ?_
 intro w hS
 iterate 4 refine z ?_
 refine Rd call106 (Dn hS hV) ?_
 rintro _ w⟨g2,O,V,hV,rfl,f4,d1,hS⟩
 replace hS:=hS.f2
 refine sA hS ?_
 intro w hS
 iterate 4 refine z ?_
 have e3:=An (P:=Tryz.prog) (cs:=[O]) isAgg25 sizeOf25 hS rfl
 replace hS:=hS.drop
 exact AZ (il) rfl rfl e3 (.inl ⟨g2,(j+(l.length:Int)),O,V,hV,rfl,((View.le.refl _).trans f4),d1,d7,hS⟩)
 obtain⟨a9,c8,hV⟩:=hV
 iterate 3 refine z ?_
 refine WC.meet (fun a w=>a9 ()/\St w0 H ([(c,oc #[sv f,i6 j,i6 g,.bool i] 62)]++([(d,oc #[.nilIface] 25)]++L)) w/\Fr 185 [(0,(pq c)),(2,(pq d)),(7,sv l)] a) ?_ ?_
 rintro a w⟨hI,hS,ha⟩
 refine Ab ha ?_
 have hV:=c8 _ hI
 obtain⟨j2,hV⟩:=hV
 obtain⟨d8,hV⟩:=hV
 iterate 10 refine z ?_
 refine Ee #[sv f,i6 (j+(l.length:Int)),i6 g,.bool i] sizeOf3 hS ?_
 intro w hS
 iterate 3 refine z ?_
 refine Rd call108 (Adg hS hV) ?_
 rintro _ w⟨g3,S,W,hV,rfl,f7,d2,hS⟩
 replace hS:=hS.f2
 refine sA hS ?_
 intro w hS
 iterate 2 refine z ?_
 have e4:=An (P:=Tryz.prog) (cs:=[S]) isAgg25 sizeOf25 hS rfl
 replace hS:=hS.drop
 exact AZ (il) rfl rfl e4 (.inl ⟨g3,(j+(l.length:Int)),S,W,hV,rfl,((View.le.refl _).trans f7),d2,d8,hS⟩)
 iterate 3 refine z ?_
 refine Rd call107 (UD hS hV) ?_
 rintro _ w⟨j5,hV,rfl,hS⟩
 iterate 2 refine z ?_
 refine Cf hV ?_ ?_<;>intro i0 hV
 iterate 2 refine z ?_
 refine WL.callP rfl rfl rfl (Bf (vs:=[(pq c),i6 (1:Int)]) call25 ⟨rfl,rfl,trivial⟩) (Gr t o (show I64 (1:Int) by unfold I64;omega) hS hV) (by rintro _ w⟨b3,g7,b8,rfl,h2,f5,hS⟩;exact⟨_,rfl,WQ.of fun a ha=>And.intro ha.defers (.inr ⟨b3,g7,b8,rfl,_,((View.le.refl _).trans f5),hS.drop⟩)⟩) ?_
 rintro _ w⟨hV,rfl,hS⟩
 refine⟨_,rfl,?_⟩
 iterate 2 refine z ?_
 replace hS:=hS.f2.f2
 exact y
 obtain⟨j1,hV⟩:=hV
 iterate 6 refine z ?_
 refine Ce hV ?_ ?_<;>intro h9 hV
 iterate 2 refine z ?_
 refine WL.callP rfl rfl rfl (Bf (vs:=[(pq c),i6 (5:Int)]) call25 ⟨rfl,rfl,trivial⟩) (Gr t o (show I64 (5:Int) by unfold I64;omega) hS hV) (by rintro _ w⟨b4,g8,b9,rfl,h3,f6,hS⟩;exact⟨_,rfl,WQ.of fun a ha=>And.intro ha.defers (.inr ⟨b4,g8,b9,rfl,_,((View.le.refl _).trans f6),hS.drop⟩)⟩) ?_
 rintro _ w⟨hV,rfl,hS⟩
 refine⟨_,rfl,?_⟩
 iterate 2 refine z ?_
 replace hS:=hS.f2.f2
 exact y
 iterate 2 refine z ?_
 replace hS:=hS.f2.f2
 exact y
 exact Z
 obtain⟨a7,c6,hV⟩:=hV
 refine WC.meet (fun a w=>∃D,a7 D/\St w0 H ([(c,oc #[sv f,i6 j,i6 g,.bool i] 62)]++([(d,oc #[.nilIface] 25)]++L)) w/\Fr 185 [(0,(pq c)),(2,(pq d)),(7,sv l),(132,.bool D)] a) ?_ ?_
 rintro a w⟨D,hI,hS,ha⟩
 refine Ab ha ?_
 have hV:=c6 _ hI
 refine Cf hV ?_ ?_<;>intro h8 hV
 iterate 2 refine z ?_
 refine WL.callP rfl rfl rfl (Bf (vs:=[(pq c),i6 (1:Int)]) call25 ⟨rfl,rfl,trivial⟩) (Gr t o (show I64 (1:Int) by unfold I64;omega) hS hV) (by rintro _ w⟨b2,g6,b7,rfl,h1,f3,hS⟩;exact⟨_,rfl,WQ.of fun a ha=>And.intro ha.defers (.inr ⟨b2,g6,b7,rfl,_,((View.le.refl _).trans f3),hS.drop⟩)⟩) ?_
 rintro _ w⟨hV,rfl,hS⟩
 refine⟨_,rfl,?_⟩
 refine z ?_
 replace hS:=hS.f2.f2
 exact y
 refine z ?_
 replace hS:=hS.f2.f2
 exact y
 exact Z
 exact Z
 exact Z
 exact Z
 iterate 2 refine z ?_
 refine Rd call57 (GW hS hV) ?_
 rintro _ w⟨j4,hV,rfl,hS⟩
 refine z ?_
 refine Cf hV ?_ ?_<;>intro h7 hV
 iterate 5 refine z ?_
 replace hS:=hS.f2
 obtain⟨i4,hV⟩:=hV
 iterate 5 refine z ?_
 replace hS:=hS.f2.f2
 obtain⟨Y,f8,h4,hV⟩:=hV
 refine WC.loop (σ:=Int) (fun s a w=>∃n,s=n/\Y n/\I64 n/\St w0 H ([(c,oc #[sv f,i6 m,i6 g,.bool i] 62)]++([(d,oc #[.nilIface] 25)]++L)) w/\Fr 185 [(0,(pq c)),(2,(pq d)),(3,sv (f.drop m.toNat)),(4,i6 n)] a) f8 (m+(1:Int)) ?_ ?_
 exact y
 rintro n a w⟨_,rfl,hI,j3,hS,ha⟩
 refine Ab ha ?_
 replace hV:=hV _ hI
 obtain⟨a2,c1,hV⟩:=hV
 refine z ?_
 refine WC.meet (fun a w=>∃A,a2 A/\St w0 H ([(c,oc #[sv f,i6 m,i6 g,.bool i] 62)]++([(d,oc #[.nilIface] 25)]++L)) w/\Fr 185 [(0,(pq c)),(2,(pq d)),(3,sv (f.drop m.toNat)),(4,i6 n),(57,.bool A)] a) ?_ ?_
 rintro a w⟨A,hI,hS,ha⟩
 refine Ab ha ?_
 have hV:=c1 _ hI
 refine Cf hV ?_ ?_<;>intro h6 hV
 obtain⟨i8,hV⟩:=hV
 iterate 13 refine z ?_
 refine Ce hV ?_ ?_<;>intro h5 hV
 refine z ?_
 refine WC.quiet (C:=St w0 H ([(c,oc #[sv f,i6 m,i6 g,.bool i] 62)]++([(d,oc #[.nilIface] 25)]++L))) mixed (by kernel_rfl) (hS.drawn _) ?_
 iterate 8 refine Rq ?_
 obtain⟨i5,hV⟩:=hV
 iterate 2 refine Rq ?_
 obtain⟨d4,hV⟩:=hV
 refine Rm (Ft underlying9 rfl rfl rfl d4) ?_
 refine Rq ?_
 refine Wq.nil fun w hS=>?_
 obtain⟨d5,hV⟩:=hV
 iterate 7 refine z ?_
 refine Ee #[sv f,i6 (n+(1:Int)),i6 g,.bool i] sizeOf3 hS ?_
 intro w hS
 iterate 3 refine z ?_
 refine Rd call103 (AcJ hS hV) ?_
 rintro _ w⟨f9,G,T,hV,rfl,e8,c9,hS⟩
 replace hS:=hS.f2
 refine sA hS ?_
 intro w hS
 iterate 8 refine z ?_
 have d9:=An (P:=Tryz.prog) (cs:=[G]) isAgg25 sizeOf25 hS rfl
 replace hS:=hS.drop
 exact AZ (il) rfl rfl d9 (.inl ⟨f9,(n+(1:Int)),G,T,hV,rfl,((View.le.refl _).trans e8),c9,d5,hS⟩)
 obtain⟨i7,hV⟩:=hV
 iterate 8 refine z ?_
 replace hS:=hS.f2.f2
 exact y
 iterate 7 refine z ?_
 refine WL.callP rfl rfl rfl (Bf (vs:=[(pq c),i6 (1:Int)]) call25 ⟨rfl,rfl,trivial⟩) (Gr e7 o (show I64 (1:Int) by unfold I64;omega) hS hV) (by rintro _ w⟨b0,g4,b5,rfl,g9,e9,hS⟩;exact⟨_,rfl,WQ.of fun a ha=>And.intro ha.defers (.inr ⟨b0,g4,b5,rfl,_,((View.le.refl _).trans e9),hS.drop⟩)⟩) ?_
 rintro _ w⟨hV,rfl,hS⟩
 refine⟨_,rfl,?_⟩
 refine z ?_
 replace hS:=hS.f2.f2
 exact y
 exact Z
 refine z ?_
 replace hS:=hS.f2
 exact y
def MG(G:Aa->Int->Int->Bool->(Int->Int->Prop)->(Val->Int->Int->Bool->Prop)->Prop):Prop:=∀{w0:World}{H:View}{L:Ar}{w:World}{a:Nat}{c:Aa}{d:Int}{b:Int}{f:Bool}{E:Int->Int->Prop}{Q:Val->Int->Int->Bool->Prop}(g:I64 d)(h:I64 b)(hN:GlobN w0 H)(hS:St w0 H ([(a,oc #[sv c,i6 d,i6 b,.bool f] 62)]++L) w)(hV:G c d b f E Q),Calls Tryz.prog 23 #[(pq a)] w fun e w'=>(∃(r1:Val)(r2:Int)(r3:Int)(r4:Bool)(u1:Value)(H':View),Q r1 r2 r3 r4/\e=.returned (.agg #[u1])/\View.le H H'/\IsW H' u1 r1/\I64 r2/\I64 r3/\St w0 H' ([(a,oc #[sv c,i6 r2,i6 r3,.bool r4] 62)]++L) w')\/(∃e1 a1,E e1 a1/\e=.panicked (Dy e1 a1)/\∃H1,View.le H H1/\St w0 H1 L w')
theorem Ox{G:Aa->Int->Int->Bool->(Int->Int->Prop)->(Val->Int->Int->Bool->Prop)->Prop}(hG:MG G){g:Nat}{s:Value}{d:List Val}{n:Ar}{f:Nat}{b:Nat}{k:Aa}{m:Int}{i:Int}{o:Bool}{E:Int->Int->Prop}{Q:(List Val)->Int->Int->Bool->Prop}(D:OwnSl H cV 25 s d n)(F:I64 m)(I:I64 i)(hN:GlobN w0 H)(hS:St w0 H ([(g,oc #[s] 42)]++(n++([(f,oc #[(pq b)] 60)]++([(b,oc #[sv k,i6 m,i6 i,.bool o] 62)]++L)))) w)(hV:Ky G d k m i o E Q):
 Cl 56 #[(pq g),(pq f)] w fun e w'=>(∃(r1:List Val)(r2:Int)(r3:Int)(r4:Bool)(v1:Value)(fp1:Ar)(H':View),Q r1 r2 r3 r4/\e=.returned (.tuple #[])/\View.le H H'/\OwnSl H' cV 25 v1 r1 fp1/\I64 r2/\I64 r3/\St w0 H' ([(g,oc #[v1] 42)]++(fp1++([(f,oc #[(pq b)] 60)]++([(b,oc #[sv k,i6 r2,i6 r3,.bool r4] 62)]++L)))) w')\/(∃e1 a1,E e1 a1/\e=.panicked (Dy e1 a1)/\∃H1,View.le H H1/\St w0 H1 L w'):=by
 refine Co func56 ntmps56 ?_
 refine DP.WC.drawn (σ:=[0,1,2,3,4,5]) (Pn:=fun c w=>∃e1 a1,E e1 a1/\Ending.panicked c=.panicked (Dy e1 a1)/\∃H1,View.le H H1/\St w0 H1 L w) [[],[],[1],[1,2],[0,1,2,3],[0,1,2,3,4]] [2,3,4,5] (fun c a w hd hp=>And.intro hd (.inr hp)) mixed (by kernel_rfl) (hS.drawn _) ?_
 refine DP.Wd.runb (off:=0) rfl rfl rfl rfl (fun _ _ _ h=>Aj isAgg42 rfl h) rfl (fun _ h=>h) fun Z p=>?_
 refine DP.Wd.runb (off:=0) rfl rfl rfl rfl (fun _ _ _ h=>Aj isAgg60 rfl h) rfl (fun _ h=>St.f3 h) fun a0 Y=>?_
 refine DP.Wd.turn rfl rfl rfl fun w hS=>?_
 replace hS:=hS.f4
 refine WL.callP rfl rfl rfl (Bf (vs:=[(pq b)]) call23 ⟨rfl,trivial⟩) (hG F I hN hS hV) (by rintro _ w⟨u,U,x,rfl,V,N,hS⟩;exact⟨_,rfl,DP.DQ.pan ⟨u,U,x,rfl,_,((View.le.refl _).trans N),hS.drop.drop.drop⟩⟩) ?_
 rintro _ w⟨j,O,P,S,l,t,hV,rfl,r,A,J,K,hS⟩
 refine⟨_,rfl,?_⟩
 refine WL.nil (DP.DQ.mk2 hS ⟨il,.inr (p _ _ _ _ rfl (fun _ h=>St.f2 h)),trivial⟩ ?_)
 refine DP.Wd.turn rfl rfl rfl fun w hS=>?_
 refine WL.builds (c:=cV) (xs:=[j]) (vs:=[.agg #[l]]) (css:=[[l]]) rfl underlying42 info25 rfl ⟨rfl,trivial⟩ rfl (by decide) rfl (by simp;rfl) ⟨[l],_,rfl,(BZ A),rfl⟩ hS rfl (by decide) ?_
 intro a2 w W B hS
 refine WL.nil (DP.DQ.mk2 hS ⟨il,.inr (p _ _ _ _ rfl (fun _ h=>St.f3 h)),trivial⟩ ?_)
 refine DP.Wd.turn rfl rfl rfl fun w hS=>?_
 obtain⟨q,hV⟩:=hV
 replace hS:=hS.f4
 refine WL.append (c:=cV) (xs:=d) (ys:=([j])) rfl underlying42 info25 rfl rfl rfl hS (D.mono r) (B.src hS.f2) q.1 q.2 ?_
 intro T w v C hS
 refine WL.nil (DP.DQ.mk2 hS ⟨il,il,trivial⟩ ?_)
 refine DP.Wd.turn rfl rfl rfl fun w hS=>?_
 replace hS:=hS.f4
 refine sA hS ?_
 intro w hS
 refine WL.nil (DP.DQ.mk2 hS ⟨il,il,trivial⟩ ?_)
 refine DP.Wd.nil fun w hS=>?_
 replace hS:=hS.f3.drop
 replace hS:=hS.f3.f4.f4.f4
 exact HX (.inr rfl) rfl (.inl ⟨(d++([j])),O,P,S,T,v,t,hV,rfl,((View.le.refl _).trans r),C,J,K,hS⟩)
theorem SA{G:Aa->Int->Int->Bool->(Int->Int->Prop)->(Val->Int->Int->Bool->Prop)->Prop}(hG:MG G){j:Nat}{C:Value}{i:List Val}{s:Ar}{b:Nat}{d:Nat}{n:Aa}{p:Int}{l:Int}{t:Bool}{k:Nat}{g:Nat}{B:Value}{q:List Val}{r:Ar}{E:Int->Int->Prop}{Q:(List Val)->Int->Int->Bool->(List Val)->Prop}(Y:OwnSl H cV 25 C i s)(a2:I64 p)(a3:I64 l)(U:OwnSl H cV 25 B q r)(hN:GlobN w0 H)(hS:St w0 H ([(j,oc #[C] 42)]++(s++([(b,oc #[(pq d)] 60)]++([(d,oc #[sv n,i6 p,i6 l,.bool t] 62)]++([(k,Obj.cells #[.func (.func 56) #[] #[(pq g),(pq b)]] 1 (0,0))]++([(g,oc #[B] 42)]++(r++L))))))) w)(hV:KL G i n p l t q E Q):
 Cl 63 #[(pq j),(pq b),(pq k)] w fun e w'=>(∃(r1:List Val)(r2:Int)(r3:Int)(r4:Bool)(r5:List Val)(v1:Value)(fp1:Ar)(v5:Value)(fp5:Ar)(H':View),Q r1 r2 r3 r4 r5/\e=.returned (.tuple #[])/\View.le H H'/\OwnSl H' cV 25 v1 r1 fp1/\I64 r2/\I64 r3/\OwnSl H' cV 25 v5 r5 fp5/\St w0 H' ([(j,oc #[v1] 42)]++(fp1++([(b,oc #[(pq d)] 60)]++([(d,oc #[sv n,i6 r2,i6 r3,.bool r4] 62)]++([(k,Obj.cells #[.func (.func 56) #[] #[(pq g),(pq b)]] 1 (0,0))]++([(g,oc #[v5] 42)]++(fp5++L))))))) w')\/(∃e1 a1,E e1 a1/\e=.panicked (Dy e1 a1)/\∃H1,View.le H H1/\St w0 H1 L w'):=by
 refine Li func63 ntmps63 ?_
 refine zz ?_
 refine DP.WC.drawn (σ:=[0,1,2,3,4,5]) (Pn:=fun c w=>∃e1 a1,E e1 a1/\Ending.panicked c=.panicked (Dy e1 a1)/\∃H1,View.le H H1/\St w0 H1 L w) [[],[],[1],[1,2],[0,1,2,3],[0,1,2,3,4]] [2,3,4,5] (fun c a w hd hp=>And.intro hd (.inr hp)) mixed (by kernel_rfl) (hS.drawn _) ?_
 refine DP.Wd.runb (off:=0) rfl rfl rfl rfl (fun _ _ _ h=>Aj isAgg42 rfl h) rfl (fun _ h=>h) fun c5 u=>?_
 refine DP.Wd.runb (off:=0) rfl rfl rfl rfl (fun _ _ _ h=>Aj isAgg60 rfl h) rfl (fun _ h=>St.f3 h) fun c6 c4=>?_
 refine DP.Wd.turn rfl rfl rfl fun w hS=>?_
 replace hS:=hS.f4
 refine WL.callP rfl rfl rfl (Bf (vs:=[(pq d)]) call23 ⟨rfl,trivial⟩) (hG a2 a3 hN hS hV) (by rintro _ w⟨I,b6,P,rfl,c0,a8,hS⟩;exact⟨_,rfl,DP.DQ.pan ⟨I,b6,P,rfl,_,((View.le.refl _).trans a8),hS.drop.drop.drop.drop.drop.drop⟩⟩) ?_
 rintro _ w⟨m,c7,c8,c9,o,b9,hV,rfl,f,V,a4,v,hS⟩
 refine⟨_,rfl,?_⟩
 refine WL.nil (DP.DQ.mk2 hS ⟨il,.inr (u _ _ _ _ rfl (fun _ h=>St.f2 h)),trivial⟩ ?_)
 refine DP.Wd.turn rfl rfl rfl fun w hS=>?_
 refine WL.builds (c:=cV) (xs:=[m]) (vs:=[.agg #[o]]) (css:=[[o]]) rfl underlying42 info25 rfl ⟨rfl,trivial⟩ rfl (by decide) rfl (by simp;rfl) ⟨[o],_,rfl,(BZ V),rfl⟩ hS rfl (by decide) ?_
 intro d1 w c3 W hS
 refine WL.nil (DP.DQ.mk2 hS ⟨il,.inr (u _ _ _ _ rfl (fun _ h=>St.f3 h)),trivial⟩ ?_)
 refine DP.Wd.turn rfl rfl rfl fun w hS=>?_
 obtain⟨x,hV⟩:=hV
 replace hS:=hS.f4
 refine WL.append (c:=cV) (xs:=i) (ys:=([m])) rfl underlying42 info25 rfl rfl rfl hS (Y.mono f) (W.src hS.f2) x.1 x.2 ?_
 intro b4 w N Z hS
 refine WL.nil (DP.DQ.mk2 hS ⟨il,il,trivial⟩ ?_)
 refine DP.Wd.turn rfl rfl rfl fun w hS=>?_
 replace hS:=hS.f4
 refine sA hS ?_
 intro w hS
 refine WL.nil (DP.DQ.mk2 hS ⟨il,il,trivial⟩ ?_)
 refine DP.Wd.nil fun w hS=>?_
 refine zz ?_
 replace hS:=hS.f3.drop
 refine zz ?_
 replace hS:=hS.f4
 refine R hS ?_
 replace hS:=hS.f4
 refine WL.callP rfl rfl rfl (Bf (vs:=[(pq d),sv ([58]:Aa)]) call64 ⟨rfl,rfl,trivial⟩) (Ub a4 v hS hV) (by rintro _ w⟨J,b7,S,rfl,c1,a9,hS⟩;exact⟨_,rfl,WQ.of fun a ha=>And.intro ha.defers (.inr ⟨J,b7,S,rfl,_,(((View.le.refl _).trans f).trans a9),hS.drop.drop.drop.drop.drop.drop⟩)⟩) ?_
 rintro _ w⟨d0,hV,rfl,a5,hS⟩
 refine⟨_,rfl,?_⟩
 refine zz ?_
 replace hS:=hS.f5
 refine R hS ?_
 replace hS:=hS.f2.f3.f7.f7
 refine WL.callP rfl rfl rfl (As (vs:=[]) (caps:=[(pq g),(pq b)]) rfl call56 trivial) (Ox (@hG) (U.mono f) a5 v (hN.mono f) hS hV) (by rintro _ w⟨K,b8,T,rfl,c2,b0,hS⟩;exact⟨_,rfl,WQ.of fun a ha=>And.intro ha.defers (.inr ⟨K,b8,T,rfl,_,(((View.le.refl _).trans f).trans b0),hS.drop.drop.drop⟩)⟩) ?_
 rintro _ w⟨F,b1,b2,b3,b5,O,D,hV,rfl,A,a0,a6,a7,hS⟩
 refine⟨_,rfl,?_⟩
 refine zz ?_
 replace hS:=hS.f2.f2.f5.f5.f5.f7.f7
 exact HX (.inr rfl) rfl (.inl ⟨(i++([m])),b1,b2,b3,F,b4,N,b5,O,D,hV,rfl,(((View.le.refl _).trans f).trans A),(Z.mono A),a6,a7,a0,hS⟩)
theorem YF{G:Aa->Int->Int->Bool->(Int->Int->Prop)->(Val->Int->Int->Bool->Prop)->Prop}(hG:MG G){b:Nat}{f:Aa}{j:Int}{v:Int}{p:Bool}{i:Aa}{c:Nat}{J:Value}{N:List Val}{B:Ar}{d:Nat}{E:Int->Int->Prop}{Q:Int->Int->Bool->(List Val)->Prop}(b8:I64 j)(f6:I64 v)(a9:OwnSl H cV 25 J N B)(hN:GlobN w0 H)(hS:St w0 H ([(b,oc #[sv f,i6 j,i6 v,.bool p] 62)]++([(c,oc #[J] 42)]++(B++([(d,oc #[(pq b)] 60)]++L)))) w)(hV:Qc G f j v p i N E Q):
 Cl 58 #[(pq b),sv i,.func (.func 56) #[] #[(pq c),(pq d)]] w fun e w'=>(∃(r1:Int)(r2:Int)(r3:Bool)(r4:List Val)(v4:Value)(fp4:Ar)(H':View),Q r1 r2 r3 r4/\e=.returned (.tuple #[])/\View.le H H'/\I64 r1/\I64 r2/\OwnSl H' cV 25 v4 r4 fp4/\St w0 H' ([(b,oc #[sv f,i6 r1,i6 r2,.bool r3] 62)]++([(c,oc #[v4] 42)]++(fp4++([(d,oc #[(pq b)] 60)]++L)))) w')\/(∃e1 a1,E e1 a1/\e=.panicked (Dy e1 a1)/\∃H1,View.le H H1/\St w0 H1 L w'):=by
 refine Li func58 ntmps58 ?_
 obtain⟨V,a8,hV⟩:=hV
 refine WC.meet (fun a w=>∃o,V o/\I64 o/\St w0 H ([(b,oc #[sv f,i6 j,i6 o,.bool p] 62)]++([(c,oc #[J] 42)]++(B++([(d,oc #[(pq b)] 60)]++L)))) w/\Fr 49 [(0,(pq b)),(1,sv i),(2,.func (.func 56) #[] #[(pq c),(pq d)])] a) ?_ ?_
 rintro a w⟨o,hI,P,hS,ha⟩
 refine Ab ha ?_
 have hV:=a8 _ hI
 obtain⟨e7,hV⟩:=hV
 obtain⟨b4,hV⟩:=hV
 refine zz ?_
 refine Ee #[sv f,i6 (j+(i.length:Int)),i6 o,.bool p] sizeOf3 hS ?_
 intro w hS
 obtain⟨U,a7,hV⟩:=hV
 refine z ?_
 refine WC.meet (fun a w=>∃g h l r k A x,U (g,h,l,r)/\View.le H k/\I64 g/\I64 h/\OwnSl k cV 25 A r x/\St w0 k ([(b,oc #[sv f,i6 g,i6 h,.bool l] 62)]++([(c,oc #[A] 42)]++(x++([(d,oc #[(pq b)] 60)]++L)))) w/\Fr 49 [(0,(pq b))] a) ?_ ?_
 rintro a w⟨g,h,l,r,k,A,x,hI,b9,b5,e8,b0,hS,ha⟩
 refine Ab ha ?_
 have hV:=a7 _ hI
 obtain⟨b2,hV⟩:=hV
 refine zz ?_
 refine Ee #[sv f,i6 g,i6 (h-(1:Int)),.bool l] sizeOf3 hS ?_
 intro w hS
 replace hS:=hS.f4.f4.f4.f4
 refine zz ?_
 exact HX (.inr rfl) rfl (.inl ⟨g,(h-(1:Int)),l,r,A,x,k,hV,rfl,((View.le.refl _).trans b9),b5,b2,b0,hS⟩)
 refine zz ?_
 refine Rd call95 (Qf b4 P hS hV) ?_
 rintro _ w⟨f8,f9,hV,rfl,b6,hS⟩
 refine zz ?_
 refine Cf hV ?_ ?_<;>intro e5 hV
 replace hS:=hS.f4.f4.f4
 refine zz ?_
 refine WL.callP rfl rfl rfl (As (vs:=[]) (caps:=[(pq c),(pq d)]) rfl call56 trivial) (Ox (@hG) a9 b6 P hN hS hV) (by rintro _ w⟨Y,c8,a3,rfl,d2,c0,hS⟩;exact⟨_,rfl,WQ.of fun a ha=>And.intro ha.defers (.inr ⟨Y,c8,a3,rfl,_,((View.le.refl _).trans c0),hS⟩)⟩) ?_
 rintro _ w⟨W,c5,c6,c7,g6,d8,S,hV,rfl,F,e2,e9,f0,hS⟩
 refine⟨_,rfl,?_⟩
 replace hS:=hS.f3.f3.f3.f4
 obtain⟨T,c4,e0,hV⟩:=hV
 refine zz ?_
 refine WC.loop (σ:=Int×Int×Bool×(List (Val))) (fun s a w=>∃m n t u q K C,s=(m,n,t,u)/\T (m,n,t,u)/\View.le S q/\I64 m/\I64 n/\OwnSl q cV 25 K u C/\St w0 q ([(b,oc #[sv f,i6 m,i6 n,.bool t] 62)]++([(c,oc #[K] 42)]++(C++([(d,oc #[(pq b)] 60)]++L)))) w/\Fr 49 [(0,(pq b)),(1,sv i),(2,.func (.func 56) #[] #[(pq c),(pq d)])] a) c4 (c5,c6,c7,W) ?_ ?_
 exact y
 rintro _ a w⟨m,n,t,u,q,K,C,rfl,hI,I,b7,D,b1,hS,ha⟩
 refine Ab ha ?_
 replace hV:=hV _ hI
 refine zz ?_
 refine Rd call95 (Qf b7 D hS hV) ?_
 rintro _ w⟨g0,g1,hV,rfl,O,hS⟩
 refine zz ?_
 refine Cf hV ?_ ?_<;>intro e4 hV
 replace hS:=hS.f4.f4.f4
 refine zz ?_
 refine WL.callP rfl rfl rfl (As (vs:=[]) (caps:=[(pq c),(pq d)]) rfl call56 trivial) (Ox (@hG) b1 O D ((hN.mono F).mono I) hS hV) (by rintro _ w⟨Z,c9,a4,rfl,d4,c1,hS⟩;exact⟨_,rfl,WQ.of fun a ha=>And.intro ha.defers (.inr ⟨Z,c9,a4,rfl,_,((((View.le.refl _).trans F).trans I).trans c1),hS⟩)⟩) ?_
 rintro _ w⟨d7,g2,g3,g4,g7,d9,d3,hV,rfl,f7,e3,f1,f2,hS⟩
 refine⟨_,rfl,?_⟩
 replace hS:=hS.f3.f3.f3.f4
 refine zz ?_
 exact y
 refine zz ?_
 refine WL.callP rfl rfl rfl (Bf (vs:=[(pq b),sv i]) call64 ⟨rfl,rfl,trivial⟩) (Ub O D hS hV) (by rintro _ w⟨a0,d0,a5,rfl,d5,c2,hS⟩;exact⟨_,rfl,WQ.of fun a ha=>And.intro ha.defers (.inr ⟨a0,d0,a5,rfl,_,((((View.le.refl _).trans F).trans I).trans c2),hS.drop.drop.drop⟩)⟩) ?_
 rintro _ w⟨g5,hV,rfl,f5,hS⟩
 refine⟨_,rfl,?_⟩
 replace hS:=hS.f4.f4.f4.f4
 refine zz ?_
 exact y
 replace hS:=hS.f4.f4.f4.f4
 refine zz ?_
 exact y
 obtain⟨b3,hV⟩:=hV
 refine zz ?_
 refine Ee #[sv f,i6 j,i6 (v+(1:Int)),.bool p] sizeOf3 hS ?_
 intro w hS
 refine zz ?_
 refine Ce hV ?_ ?_<;>intro e6 hV
 refine zz ?_
 refine WL.callP rfl rfl rfl (Bf (vs:=[(pq b),i6 (6:Int)]) call25 ⟨rfl,rfl,trivial⟩) (Gr b8 b3 (show I64 (6:Int) by unfold I64;omega) hS hV) (by rintro _ w⟨a2,d1,a6,rfl,d6,c3,hS⟩;exact⟨_,rfl,WQ.of fun a ha=>And.intro ha.defers (.inr ⟨a2,d1,a6,rfl,_,((View.le.refl _).trans c3),hS.drop.drop.drop⟩)⟩) ?_
 rintro _ w⟨hV,rfl,hS⟩
 refine⟨_,rfl,?_⟩
 replace hS:=hS.f4.f4.f4.f4
 refine zz ?_
 exact y
 replace hS:=hS.f4.f4.f4.f4
 refine zz ?_
 exact y
theorem Abk{G:Aa->Int->Int->Bool->(Int->Int->Prop)->(Val->Int->Int->Bool->Prop)->Prop}(hG:MG G){b:Nat}{h:Aa}{l:Int}{r:Int}{q:Bool}{d:Nat}{v_15:Value}{J:List Val}{C:Ar}{c:Nat}{f:Nat}{g:Nat}{I:Value}{K:List Val}{D:Ar}{E:Int->Int->Prop}{Q:Int->Int->Bool->(List Val)->(List Val)->Prop}(b7:I64 l)(f9:I64 r)(a9:OwnSl H cV 25 v_15 J C)(b0:OwnSl H cV 25 I K D)(hN:GlobN w0 H)(hS:St w0 H ([(b,oc #[sv h,i6 l,i6 r,.bool q] 62)]++([(d,oc #[v_15] 42)]++(C++([(c,oc #[(pq b)] 60)]++([(f,Obj.cells #[.func (.func 56) #[] #[(pq g),(pq c)]] 1 (0,0))]++([(g,oc #[I] 42)]++(D++L))))))) w)(hV:Qg G h l r q J K E Q):
 Cl 62 #[(pq b),.func (.func 63) #[] #[(pq d),(pq c),(pq f)]] w fun e w'=>(∃(r1:Int)(r2:Int)(r3:Bool)(r4:List Val)(r5:List Val)(v4:Value)(fp4:Ar)(v5:Value)(fp5:Ar)(H':View),Q r1 r2 r3 r4 r5/\e=.returned (.tuple #[])/\View.le H H'/\I64 r1/\I64 r2/\OwnSl H' cV 25 v4 r4 fp4/\OwnSl H' cV 25 v5 r5 fp5/\St w0 H' ([(b,oc #[sv h,i6 r1,i6 r2,.bool r3] 62)]++([(d,oc #[v4] 42)]++(fp4++([(c,oc #[(pq b)] 60)]++([(f,Obj.cells #[.func (.func 56) #[] #[(pq g),(pq c)]] 1 (0,0))]++([(g,oc #[v5] 42)]++(fp5++L))))))) w')\/(∃e1 a1,E e1 a1/\e=.panicked (Dy e1 a1)/\∃H1,View.le H H1/\St w0 H1 L w'):=by
 refine Co func62 ntmps62 ?_
 obtain⟨V,a8,hV⟩:=hV
 refine WC.meet (fun a w=>∃p,V p/\I64 p/\St w0 H ([(b,oc #[sv h,i6 l,i6 p,.bool q] 62)]++([(c,oc #[(pq b)] 60)]++([(f,Obj.cells #[.func (.func 56) #[] #[(pq g),(pq c)]] 1 (0,0))]++([(g,oc #[I] 42)]++(D++([(d,oc #[v_15] 42)]++(C++L))))))) w/\Fr 40 [(0,(pq b)),(1,.func (.func 63) #[] #[(pq d),(pq c),(pq f)])] a) ?_ ?_
 rintro a w⟨p,hI,b6,hS,ha⟩
 refine Ab ha ?_
 have hV:=a8 _ hI
 obtain⟨b3,hV⟩:=hV
 refine zz ?_
 refine Ee #[sv h,i6 (l+(1:Int)),i6 p,.bool q] sizeOf3 hS ?_
 intro w hS
 replace hS:=hS.f5.f5.f5.f4.f5.f7.f7
 refine zz ?_
 refine WL.callP rfl rfl rfl (As (vs:=[]) (caps:=[(pq d),(pq c),(pq f)]) rfl call63 trivial) (SA (@hG) a9 b3 b6 b0 hN hS hV) (by rintro _ w⟨a3,c9,a7,rfl,d4,c1,hS⟩;exact⟨_,rfl,WQ.of fun a ha=>And.intro ha.defers (.inr ⟨a3,c9,a7,rfl,_,((View.le.refl _).trans c1),hS⟩)⟩) ?_
 rintro _ w⟨W,c3,c4,c5,Y,g8,d9,g9,e0,T,hV,rfl,x,e5,f1,f8,e6,hS⟩
 refine⟨_,rfl,?_⟩
 replace hS:=hS.f2.f2.f7.f7.f7.f6.f7
 obtain⟨U,c2,e2,hV⟩:=hV
 refine zz ?_
 refine WC.loop (σ:=Int×Int×Bool×(List (Val))×(List (Val))) (fun s a w=>∃m i k n o j A t B u,s=(m,i,k,n,o)/\U (m,i,k,n,o)/\View.le T j/\I64 m/\I64 i/\OwnSl j cV 25 A n t/\OwnSl j cV 25 B o u/\St w0 j ([(b,oc #[sv h,i6 m,i6 i,.bool k] 62)]++([(c,oc #[(pq b)] 60)]++([(f,Obj.cells #[.func (.func 56) #[] #[(pq g),(pq c)]] 1 (0,0))]++([(g,oc #[A] 42)]++(t++([(d,oc #[B] 42)]++(u++L))))))) w/\Fr 40 [(0,(pq b)),(1,.func (.func 63) #[] #[(pq d),(pq c),(pq f)])] a) c2 (c3,c4,c5,Y,W) ?_ ?_
 exact y
 rintro _ a w⟨m,i,k,n,o,j,A,t,B,u,rfl,hI,v,b4,F,N,O,hS,ha⟩
 refine Ab ha ?_
 replace hV:=hV _ hI
 refine zz ?_
 refine Rd call95 (Qf b4 F hS hV) ?_
 rintro _ w⟨g1,g2,hV,rfl,P,hS⟩
 refine zz ?_
 refine Cf hV ?_ ?_<;>intro e7 hV
 replace hS:=hS.f5.f5.f5.f4.f5.f7.f7
 refine zz ?_
 refine WL.callP rfl rfl rfl (As (vs:=[]) (caps:=[(pq d),(pq c),(pq f)]) rfl call63 trivial) (SA (@hG) O P F N ((hN.mono x).mono v) hS hV) (by rintro _ w⟨Z,c6,a4,rfl,d1,b8,hS⟩;exact⟨_,rfl,WQ.of fun a ha=>And.intro ha.defers (.inr ⟨Z,c6,a4,rfl,_,((((View.le.refl _).trans x).trans v).trans b8),hS⟩)⟩) ?_
 rintro _ w⟨d5,g3,g4,g5,d6,g6,d7,g7,d8,d0,hV,rfl,g0,e3,e9,f0,e4,hS⟩
 refine⟨_,rfl,?_⟩
 replace hS:=hS.f2.f2.f7.f7.f7.f6.f7
 refine zz ?_
 exact y
 refine zz ?_
 refine WL.callP rfl rfl rfl (Bf (vs:=[(pq b),sv ([93]:Aa)]) call64 ⟨rfl,rfl,trivial⟩) (Ub P F hS hV) (by rintro _ w⟨a0,c7,a5,rfl,d2,b9,hS⟩;exact⟨_,rfl,WQ.of fun a ha=>And.intro ha.defers (.inr ⟨a0,c7,a5,rfl,_,((((View.le.refl _).trans x).trans v).trans b9),hS.drop.drop.drop.drop.drop.drop⟩)⟩) ?_
 rintro _ w⟨S,hV,rfl,b5,hS⟩
 refine⟨_,rfl,?_⟩
 obtain⟨b1,hV⟩:=hV
 refine zz ?_
 refine Ee #[sv h,i6 S,i6 (i-(1:Int)),.bool k] sizeOf3 hS ?_
 intro w hS
 replace hS:=hS.f5.f5.f5.f5.f7.f7.f7
 refine zz ?_
 exact HX (.inr rfl) rfl (.inl ⟨S,(i-(1:Int)),k,o,n,B,u,A,t,j,hV,rfl,(((View.le.refl _).trans x).trans v),b5,b1,O,N,hS⟩)
 obtain⟨b2,hV⟩:=hV
 refine zz ?_
 refine Ee #[sv h,i6 l,i6 (r+(1:Int)),.bool q] sizeOf3 hS ?_
 intro w hS
 refine zz ?_
 refine Ce hV ?_ ?_<;>intro e8 hV
 refine zz ?_
 refine WL.callP rfl rfl rfl (Bf (vs:=[(pq b),i6 (6:Int)]) call25 ⟨rfl,rfl,trivial⟩) (Gr b7 b2 (show I64 (6:Int) by unfold I64;omega) hS hV) (by rintro _ w⟨a2,c8,a6,rfl,d3,c0,hS⟩;exact⟨_,rfl,WQ.of fun a ha=>And.intro ha.defers (.inr ⟨a2,c8,a6,rfl,_,((View.le.refl _).trans c0),hS.drop.drop.drop.drop.drop.drop⟩)⟩) ?_
 rintro _ w⟨hV,rfl,hS⟩
 refine⟨_,rfl,?_⟩
 replace hS:=hS.f3.f3.f7.f7.f7.f7.f7
 refine zz ?_
 exact y
 replace hS:=hS.f3.f3.f7.f7.f7.f7.f7
 refine zz ?_
 exact y
end Go.Proofs.YtlhkfkecoekoeaaGreatDoor
