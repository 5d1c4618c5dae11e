/- Part H of the proof: walks. No condition beyond those that each theorem names. -/
import Derived.Test.YtlhkfkecoekoeaaGreatDoorGG
set_option linter.unusedVariables false
set_option linter.unusedSimpArgs false
set_option maxRecDepth 100000
set_option maxHeartbeats 1000000
namespace Go.Proofs.YtlhkfkecoekoeaaGreatDoor
open Go.Vc _root_.Go.Proofs.Tryz _root_.Go.Proofs.YtlhkfkecoekoeaaGreatDoor.Tryz
variable{w0:World}{H:View}{L:Ar}{w:World}
theorem Wg{d:Int}{j:Int}{i:Int}{Q:Int->Prop}(C:I64 d)(F:I64 j)(G:I64 i)(hS:St w0 H L w)(hV:Mv d j i Q):
 Cl 204 #[i6 d,i6 j,i6 i] w (pI w0 H L Q):=by
 refine Li func204 ntmps204 ?_
 obtain⟨o,r,t,hV⟩:=hV
 refine zz ?_
 refine WC.loop (σ:=Int×Int) (fun s a w=>∃c f,s=(c,f)/\o (c,f)/\I64 c/\I64 f/\St w0 H (L) w/\Fr 31 [(0,i6 d),(1,i6 c),(2,i6 i),(7,i6 f)] a) r (j,(1:Int)) ?_ ?_
 exact y
 rintro _ a w⟨c,f,rfl,hI,D,E,hS,ha⟩
 refine Ab ha ?_
 replace hV:=hV _ hI
 refine z ?_
 refine WC.seq ?_
 refine WC.via (m:=[(0,i6 d),(1,i6 c),(2,i6 i),(7,i6 f),(18,.bool (decide ((((0:Int)<c)/\((1:Int)<d))/\(f<=i))))]) ?_ ?_
 refine zz ?_
 rcases DG (decide ((0:Int)<c)) with g|g
 iterate 3 refine z ?_
 refine WL.up (s:=13) rfl (De g) (R hS ?_)
 rcases DG (decide (((0:Int)<c)/\((1:Int)<d))) with l|l
 iterate 4 refine z ?_
 refine WL.up (s:=18) rfl (De l) ?_
 exact WL.nil At.os
 iterate 4 refine z ?_
 refine WL.up (s:=18) rfl (Bj l:false=decide ((((0:Int)<c)/\((1:Int)<d))/\(f<=i))) ?_
 exact WL.nil At.os
 iterate 3 refine z ?_
 refine WL.up (s:=13) rfl (Bj g:false=decide (((0:Int)<c)/\((1:Int)<d))) (R hS ?_)
 refine WL.skip_g rfl rfl rfl (Bj g).symm rfl rfl (WL.skip_g rfl rfl rfl (Bj g).symm rfl rfl (WL.skip_g rfl rfl rfl (Bj g).symm rfl rfl (Rn hS (FA rfl (Bj g).symm rfl) ?_)))
 refine WL.up (s:=18) rfl (Bj (Bj g).symm:false=decide ((((0:Int)<c)/\((1:Int)<d))/\(f<=i))) ?_
 exact WL.nil At.os
 refine zz ?_
 refine Ce hV ?_ ?_<;>intro x hV
 obtain⟨A,hV⟩:=hV
 obtain⟨B,hV⟩:=hV
 refine zz ?_
 exact y
 iterate 6 refine z ?_
 refine WC.seq ?_
 refine WC.via (m:=[(7,i6 f),(29,.bool (decide (((0:Int)<c)/\(d=(0:Int)))))]) ?_ ?_
 refine zz ?_
 rcases DG (decide ((0:Int)<c)) with n|n
 iterate 3 refine z ?_
 refine WL.up (s:=29) rfl (De n) ?_
 exact WL.nil At.os
 iterate 3 refine z ?_
 refine WL.up (s:=29) rfl (Bj n:false=decide (((0:Int)<c)/\(d=(0:Int)))) ?_
 exact WL.nil At.os
 exact Z
theorem Vm{f:Value}{j:List Val}{i:Ar}{Q:Val->Prop}(c:OwnSl H cV 25 f j i)(hS:St w0 H (i++L) w)(hV:MF j Q):
 Cl 207 #[f] w (pV w0 H L Q):=by
 refine BW func207 ntmps207 ?_
 refine zz ?_
 refine aV hS ?_
 intro g w hS
 have n:=c.bound
 replace hV:=hV n
 refine zz ?_
 refine Rn hS (AP underlying42 rfl c) ?_
 replace hS:=hS.f2
 obtain⟨m,r,x,hV⟩:=hV
 refine zz ?_
 refine WC.loop (σ:=Int) (fun s a w=>∃d,s=d/\m d/\I64 d/\St w0 H (i++([(g,oc #[.nilIface] 25)]++L)) w/\Fr 18 [(0,f),(2,(pq g)),(5,f),(6,i6 (j.length:Int)),(7,i6 d)] a) r (0:Int) ?_ ?_
 exact y
 rintro d a w⟨_,rfl,hI,D,hS,ha⟩
 refine Ab ha ?_
 replace hV:=hV _ hI
 refine zz ?_
 refine Ce hV ?_ ?_<;>intro C hV
 obtain⟨l,hV⟩:=hV
 refine zz ?_
 refine Rx hS (Ai underlying42 sizeOf25 rfl rfl c l) ?_
 intro F o
 refine Rx hS (BG (H:=H) (L:=[(g,oc #[.nilIface] 25)]++L) (Bt isAgg25 sizeOf25 rfl c o l)) ?_
 rintro N⟨_,rfl,hu⟩
 obtain⟨O,rfl,A⟩:=Aw hu
 exact Z
 refine zz ?_
 refine Rd call60 (HA c hS hV) ?_
 rintro _ w⟨G,P,t,hV,rfl,E,B,hS⟩
 refine sA hS ?_
 intro w hS
 refine zz ?_
 exact vc
theorem Aem{f_1:Val}{c:Value}{f:Val}{d:Value}{Q:Val->Prop}(i:IsW H c f_1)(j:IsW H d f)(hS:St w0 H L w)(hV:Adc f_1 f Q):
 Cl 179 #[.agg #[c],.agg #[d]] w (pV w0 H L Q):=by
 refine Co func179 ntmps179 ?_
 refine zz ?_
 refine WL.box (arr:=#[c]) rfl rfl rfl hS ?_
 intro o w hS
 refine WL.box (arr:=#[d]) rfl rfl rfl hS ?_
 intro b_9 w hS
 refine aV hS ?_
 intro n w hS
 replace hS:=hS.f3
 refine zz ?_
 refine Rn hS (Ac (cs:=[c]) isAgg25 sizeOf25 rfl rfl rfl) ?_
 refine Rd call183 (MH i hS hV) ?_
 rintro _ w⟨x,A,B,v_14,E,m,hV,rfl,l,g,r,hS⟩
 replace hS:=hS.drop
 replace hS:=hS.f2
 refine zz ?_
 refine Rn hS (Ac (cs:=[d]) isAgg25 sizeOf25 rfl rfl rfl) ?_
 refine Rd call201 (UP g (j.mono l) hS hV) ?_
 rintro _ w⟨C,D,hV,rfl,t,hS⟩
 replace hS:=hS.drop
 exact Z
theorem AcR{f_1:Val}{a:Value}{m:Val}{e:Value}{f:Val}{b:Value}{Q:Val->Prop}(i:IsW H a f_1)(s:IsW H e m)(k:IsW H b f)(hS:St w0 H L w)(hV:UY f_1 m f Q):
 Cl 181 #[.agg #[a],.agg #[e],.agg #[b]] w (pV w0 H L Q):=by
 refine Li func181 ntmps181 ?_
 refine zz ?_
 refine WL.box (arr:=#[a]) rfl rfl rfl hS ?_
 intro D w hS
 refine WL.box (arr:=#[e]) rfl rfl rfl hS ?_
 intro E w hS
 refine WL.box (arr:=#[b]) rfl rfl rfl hS ?_
 intro o w hS
 refine aV hS ?_
 intro g w hS
 replace hS:=hS.f4
 refine zz ?_
 refine Rn hS (Ac (cs:=[a]) isAgg25 sizeOf25 rfl rfl rfl) ?_
 refine Rd call183 (MH i hS hV) ?_
 rintro _ w⟨T,U,V,a0,a1,n,hV,rfl,d,h,p,hS⟩
 refine zz ?_
 refine Cf hV ?_ ?_<;>intro N hV
 refine zz ?_
 refine Rn hS bV ?_
 replace hS:=hS.f2
 refine sA hS ?_
 intro w hS
 replace hS:=hS.f2.drop
 replace hS:=hS.f3.drop
 replace hS:=hS.f2.drop
 refine zz ?_
 exact vc
 replace hS:=hS.f4
 refine zz ?_
 refine Rn hS (Ac (cs:=[e]) isAgg25 sizeOf25 rfl rfl rfl) ?_
 refine Rd call201 (UP h (s.mono d) hS hV) ?_
 rintro _ w⟨v,W,hV,rfl,O,hS⟩
 replace hS:=hS.drop
 refine zz ?_
 refine Cf hV ?_ ?_<;>intro J hV
 refine zz ?_
 refine Rn hS (Ac (cs:=[a]) isAgg25 sizeOf25 rfl rfl rfl) ?_
 replace hS:=hS.f2
 refine Ee #[a] sizeOf25 hS ?_ (cs:=[a]) (hone:=⟨(IsW.one (i.mono d)),trivial⟩)
 intro w hS
 replace hS:=hS.f2.drop
 replace hS:=hS.f2.drop
 refine zz ?_
 exact vc
 replace hS:=hS.drop
 refine zz ?_
 refine Rd call154 (FJ (L:=[(g,oc #[.nilIface] 25)]++([(o,oc #[b] 25)]++L)) (IsSl.bor (fp:=[]) p) hS hV) ?_
 rintro _ w⟨x,A,F,hV,rfl,j,hS⟩
 simp only[List.nil_append] at hS
 replace hS:=hS.f3
 refine zz ?_
 refine Rn hS (Ac (cs:=[b]) isAgg25 sizeOf25 rfl rfl rfl) ?_
 obtain⟨l,hV⟩:=hV
 refine Rx hS (Ai underlying42 sizeOf25 rfl rfl j l) ?_
 intro S t
 replace hS:=hS.f2
 refine WL.store_own_agg (c:=cV) (z:=f) (m':=[b]) sizeOf25 rfl rfl rfl ⟨(IsW.one (k.mono d)),trivial⟩ (BZ (k.mono d)) hS j t l ?_
 intro w G q hS
 replace hS:=hS.f2.drop
 refine zz ?_
 obtain⟨B,u,r,hS⟩:∃K,View.le n K/\IsSl K cV A (x.set v.toNat f)/\St w0 K ([(g,oc #[.nilIface] 25)]++L) w:=⟨_,hS.put_le,q.share hS.put_le,hS.freeze⟩
 refine Rd call65 (DY (h.mono u) r hS hV) ?_
 rintro _ w⟨Y,Z,C,hV,rfl,P,I,hS⟩
 refine sA hS ?_
 intro w hS
 refine zz ?_
 exact vc
theorem XD{g:Value}{a_1:List Val}{a:Ar}{f:Value}{c:Fg (Bool×Bool) Bool}{Q:Val->Prop}(d:Bor H cV g a_1 a)(k:IsPt H (cA Tryz.prog w0 Yj .bool) f c)(hS:St w0 H (a++L) w)(hV:GB a_1 c Q):
 Cl 122 #[g,f] w (pV w0 H (a++L) Q):=by
 refine Co func122 ntmps122 ?_
 refine zz ?_
 refine aV hS ?_
 intro b_9 w hS
 iterate 2 refine z ?_
 refine WC.drawn (σ:=[0,1,2,3,5,6,7,4,8,9,10,11]) [[],[],[1],[1,2],[1,2,3],[],[5],[5,6],[1,2,3,4,5,6,7],[0,1,2,3,4,5,6,7,8],[0,1,2,3,4,5,6,7,8,9],[0,1,2,3,4,5,6,7,8,9,10]] [4,8,9,10,11] mixed (by kernel_rfl) (hS.drawn _) (Wd.runs (fp:=([]:Ar)) (L:=[(b_9,oc #[.nilIface] 25)]++(a++L)) rfl rfl rfl rfl (Dl isAgg154 rfl rfl k) (fun _ h=>h) ?_)
 intro T b
 replace b:=Aee b
 intro F e
 refine Dm fun G x=>?_
 obtain⟨l,hV⟩:=hV
 refine Wd.runx rfl rfl rfl rfl (AA (Ag underlying42 sizeOf25 rfl rfl d l)) ?_
 intro D n
 intro I A
 refine Wd.runs (fp:=a) rfl rfl rfl rfl (Ad isAgg25 sizeOf25 rfl n) (fun _ h=>St.f2 h) ?_
 rintro U⟨_,rfl,hu⟩
 obtain⟨V,rfl,i⟩:=Aw hu
 intro J B
 refine Dm fun K p=>?_
 obtain⟨m,hV⟩:=hV
 refine Wd.runx rfl rfl rfl rfl (AA (Ag underlying42 sizeOf25 rfl rfl d m)) ?_
 intro E o
 intro N q
 refine Wd.runs (fp:=a) rfl rfl rfl rfl (Ad isAgg25 sizeOf25 rfl o) (fun _ h=>St.f2 h) ?_
 rintro W⟨_,rfl,hu⟩
 obtain⟨Y,rfl,j⟩:=Aw hu
 intro O r
 refine Wd.turn rfl rfl rfl fun w hS=>?_
 refine Rd call123 (Uh i hS hV) ?_
 rintro _ w⟨s,hV,rfl,hS⟩
 refine WL.nil (DQ.mk2 hS ⟨.inr (r H ([(b_9,oc #[.nilIface] 25)]++L) _ (View.le.refl _) (fun _ h=>St.f2 h)),.inr (q _),.inr (p _),il,il,il,.inr (e H ([(b_9,oc #[.nilIface] 25)]++(a++L)) _ (View.le.refl _) (fun _ h=>h)),trivial⟩ ?_)
 refine Wd.turn rfl rfl rfl fun w hS=>?_
 refine Rd call123 (Uh j hS hV) ?_
 rintro _ w⟨t,hV,rfl,hS⟩
 refine WL.nil (DQ.mk2 hS ⟨il,il,il,il,il,il,.inr (e H ([(b_9,oc #[.nilIface] 25)]++(a++L)) _ (View.le.refl _) (fun _ h=>h)),trivial⟩ ?_)
 refine Wd.turn rfl rfl rfl fun w hS=>?_
 refine Rcv (vs:=[.bool s,.bool t]) ⟨rfl,rfl,trivial⟩ (FvA.cBB b hS hV) ?_
 rintro _ w⟨P,hV,rfl,hS⟩
 refine⟨_,rfl,?_⟩
 refine WL.nil (DQ.mk2 hS ⟨il,il,il,il,il,il,il,trivial⟩ ?_)
 refine Wd.turn rfl rfl rfl fun w hS=>?_
 refine Rd call106 (Dn hS hV) ?_
 rintro _ w⟨S,Z,u,hV,rfl,C,v,hS⟩
 refine WL.nil (DQ.mk2 hS ⟨il,il,il,il,il,il,il,trivial⟩ ?_)
 refine Wd.turn rfl rfl rfl fun w hS=>?_
 refine sA hS ?_
 intro w hS
 refine WL.nil (DQ.mk2 hS ⟨il,il,il,il,il,il,il,trivial⟩ ?_)
 refine Wd.nil fun w hS=>?_
 refine zz ?_
 exact vc
theorem KB{b:Value}{f_1:Fg (Bool×Bool) Bool}{Q:Int->(Option EA)->Prop}(d:FvA Tryz.prog w0 Yj .bool H b f_1)(hS:St w0 H L w)(hV:HT f_1 Q):
 Cl 121 #[b] w (pO w0 H L Q):=by
 refine BW func121 ntmps121 ?_
 refine zz ?_
 refine WL.box (arr:=#[b]) rfl rfl (AN (FvA.one d)) hS ?_
 intro a w hS
 refine aO hS ?_
 intro j w hS
 refine zz ?_
 refine Rn hS (AR (vs:=[(pq a)]) ⟨rfl,trivial⟩) ?_
 refine Rn hS (Aq (vs:=[i6 (2:Int),.func (.func 122) #[] #[(pq a)]]) (zc:=#[i6 0,.nilFunc]) (cs:=#[i6 (2:Int),.func (.func 122) #[] #[(pq a)]]) (places:=#[(0,1),(1,1)]) underlying78 zeroValue78 (fun w=>by simp[sizeOf3,sizeOf76]) rfl ⟨rfl,rfl,trivial⟩ rfl (by simp[Instr.fill,Bs,Be,AW,AJ,AX,Br,BA,Dj])) ?_
 refine Ee #[i6 (2:Int),.func (.func 122) #[] #[(pq a)]] sizeOf78 hS ?_
 intro w hS
 replace hS:=hS.f2
 refine zz ?_
 obtain⟨e,i,f,hS⟩:=St.ptbox (c:=(cA Tryz.prog w0 Yj .bool)) (z:=f_1) hS (AcH d)
 have h:=An (P:=Tryz.prog) (cs:=[i6 (2:Int),.func (.func 122) #[] #[(pq a)]]) isAgg78 sizeOf78 hS rfl
 replace hS:=hS.drop
 exact AZ (il) rfl rfl h (⟨(2:Int),(some (fun x Q=>GB x f_1 Q)),(.func (.func 122) #[] #[(pq a)]),e,hV,rfl,((View.le.refl _).trans i),(show I64 (2:Int) by unfold I64;omega),(FvB.A (g:=(fun x Q=>GB x f_1 Q)) (caps:=[(pq a)]) call122 (fun hle hx hS hV=>XD hx (f.mono hle) hS hV)),hS⟩)
theorem AaH{b:Value}{a_1:List Val}{a:Ar}{Q:Val->Prop}(e:Bor H cV b a_1 a)(hS:St w0 H (a++L) w)(hV:KU a_1 Q):
 Cl 124 #[b] w (pV w0 H (a++L) Q):=by
 refine BW func124 ntmps124 ?_
 refine zz ?_
 refine aV hS ?_
 intro c w hS
 obtain⟨f,hV⟩:=hV
 refine zz ?_
 refine Rx hS (Ag underlying42 sizeOf25 rfl rfl e f) ?_
 intro k g
 replace hS:=hS.f2
 refine Rx hS (BG (H:=H) (L:=[(c,oc #[.nilIface] 25)]++L) (Ad isAgg25 sizeOf25 rfl g)) ?_
 rintro n⟨_,rfl,hu⟩
 obtain⟨o,rfl,d⟩:=Aw hu
 refine Rd call123 (Uh d hS hV) ?_
 rintro _ w⟨l,hV,rfl,hS⟩
 refine R hS ?_
 refine Rd call106 (Dn hS hV) ?_
 rintro _ w⟨m,p,h,hV,rfl,j,i,hS⟩
 replace hS:=hS.f2
 refine sA hS ?_
 intro w hS
 refine zz ?_
 exact vc
theorem ZJ{a_1:Bool}{a:Bool}{Q:Bool->Prop}(hS:St w0 H L w)(hV:Nn a_1 a Q):
 Cl 125 #[.bool a_1,.bool a] w (pB w0 H L Q):=by
 refine Co func125 ntmps125 ?_
 iterate 3 refine z ?_
 refine WC.seq ?_
 refine WC.via (m:=[(4,.bool (decide ((a_1=true)/\(a=true))))]) ?_ ?_
 refine zz ?_
 rcases DG a_1 with b|b
 iterate 2 refine z ?_
 refine WL.up (s:=8) rfl ((AH _).trans (De ((AH _).symm.trans b):decide (a=true)=decide ((a_1=true)/\(a=true)))) (R hS ?_)
 exact WL.nil At.os
 iterate 2 refine z ?_
 refine WL.up (s:=8) rfl (Bj ((AH _).symm.trans b):false=decide ((a_1=true)/\(a=true))) (R hS ?_)
 exact WL.nil At.os
 refine zz ?_
 exact v1
theorem ZD{a_1:Bool}{a:Bool}{Q:Bool->Prop}(hS:St w0 H L w)(hV:Oy a_1 a Q):
 Cl 126 #[.bool a_1,.bool a] w (pB w0 H L Q):=by
 refine Co func126 ntmps126 ?_
 iterate 3 refine z ?_
 refine WC.seq ?_
 refine WC.via (m:=[(4,.bool (decide ((a_1=true)\/(a=true))))]) ?_ ?_
 refine zz ?_
 rcases DG a_1 with b|b
 iterate 2 refine z ?_
 refine WL.up (s:=8) rfl (Bg ((AH _).symm.trans b):true=decide ((a_1=true)\/(a=true))) (R hS ?_)
 exact WL.nil At.os
 iterate 2 refine z ?_
 refine WL.up (s:=8) rfl ((AH _).trans (CQ ((AH _).symm.trans b):decide (a=true)=decide ((a_1=true)\/(a=true)))) (R hS ?_)
 exact WL.nil At.os
 refine zz ?_
 exact v1
theorem YP{a_1:Bool}{a:Bool}{Q:Bool->Prop}(hS:St w0 H L w)(hV:Nw a_1 a Q):
 Cl 127 #[.bool a_1,.bool a] w (pB w0 H L Q):=by
 refine Co func127 ntmps127 ?_
 iterate 3 refine z ?_
 refine WC.seq ?_
 refine WC.via (m:=[(4,.bool (decide (((!a_1)=true)\/(a=true))))]) ?_ ?_
 refine zz ?_
 rcases DG (!a_1) with b|b
 iterate 2 refine z ?_
 refine WL.up (s:=9) rfl (Bg ((AH _).symm.trans b):true=decide (((!a_1)=true)\/(a=true))) (R hS ?_)
 exact WL.nil At.os
 iterate 2 refine z ?_
 refine WL.up (s:=9) rfl ((AH _).trans (CQ ((AH _).symm.trans b):decide (a=true)=decide (((!a_1)=true)\/(a=true)))) (R hS ?_)
 exact WL.nil At.os
 refine zz ?_
 exact v1
theorem ZG{a_1:Bool}{a:Bool}{Q:Bool->Prop}(hS:St w0 H L w)(hV:Nk a_1 a Q):
 Cl 128 #[.bool a_1,.bool a] w (pB w0 H L Q):=by
 refine Co func128 ntmps128 ?_
 refine zz ?_
 refine Rn hS (Vv underlying4 rfl rfl) ?_
 refine zz ?_
 exact v1
theorem Aap{c:Value}{a_1:List Val}{a:Ar}{Q:Val->Prop}(b:Bor H cV c a_1 a)(hS:St w0 H (a++L) w)(hV:KP a_1 Q):
 Cl 129 #[c] w (pV w0 H (a++L) Q):=by
 refine BW func129 ntmps129 ?_
 refine zz ?_
 refine aV hS ?_
 intro l w hS
 iterate 2 refine z ?_
 refine WC.drawn (σ:=[0,1,2,3,4,5,6,7,8]) [[],[0],[0,1],[],[3],[3,4],[0,1,2,3,4,5],[0,1,2,3,4,5,6],[0,1,2,3,4,5,6,7]] [6,7,8] mixed (by kernel_rfl) (hS.drawn _) ?_
 refine Dm fun E s=>?_
 obtain⟨f,hV⟩:=hV
 refine Wd.runx rfl rfl rfl rfl (AA (Ag underlying42 sizeOf25 rfl rfl b f)) ?_
 intro u i
 intro x n
 refine Wd.runs (fp:=a) rfl rfl rfl rfl (Ad isAgg25 sizeOf25 rfl i) (fun _ h=>St.f2 h) ?_
 rintro I⟨_,rfl,hu⟩
 obtain⟨J,rfl,d⟩:=Aw hu
 intro A o
 refine Dm fun B p=>?_
 obtain⟨g,hV⟩:=hV
 refine Wd.runx rfl rfl rfl rfl (AA (Ag underlying42 sizeOf25 rfl rfl b g)) ?_
 intro v j
 intro C q
 refine Wd.runs (fp:=a) rfl rfl rfl rfl (Ad isAgg25 sizeOf25 rfl j) (fun _ h=>St.f2 h) ?_
 rintro K⟨_,rfl,hu⟩
 obtain⟨N,rfl,e⟩:=Aw hu
 intro D r
 refine Wd.turn rfl rfl rfl fun w hS=>?_
 refine Rd call130 (ZY d e hS hV) ?_
 rintro _ w⟨F,hV,rfl,hS⟩
 refine WL.nil (DQ.mk2 hS ⟨il,il,il,il,il,il,trivial⟩ ?_)
 refine Wd.turn rfl rfl rfl fun w hS=>?_
 refine Rd call106 (Dn hS hV) ?_
 rintro _ w⟨G,O,k,hV,rfl,t,m,hS⟩
 refine WL.nil (DQ.mk2 hS ⟨il,il,il,il,il,il,trivial⟩ ?_)
 refine Wd.turn rfl rfl rfl fun w hS=>?_
 refine sA hS ?_
 intro w hS
 refine WL.nil (DQ.mk2 hS ⟨il,il,il,il,il,il,trivial⟩ ?_)
 refine Wd.nil fun w hS=>?_
 refine zz ?_
 exact vc
theorem YQ{c:Value}{a_1:List Val}{a:Ar}{Q:Val->Prop}(b:Bor H cV c a_1 a)(hS:St w0 H (a++L) w)(hV:KQ a_1 Q):
 Cl 131 #[c] w (pV w0 H (a++L) Q):=by
 refine BW func131 ntmps131 ?_
 refine zz ?_
 refine aV hS ?_
 intro l w hS
 iterate 2 refine z ?_
 refine WC.drawn (σ:=[0,1,2,3,4,5,6,7,8,9]) [[],[0],[0,1],[],[3],[3,4],[0,1,2,3,4,5],[0,1,2,3,4,5,6],[0,1,2,3,4,5,6,7],[0,1,2,3,4,5,6,7,8]] [6,8,9] mixed (by kernel_rfl) (hS.drawn _) ?_
 refine Dm fun G t=>?_
 obtain⟨f,hV⟩:=hV
 refine Wd.runx rfl rfl rfl rfl (AA (Ag underlying42 sizeOf25 rfl rfl b f)) ?_
 intro v i
 intro A n
 refine Wd.runs (fp:=a) rfl rfl rfl rfl (Ad isAgg25 sizeOf25 rfl i) (fun _ h=>St.f2 h) ?_
 rintro K⟨_,rfl,hu⟩
 obtain⟨N,rfl,d⟩:=Aw hu
 intro B o
 refine Dm fun C p=>?_
 obtain⟨g,hV⟩:=hV
 refine Wd.runx rfl rfl rfl rfl (AA (Ag underlying42 sizeOf25 rfl rfl b g)) ?_
 intro x j
 intro D q
 refine Wd.runs (fp:=a) rfl rfl rfl rfl (Ad isAgg25 sizeOf25 rfl j) (fun _ h=>St.f2 h) ?_
 rintro O⟨_,rfl,hu⟩
 obtain⟨P,rfl,e⟩:=Aw hu
 intro E r
 refine Wd.turn rfl rfl rfl fun w hS=>?_
 refine Rd call130 (ZY d e hS hV) ?_
 rintro _ w⟨I,hV,rfl,hS⟩
 refine WL.nil (DQ.mk2 hS ⟨il,il,il,il,il,il,trivial⟩ ?_)
 refine Wd.run rfl rfl rfl rfl (fun _=>NZ rfl) fun F s=>?_
 refine Wd.turn rfl rfl rfl fun w hS=>?_
 refine Rd call106 (Dn hS hV) ?_
 rintro _ w⟨J,S,k,hV,rfl,u,m,hS⟩
 refine WL.nil (DQ.mk2 hS ⟨il,il,il,il,il,il,il,trivial⟩ ?_)
 refine Wd.turn rfl rfl rfl fun w hS=>?_
 refine sA hS ?_
 intro w hS
 refine WL.nil (DQ.mk2 hS ⟨il,il,il,il,il,il,il,trivial⟩ ?_)
 refine Wd.nil fun w hS=>?_
 refine zz ?_
 exact vc
theorem AbV{a:Aa}{Q:Int->(Option EA)->Prop}(hS:St w0 H L w)(hV:DH a Q):
 Cl 74 #[sv a] w (pO w0 H L Q):=by
 refine BW func74 ntmps74 ?_
 refine zz ?_
 refine aO hS ?_
 intro j w hS
 refine zz ?_
 refine Ce hV ?_ ?_<;>intro u hV
 refine zz ?_
 refine Rn hS (Aq (vs:=[i6 (1:Int),.func (.func 124) #[] #[]]) (zc:=#[i6 0,.nilFunc]) (cs:=#[i6 (1:Int),.func (.func 124) #[] #[]]) (places:=#[(0,1),(1,1)]) underlying78 zeroValue78 (fun w=>by simp[sizeOf3,sizeOf76]) rfl ⟨rfl,rfl,trivial⟩ rfl Zf) ?_
 refine Ee #[i6 (1:Int),.func (.func 124) #[] #[]] sizeOf78 hS ?_
 intro w hS
 have d:=An (P:=Tryz.prog) (cs:=[i6 (1:Int),.func (.func 124) #[] #[]]) isAgg78 sizeOf78 hS rfl
 replace hS:=hS.drop
 refine zz ?_
 exact AZ (il) rfl rfl d (⟨(1:Int),(some (fun x Q=>KU x Q)),(.func (.func 124) #[] #[]),H,hV,rfl,(View.le.refl _),(show I64 (1:Int) by unfold I64;omega),(FvB.A (g:=(fun x Q=>KU x Q)) (caps:=[]) call124 (fun hle hx hS hV=>AaH hx hS hV)),hS⟩)
 refine zz ?_
 refine Ce hV ?_ ?_<;>intro t hV
 refine zz ?_
 refine Rc (As (vs:=[.func (.func 125) #[] #[]]) (caps:=[]) rfl call121 ⟨rfl,trivial⟩) (KB (FvA.BB (g:=(fun x Q=>Nn x.1 x.2 Q)) (caps:=[]) call125 (fun hle hS hV=>ZJ hS hV)) hS hV) ?_
 rintro _ w⟨V,O,a0,e,hV,rfl,E,D,n,hS⟩
 refine⟨_,rfl,?_⟩
 refine sB hS ?_
 intro w hS
 refine zz ?_
 exact vc
 refine zz ?_
 refine Ce hV ?_ ?_<;>intro s hV
 refine zz ?_
 refine Rc (As (vs:=[.func (.func 126) #[] #[]]) (caps:=[]) rfl call121 ⟨rfl,trivial⟩) (KB (FvA.BB (g:=(fun x Q=>Oy x.1 x.2 Q)) (caps:=[]) call126 (fun hle hS hV=>ZD hS hV)) hS hV) ?_
 rintro _ w⟨S,J,W,f,hV,rfl,F,v,k,hS⟩
 refine⟨_,rfl,?_⟩
 refine sB hS ?_
 intro w hS
 refine zz ?_
 exact vc
 refine zz ?_
 refine Ce hV ?_ ?_<;>intro r hV
 refine zz ?_
 refine Rc (As (vs:=[.func (.func 127) #[] #[]]) (caps:=[]) rfl call121 ⟨rfl,trivial⟩) (KB (FvA.BB (g:=(fun x Q=>Nw x.1 x.2 Q)) (caps:=[]) call127 (fun hle hS hV=>YP hS hV)) hS hV) ?_
 rintro _ w⟨T,K,Y,h,hV,rfl,G,B,l,hS⟩
 refine⟨_,rfl,?_⟩
 refine sB hS ?_
 intro w hS
 refine zz ?_
 exact vc
 refine zz ?_
 refine Ce hV ?_ ?_<;>intro q hV
 refine zz ?_
 refine Rc (As (vs:=[.func (.func 128) #[] #[]]) (caps:=[]) rfl call121 ⟨rfl,trivial⟩) (KB (FvA.BB (g:=(fun x Q=>Nk x.1 x.2 Q)) (caps:=[]) call128 (fun hle hS hV=>ZG hS hV)) hS hV) ?_
 rintro _ w⟨U,N,Z,i,hV,rfl,I,C,m,hS⟩
 refine⟨_,rfl,?_⟩
 refine sB hS ?_
 intro w hS
 refine zz ?_
 exact vc
 refine zz ?_
 refine Ce hV ?_ ?_<;>intro p hV
 refine zz ?_
 refine Rn hS (Aq (vs:=[i6 (2:Int),.func (.func 129) #[] #[]]) (zc:=#[i6 0,.nilFunc]) (cs:=#[i6 (2:Int),.func (.func 129) #[] #[]]) (places:=#[(0,1),(1,1)]) underlying78 zeroValue78 (fun w=>by simp[sizeOf3,sizeOf76]) rfl ⟨rfl,rfl,trivial⟩ rfl Zf) ?_
 refine Ee #[i6 (2:Int),.func (.func 129) #[] #[]] sizeOf78 hS ?_
 intro w hS
 have b:=An (P:=Tryz.prog) (cs:=[i6 (2:Int),.func (.func 129) #[] #[]]) isAgg78 sizeOf78 hS rfl
 replace hS:=hS.drop
 refine zz ?_
 exact AZ (il) rfl rfl b (⟨(2:Int),(some (fun x Q=>KP x Q)),(.func (.func 129) #[] #[]),H,hV,rfl,(View.le.refl _),(show I64 (2:Int) by unfold I64;omega),(FvB.A (g:=(fun x Q=>KP x Q)) (caps:=[]) call129 (fun hle hx hS hV=>Aap hx hS hV)),hS⟩)
 refine zz ?_
 refine Ce hV ?_ ?_<;>intro o hV
 refine zz ?_
 refine Rn hS (Aq (vs:=[i6 (2:Int),.func (.func 131) #[] #[]]) (zc:=#[i6 0,.nilFunc]) (cs:=#[i6 (2:Int),.func (.func 131) #[] #[]]) (places:=#[(0,1),(1,1)]) underlying78 zeroValue78 (fun w=>by simp[sizeOf3,sizeOf76]) rfl ⟨rfl,rfl,trivial⟩ rfl Zf) ?_
 refine Ee #[i6 (2:Int),.func (.func 131) #[] #[]] sizeOf78 hS ?_
 intro w hS
 have c:=An (P:=Tryz.prog) (cs:=[i6 (2:Int),.func (.func 131) #[] #[]]) isAgg78 sizeOf78 hS rfl
 replace hS:=hS.drop
 refine zz ?_
 exact AZ (il) rfl rfl c (⟨(2:Int),(some (fun x Q=>KQ x Q)),(.func (.func 131) #[] #[]),H,hV,rfl,(View.le.refl _),(show I64 (2:Int) by unfold I64;omega),(FvB.A (g:=(fun x Q=>KQ x Q)) (caps:=[]) call131 (fun hle hx hS hV=>YQ hx hS hV)),hS⟩)
 refine zz ?_
 refine Rn hS (Aq (vs:=[]) (zc:=#[i6 0,.nilFunc]) (cs:=#[i6 0,.nilFunc]) (places:=#[(0,1),(1,1)]) underlying78 zeroValue78 (fun w=>by simp[sizeOf3,sizeOf76]) rfl trivial rfl Zf) ?_
 refine sB hS ?_
 intro w hS
 refine zz ?_
 exact vc
theorem Sk{l:Value}{a_1:List Val}{d:Ar}{k:Value}{i:Fg (Int×Int) Bool}{Q:Val->Prop}(j:Bor H cV l a_1 d)(q:IsPt H (cA Tryz.prog w0 OQ .bool) k i)(hS:St w0 H (d++L) w)(hV:ES a_1 i Q):
 Cl 133 #[l,k] w (pV w0 H (d++L) Q):=by
 refine Co func133 ntmps133 ?_
 refine zz ?_
 refine aV hS ?_
 intro b_9 w hS
 obtain⟨r,hV⟩:=hV
 refine zz ?_
 refine Rx hS (Ag underlying42 sizeOf25 rfl rfl j r) ?_
 intro U t
 replace hS:=hS.f2
 refine Rx hS (BG (H:=H) (L:=[(b_9,oc #[.nilIface] 25)]++L) (Ad isAgg25 sizeOf25 rfl t)) ?_
 rintro a1⟨_,rfl,hu⟩
 obtain⟨a2,rfl,o⟩:=Aw hu
 refine Rd call134 (Oo o hS hV) ?_
 rintro _ w⟨A,B,hV,rfl,v,hS⟩
 obtain⟨s,hV⟩:=hV
 refine zz ?_
 refine Rx hS (Ag underlying42 sizeOf25 rfl rfl j s) ?_
 intro V u
 refine Rx hS (BG (H:=H) (L:=[(b_9,oc #[.nilIface] 25)]++L) (Ad isAgg25 sizeOf25 rfl u)) ?_
 rintro a3⟨_,rfl,hu⟩
 obtain⟨a4,rfl,p⟩:=Aw hu
 refine Rd call134 (Oo p hS hV) ?_
 rintro _ w⟨C,D,hV,rfl,x,hS⟩
 obtain⟨m,n,hV⟩:=hV
 iterate 6 refine z ?_
 refine WC.meet (fun a w=>∃e c h,m e/\View.le H c/\IsW c h e/\St w0 c ([(b_9,oc #[h] 25)]++(d++L)) w/\Fr 33 [(3,(pq b_9))] a) ?_ ?_
 rintro a w⟨e,c,h,hI,O,I,hS,ha⟩
 refine Ab ha ?_
 have hV:=n _ hI
 refine zz ?_
 exact vc
 refine zz ?_
 rcases DG B with f|f
 replace hV:=hV.1 f
 refine zz ?_
 rcases DG D with b|b
 replace hV:=hV.1 b
 refine Ug b ?_
 refine Rx hS (Bp isAgg156 rfl rfl q) ?_
 intro a5 g
 replace g:=Aee g
 refine zz ?_
 refine Ug b ?_
 refine Rcv (vs:=[i6 A,i6 C]) ⟨rfl,rfl,trivial⟩ (FvA.cII g v x hS hV) ?_
 rintro _ w⟨W,hV,rfl,hS⟩
 refine⟨_,rfl,?_⟩
 refine R hS ?_
 refine Rd call106 (Dn hS hV) ?_
 rintro _ w⟨Y,a6,E,hV,rfl,P,J,hS⟩
 replace hS:=hS.f2
 refine sA hS ?_
 intro w hS
 replace hS:=hS.f2.f2
 refine zz ?_
 exact y
 replace hV:=hV.2 b
 refine zz ?_
 refine Rd call106 (Dn hS hV) ?_
 rintro _ w⟨Z,a7,F,hV,rfl,S,K,hS⟩
 replace hS:=hS.f2
 refine sA hS ?_
 intro w hS
 replace hS:=hS.f2.f2
 refine zz ?_
 exact y
 replace hV:=hV.2 f
 refine zz ?_
 refine Rd call106 (Dn hS hV) ?_
 rintro _ w⟨a0,a8,G,hV,rfl,T,N,hS⟩
 replace hS:=hS.f2
 refine sA hS ?_
 intro w hS
 replace hS:=hS.f2.f2
 refine zz ?_
 exact y
theorem Ho{b:Value}{f_1:Fg (Int×Int) Bool}{Q:Int->(Option EA)->Prop}(d:FvA Tryz.prog w0 OQ .bool H b f_1)(hS:St w0 H L w)(hV:FH f_1 Q):
 Cl 132 #[b] w (pO w0 H L Q):=by
 refine BW func132 ntmps132 ?_
 refine zz ?_
 refine WL.box (arr:=#[b]) rfl rfl (AN (FvA.one d)) hS ?_
 intro a w hS
 refine aO hS ?_
 intro j w hS
 refine zz ?_
 refine Rn hS (AR (vs:=[(pq a)]) ⟨rfl,trivial⟩) ?_
 refine Rn hS (Aq (vs:=[i6 (2:Int),.func (.func 133) #[] #[(pq a)]]) (zc:=#[i6 0,.nilFunc]) (cs:=#[i6 (2:Int),.func (.func 133) #[] #[(pq a)]]) (places:=#[(0,1),(1,1)]) underlying78 zeroValue78 (fun w=>by simp[sizeOf3,sizeOf76]) rfl ⟨rfl,rfl,trivial⟩ rfl (by simp[Instr.fill,Bs,Be,AW,AJ,AX,Br,BA,Dj])) ?_
 refine Ee #[i6 (2:Int),.func (.func 133) #[] #[(pq a)]] sizeOf78 hS ?_
 intro w hS
 replace hS:=hS.f2
 refine zz ?_
 obtain⟨e,i,f,hS⟩:=St.ptbox (c:=(cA Tryz.prog w0 OQ .bool)) (z:=f_1) hS (AcH d)
 have h:=An (P:=Tryz.prog) (cs:=[i6 (2:Int),.func (.func 133) #[] #[(pq a)]]) isAgg78 sizeOf78 hS rfl
 replace hS:=hS.drop
 exact AZ (il) rfl rfl h (⟨(2:Int),(some (fun x Q=>ES x f_1 Q)),(.func (.func 133) #[] #[(pq a)]),e,hV,rfl,((View.le.refl _).trans i),(show I64 (2:Int) by unfold I64;omega),(FvB.A (g:=(fun x Q=>ES x f_1 Q)) (caps:=[(pq a)]) call133 (fun hle hx hS hV=>Sk hx (f.mono hle) hS hV)),hS⟩)
theorem SI{k:Value}{a_1:List Val}{c:Ar}{f:Value}{g:Fg (Int×Int) Val}{Q:Val->Prop}(h:Bor H cV k a_1 c)(o:IsPt H (cB Tryz.prog w0 OQ Mg) f g)(hS:St w0 H (c++L) w)(hV:EU a_1 g Q):
 Cl 136 #[k,f] w (pV w0 H (c++L) Q):=by
 refine Co func136 ntmps136 ?_
 refine zz ?_
 refine aV hS ?_
 intro b_9 w hS
 obtain⟨p,hV⟩:=hV
 refine zz ?_
 refine Rx hS (Ag underlying42 sizeOf25 rfl rfl h p) ?_
 intro D r
 replace hS:=hS.f2
 refine Rx hS (BG (H:=H) (L:=[(b_9,oc #[.nilIface] 25)]++L) (Ad isAgg25 sizeOf25 rfl r)) ?_
 rintro G⟨_,rfl,hu⟩
 obtain⟨I,rfl,l⟩:=Aw hu
 refine Rd call134 (Oo l hS hV) ?_
 rintro _ w⟨i,a,hV,rfl,u,hS⟩
 obtain⟨q,hV⟩:=hV
 refine zz ?_
 refine Rx hS (Ag underlying42 sizeOf25 rfl rfl h q) ?_
 intro E t
 refine Rx hS (BG (H:=H) (L:=[(b_9,oc #[.nilIface] 25)]++L) (Ad isAgg25 sizeOf25 rfl t)) ?_
 rintro J⟨_,rfl,hu⟩
 obtain⟨K,rfl,n⟩:=Aw hu
 refine Rd call134 (Oo n hS hV) ?_
 rintro _ w⟨j,b,hV,rfl,v,hS⟩
 iterate 7 refine z ?_
 refine WC.seq ?_
 refine WC.via (m:=[(1,f),(3,(pq b_9)),(4,i6 i),(6,i6 j),(27,.bool (decide (((!a)=true)\/((!b)=true))))]) ?_ ?_
 refine zz ?_
 rcases DG (!a) with d|d
 iterate 3 refine z ?_
 refine WL.up (s:=27) rfl (Bg ((AH _).symm.trans d):true=decide (((!a)=true)\/((!b)=true))) ?_
 exact WL.nil At.os
 iterate 3 refine z ?_
 refine WL.up (s:=27) rfl ((AH _).trans (CQ ((AH _).symm.trans d):decide ((!b)=true)=decide (((!a)=true)\/((!b)=true)))) ?_
 exact WL.nil At.os
 refine zz ?_
 refine Ce hV ?_ ?_<;>intro B hV
 refine zz ?_
 refine Rn hS bV ?_
 replace hS:=hS.f2
 refine sA hS ?_
 intro w hS
 refine zz ?_
 exact vc
 refine zz ?_
 refine Rx hS (Bp isAgg160 rfl rfl o) ?_
 intro N e
 replace e:=Aan e
 refine zz ?_
 refine Rcv (vs:=[i6 i,i6 j]) ⟨rfl,rfl,trivial⟩ (FvB.cII e u v hS hV) ?_
 rintro _ w⟨F,O,x,hV,rfl,C,A,hS⟩
 refine⟨_,rfl,?_⟩
 replace hS:=hS.f2
 refine sA hS ?_
 intro w hS
 refine zz ?_
 exact vc
theorem Eh{b:Value}{f_1:Fg (Int×Int) Val}{Q:Int->(Option EA)->Prop}(d:FvB Tryz.prog w0 OQ Mg H b f_1)(hS:St w0 H L w)(hV:DK f_1 Q):
 Cl 135 #[b] w (pO w0 H L Q):=by
 refine BW func135 ntmps135 ?_
 refine zz ?_
 refine WL.box (arr:=#[b]) rfl rfl (AN (FvB.one d)) hS ?_
 intro a w hS
 refine aO hS ?_
 intro j w hS
 refine zz ?_
 refine Rn hS (AR (vs:=[(pq a)]) ⟨rfl,trivial⟩) ?_
 refine Rn hS (Aq (vs:=[i6 (2:Int),.func (.func 136) #[] #[(pq a)]]) (zc:=#[i6 0,.nilFunc]) (cs:=#[i6 (2:Int),.func (.func 136) #[] #[(pq a)]]) (places:=#[(0,1),(1,1)]) underlying78 zeroValue78 (fun w=>by simp[sizeOf3,sizeOf76]) rfl ⟨rfl,rfl,trivial⟩ rfl (by simp[Instr.fill,Bs,Be,AW,AJ,AX,Br,BA,Dj])) ?_
 refine Ee #[i6 (2:Int),.func (.func 136) #[] #[(pq a)]] sizeOf78 hS ?_
 intro w hS
 replace hS:=hS.f2
 refine zz ?_
 obtain⟨e,i,f,hS⟩:=St.ptbox (c:=(cB Tryz.prog w0 OQ Mg)) (z:=f_1) hS (Mb d)
 have h:=An (P:=Tryz.prog) (cs:=[i6 (2:Int),.func (.func 136) #[] #[(pq a)]]) isAgg78 sizeOf78 hS rfl
 replace hS:=hS.drop
 exact AZ (il) rfl rfl h (⟨(2:Int),(some (fun x Q=>EU x f_1 Q)),(.func (.func 136) #[] #[(pq a)]),e,hV,rfl,((View.le.refl _).trans i),(show I64 (2:Int) by unfold I64;omega),(FvB.A (g:=(fun x Q=>EU x f_1 Q)) (caps:=[(pq a)]) call136 (fun hle hx hS hV=>SI hx (f.mono hle) hS hV)),hS⟩)
theorem Ty{a_1:Int}{a:Int}{Q:Bool->Prop}(b:I64 a_1)(c:I64 a)(hS:St w0 H L w)(hV:Iw a_1 a Q):
 Cl 137 #[i6 a_1,i6 a] w (pB w0 H L Q):=by
 refine Co func137 ntmps137 ?_
 refine zz ?_
 exact v1
theorem TK{a_1:Int}{a:Int}{Q:Bool->Prop}(b:I64 a_1)(c:I64 a)(hS:St w0 H L w)(hV:Iu a_1 a Q):
 Cl 138 #[i6 a_1,i6 a] w (pB w0 H L Q):=by
 refine Co func138 ntmps138 ?_
 refine zz ?_
 exact v1
theorem SS{a_1:Int}{a:Int}{Q:Bool->Prop}(b:I64 a_1)(c:I64 a)(hS:St w0 H L w)(hV:IC a_1 a Q):
 Cl 139 #[i6 a_1,i6 a] w (pB w0 H L Q):=by
 refine Co func139 ntmps139 ?_
 refine zz ?_
 exact v1
theorem Th{a_1:Int}{a:Int}{Q:Bool->Prop}(b:I64 a_1)(c:I64 a)(hS:St w0 H L w)(hV:Ip a_1 a Q):
 Cl 140 #[i6 a_1,i6 a] w (pB w0 H L Q):=by
 refine Co func140 ntmps140 ?_
 refine zz ?_
 exact v1
theorem Ta{a_1:Int}{a:Int}{Q:Val->Prop}(e:I64 a_1)(f:I64 a)(hS:St w0 H L w)(hV:IF a_1 a Q):
 Cl 141 #[i6 a_1,i6 a] w (pV w0 H L Q):=by
 refine Co func141 ntmps141 ?_
 refine zz ?_
 refine aV hS ?_
 intro c w hS
 refine zz ?_
 refine Rn hS (CI rfl rfl) ?_
 refine Rd call100 (Cz (Ck _) hS hV) ?_
 rintro _ w⟨h,i,b,hV,rfl,g,d,hS⟩
 refine sA hS ?_
 intro w hS
 refine zz ?_
 exact vc
theorem TQ{a_1:Int}{a:Int}{Q:Val->Prop}(e:I64 a_1)(f:I64 a)(hS:St w0 H L w)(hV:IL a_1 a Q):
 Cl 142 #[i6 a_1,i6 a] w (pV w0 H L Q):=by
 refine Co func142 ntmps142 ?_
 refine zz ?_
 refine aV hS ?_
 intro c w hS
 refine zz ?_
 refine Rn hS (EH rfl rfl) ?_
 refine Rd call100 (Cz (Ck _) hS hV) ?_
 rintro _ w⟨h,i,b,hV,rfl,g,d,hS⟩
 refine sA hS ?_
 intro w hS
 refine zz ?_
 exact vc
theorem Td{a_1:Int}{a:Int}{Q:Val->Prop}(e:I64 a_1)(f:I64 a)(hS:St w0 H L w)(hV:Ig a_1 a Q):
 Cl 143 #[i6 a_1,i6 a] w (pV w0 H L Q):=by
 refine Co func143 ntmps143 ?_
 refine zz ?_
 refine aV hS ?_
 intro c w hS
 refine zz ?_
 refine Rn hS (Il rfl rfl) ?_
 refine Rd call100 (Cz (Ck _) hS hV) ?_
 rintro _ w⟨h,i,b,hV,rfl,g,d,hS⟩
 refine sA hS ?_
 intro w hS
 refine zz ?_
 exact vc
theorem QM{a_1:Int}{c:Int}{Q:Val->Prop}(f:I64 a_1)(g:I64 c)(hS:St w0 H L w)(hV:Fj a_1 c Q):
 Cl 145 #[i6 a_1,i6 c] w (pV w0 H L Q):=by
 refine Co func145 ntmps145 ?_
 have c1:=@Cz;have d1:=call100
 refine zz ?_
 refine aV hS ?_
 intro j w hS
 refine zz ?_
 refine Rd call144 (NS f g hS hV) ?_
 rintro _ w⟨r,t,i,hV,rfl,m,d,hS⟩
 refine Rd call134 (Oo d hS hV) ?_
 rintro _ w⟨n,o,hV,rfl,l,hS⟩
 exact Z
theorem Ql{c:Value}{a_1:List Val}{a:Ar}{Q:Val->Prop}(f:Bor H cV c a_1 a)(hS:St w0 H (a++L) w)(hV:Fh a_1 Q):
 Cl 147 #[c] w (pV w0 H (a++L) Q):=by
 refine BW func147 ntmps147 ?_
 refine zz ?_
 refine aV hS ?_
 intro d w hS
 obtain⟨g,hV⟩:=hV
 refine zz ?_
 refine Rx hS (Ag underlying42 sizeOf25 rfl rfl f g) ?_
 intro m h
 replace hS:=hS.f2
 refine Rx hS (BG (H:=H) (L:=[(d,oc #[.nilIface] 25)]++L) (Ad isAgg25 sizeOf25 rfl h)) ?_
 rintro q⟨_,rfl,hu⟩
 obtain⟨r,rfl,e⟩:=Aw hu
 refine Rd call134 (Oo e hS hV) ?_
 rintro _ w⟨n,o,hV,rfl,b,hS⟩
 refine zz ?_
 refine Cf hV ?_ ?_<;>intro k hV
 refine zz ?_
 refine Rn hS (Kj rfl b) ?_
 refine Rd call100 (Cz (GA _ b) hS hV) ?_
 rintro _ w⟨p,s,i,hV,rfl,l,j,hS⟩
 replace hS:=hS.f2
 refine sA hS ?_
 intro w hS
 refine zz ?_
 exact vc
 refine zz ?_
 refine Rn hS bV ?_
 replace hS:=hS.f2
 refine sA hS ?_
 intro w hS
 refine zz ?_
 exact vc
theorem Xw{a:Aa}{Q:Int->(Option EA)->Prop}(hS:St w0 H L w)(hV:Cc a Q):
 Cl 75 #[sv a] w (pO w0 H L Q):=by
 refine BW func75 ntmps75 ?_
 refine zz ?_
 refine aO hS ?_
 intro n w hS
 refine zz ?_
 refine Ce hV ?_ ?_<;>intro T hV
 refine zz ?_
 refine Rc (As (vs:=[.func (.func 137) #[] #[]]) (caps:=[]) rfl call132 ⟨rfl,trivial⟩) (Ho (FvA.II (g:=(fun x Q=>Iw x.1 x.2 Q)) (caps:=[]) call137 (fun hle hx hy hS hV=>Ty hx hy hS hV)) hS hV) ?_
 rintro _ w⟨c9,c0,e1,m,hV,rfl,a5,a2,B,hS⟩
 refine⟨_,rfl,?_⟩
 refine sB hS ?_
 intro w hS
 refine zz ?_
 exact vc
 refine zz ?_
 refine Ce hV ?_ ?_<;>intro S hV
 refine zz ?_
 refine Rc (As (vs:=[.func (.func 138) #[] #[]]) (caps:=[]) rfl call132 ⟨rfl,trivial⟩) (Ho (FvA.II (g:=(fun x Q=>Iu x.1 x.2 Q)) (caps:=[]) call138 (fun hle hx hy hS hV=>TK hx hy hS hV)) hS hV) ?_
 rintro _ w⟨c5,b5,d5,c,hV,rfl,a6,U,o,hS⟩
 refine⟨_,rfl,?_⟩
 refine sB hS ?_
 intro w hS
 refine zz ?_
 exact vc
 refine zz ?_
 refine Ce hV ?_ ?_<;>intro O hV
 refine zz ?_
 refine Rc (As (vs:=[.func (.func 139) #[] #[]]) (caps:=[]) rfl call132 ⟨rfl,trivial⟩) (Ho (FvA.II (g:=(fun x Q=>IC x.1 x.2 Q)) (caps:=[]) call139 (fun hle hx hy hS hV=>SS hx hy hS hV)) hS hV) ?_
 rintro _ w⟨c6,b6,d6,d,hV,rfl,a7,V,p,hS⟩
 refine⟨_,rfl,?_⟩
 refine sB hS ?_
 intro w hS
 refine zz ?_
 exact vc
 refine zz ?_
 refine Ce hV ?_ ?_<;>intro N hV
 refine zz ?_
 refine Rc (As (vs:=[.func (.func 140) #[] #[]]) (caps:=[]) rfl call132 ⟨rfl,trivial⟩) (Ho (FvA.II (g:=(fun x Q=>Ip x.1 x.2 Q)) (caps:=[]) call140 (fun hle hx hy hS hV=>Th hx hy hS hV)) hS hV) ?_
 rintro _ w⟨c7,b7,d7,e,hV,rfl,a8,W,q,hS⟩
 refine⟨_,rfl,?_⟩
 refine sB hS ?_
 intro w hS
 refine zz ?_
 exact vc
 refine zz ?_
 refine Ce hV ?_ ?_<;>intro K hV
 refine zz ?_
 refine Rc (As (vs:=[.func (.func 141) #[] #[]]) (caps:=[]) rfl call135 ⟨rfl,trivial⟩) (Eh (FvB.II (g:=(fun x Q=>IF x.1 x.2 Q)) (caps:=[]) call141 (fun hle hx hy hS hV=>Ta hx hy hS hV)) hS hV) ?_
 rintro _ w⟨c8,b8,d8,f,hV,rfl,a9,Y,r,hS⟩
 refine⟨_,rfl,?_⟩
 refine sB hS ?_
 intro w hS
 refine zz ?_
 exact vc
 refine zz ?_
 refine Ce hV ?_ ?_<;>intro J hV
 refine zz ?_
 refine Rc (As (vs:=[.func (.func 142) #[] #[]]) (caps:=[]) rfl call135 ⟨rfl,trivial⟩) (Eh (FvB.II (g:=(fun x Q=>IL x.1 x.2 Q)) (caps:=[]) call142 (fun hle hx hy hS hV=>TQ hx hy hS hV)) hS hV) ?_
 rintro _ w⟨d0,b9,d9,h,hV,rfl,b0,Z,s,hS⟩
 refine⟨_,rfl,?_⟩
 refine sB hS ?_
 intro w hS
 refine zz ?_
 exact vc
 refine zz ?_
 refine Ce hV ?_ ?_<;>intro I hV
 refine zz ?_
 refine Rc (As (vs:=[.func (.func 143) #[] #[]]) (caps:=[]) rfl call135 ⟨rfl,trivial⟩) (Eh (FvB.II (g:=(fun x Q=>Ig x.1 x.2 Q)) (caps:=[]) call143 (fun hle hx hy hS hV=>Td hx hy hS hV)) hS hV) ?_
 rintro _ w⟨d1,c1,e0,i,hV,rfl,b1,a0,t,hS⟩
 refine⟨_,rfl,?_⟩
 refine sB hS ?_
 intro w hS
 refine zz ?_
 exact vc
 refine zz ?_
 refine Ce hV ?_ ?_<;>intro G hV
 refine zz ?_
 refine Rc (As (vs:=[.func (.func 144) #[] #[]]) (caps:=[]) rfl call135 ⟨rfl,trivial⟩) (Eh (FvB.II (g:=(fun x Q=>FI x.1 x.2 Q)) (caps:=[]) call144 (fun hle hx hy hS hV=>NS hx hy hS hV)) hS hV) ?_
 rintro _ w⟨d2,c2,e2,j,hV,rfl,b2,a1,u,hS⟩
 refine⟨_,rfl,?_⟩
 refine sB hS ?_
 intro w hS
 refine zz ?_
 exact vc
 refine zz ?_
 refine Ce hV ?_ ?_<;>intro F hV
 refine zz ?_
 refine Rc (As (vs:=[.func (.func 145) #[] #[]]) (caps:=[]) rfl call135 ⟨rfl,trivial⟩) (Eh (FvB.II (g:=(fun x Q=>Fj x.1 x.2 Q)) (caps:=[]) call145 (fun hle hx hy hS hV=>QM hx hy hS hV)) hS hV) ?_
 rintro _ w⟨d3,c3,e3,k,hV,rfl,b3,a3,v,hS⟩
 refine⟨_,rfl,?_⟩
 refine sB hS ?_
 intro w hS
 refine zz ?_
 exact vc
 refine zz ?_
 refine Ce hV ?_ ?_<;>intro E hV
 refine zz ?_
 refine Rc (As (vs:=[.func (.func 146) #[] #[]]) (caps:=[]) rfl call135 ⟨rfl,trivial⟩) (Eh (FvB.II (g:=(fun x Q=>Qe x.1 x.2 Q)) (caps:=[]) call146 (fun hle hx hy hS hV=>AcS hx hy hS hV)) hS hV) ?_
 rintro _ w⟨d4,c4,e4,l,hV,rfl,b4,a4,C,hS⟩
 refine⟨_,rfl,?_⟩
 refine sB hS ?_
 intro w hS
 refine zz ?_
 exact vc
 refine zz ?_
 refine Ce hV ?_ ?_<;>intro D hV
 refine zz ?_
 refine Rn hS (Aq (vs:=[i6 (1:Int),.func (.func 147) #[] #[]]) (zc:=#[i6 0,.nilFunc]) (cs:=#[i6 (1:Int),.func (.func 147) #[] #[]]) (places:=#[(0,1),(1,1)]) underlying78 zeroValue78 (fun w=>by simp[sizeOf3,sizeOf76]) rfl ⟨rfl,rfl,trivial⟩ rfl Zf) ?_
 refine Ee #[i6 (1:Int),.func (.func 147) #[] #[]] sizeOf78 hS ?_
 intro w hS
 have b:=An (P:=Tryz.prog) (cs:=[i6 (1:Int),.func (.func 147) #[] #[]]) isAgg78 sizeOf78 hS rfl
 replace hS:=hS.drop
 refine zz ?_
 exact AZ (il) rfl rfl b (⟨(1:Int),(some (fun x Q=>Fh x Q)),(.func (.func 147) #[] #[]),H,hV,rfl,(View.le.refl _),(show I64 (1:Int) by unfold I64;omega),(FvB.A (g:=(fun x Q=>Fh x Q)) (caps:=[]) call147 (fun hle hx hS hV=>Ql hx hS hV)),hS⟩)
 refine zz ?_
 refine Rn hS (Aq (vs:=[]) (zc:=#[i6 0,.nilFunc]) (cs:=#[i6 0,.nilFunc]) (places:=#[(0,1),(1,1)]) underlying78 zeroValue78 (fun w=>by simp[sizeOf3,sizeOf76]) rfl trivial rfl Zf) ?_
 refine sB hS ?_
 intro w hS
 refine zz ?_
 exact vc
theorem Yw{f:Value}{s_1:List Val}{g:Value}{i:Fg Val Bool}{Q:Int->Prop}(d:IsSl H cV f s_1)(m:FvA Tryz.prog w0 arV .bool H g i)(hS:St w0 H L w)(hV:Na s_1 i Q):
 Cl 202 #[f,g] w (pI w0 H L Q):=by
 refine Co func202 ntmps202 ?_
 have o:=d.bound
 replace hV:=hV o
 refine zz ?_
 refine Rn hS (Ao underlying42 rfl d) ?_
 obtain⟨j,t,A,hV⟩:=hV
 refine zz ?_
 refine WC.loop (σ:=Int) (fun s a w=>∃c,s=c/\j c/\I64 c/\St w0 H (L) w/\Fr 19 [(0,f),(1,g),(7,i6 (s_1.length:Int)),(8,i6 c)] a) t (0:Int) ?_ ?_
 exact y
 rintro c a w⟨_,rfl,hI,C,hS,ha⟩
 refine Ab ha ?_
 replace hV:=hV _ hI
 refine zz ?_
 refine Ce hV ?_ ?_<;>intro B hV
 obtain⟨n,hV⟩:=hV
 refine zz ?_
 refine Rx hS (Au underlying42 sizeOf25 rfl rfl d n) ?_
 intro D r
 refine Rx hS (AE isAgg25 sizeOf25 rfl r) ?_
 rintro F⟨_,rfl,hu⟩
 obtain⟨x,rfl,l⟩:=Aw hu
 refine Rcv (vs:=[.agg #[x]]) ⟨rfl,trivial⟩ (FvA.cV m l hS hV) ?_
 rintro _ w⟨E,hV,rfl,hS⟩
 refine⟨_,rfl,?_⟩
 exact Z
 refine zz ?_
 exact v1
theorem TO{b:Value}{s_1:List Val}{c:Value}{a:Fg Val Bool}{Q:Bool->Prop}(d:IsSl H cV b s_1)(e:FvA Tryz.prog w0 arV .bool H c a)(hS:St w0 H L w)(hV:Iv s_1 a Q):
 Cl 158 #[b,c] w (pB w0 H L Q):=by
 refine Co func158 ntmps158 ?_
 refine zz ?_
 refine Rd call202 (Yw d e hS hV) ?_
 rintro _ w⟨g,hV,rfl,f,hS⟩
 refine zz ?_
 exact v1
theorem AaF{h:Value}{d:List Val}{i:Value}{t:Fg Val Bool}{Q:Val->Prop}(m:IsSl H cV h d)(C:FvA Tryz.prog w0 arV .bool H i t)(hS:St w0 H L w)(hV:RC d t Q):
 Cl 163 #[h,i] w (pV w0 H L Q):=by
 refine Co func163 ntmps163 ?_
 refine zz ?_
 refine aV hS ?_
 intro g w hS
 have E:=m.bound
 replace hV:=hV E
 refine zz ?_
 refine Rn hS (Ao underlying42 rfl m) ?_
 replace hS:=hS.nilseg
 replace hS:=hS.f2
 obtain⟨u,G,S,hV⟩:=hV
 refine zz ?_
 refine WC.loop (σ:=(List (Val))×Int) (fun s a w=>∃e b j l,s=(e,b)/\u (e,b)/\OwnSl H cV 25 j e l/\I64 b/\St w0 H ([(g,oc #[.nilIface] 25)]++(l++L)) w/\Fr 24 [(1,i),(4,(pq g)),(5,j),(8,h),(9,i6 (d.length:Int)),(10,i6 b)] a) G (([]:List (Val)),(0:Int)) ?_ ?_
 exact y
 rintro _ a w⟨e,b,j,l,rfl,hI,q,a0,hS,ha⟩
 refine Ab ha ?_
 replace hV:=hV _ hI
 refine zz ?_
 refine Ce hV ?_ ?_<;>intro Y hV
 obtain⟨v,x,hV⟩:=hV
 iterate 2 refine z ?_
 refine WC.meet (fun a w=>∃n o k,v n/\OwnSl H cV 25 o n k/\St w0 H ([(g,oc #[.nilIface] 25)]++(k++L)) w/\Fr 24 [(1,i),(4,(pq g)),(5,o),(8,h),(9,i6 (d.length:Int)),(10,i6 b)] a) ?_ ?_
 rintro a w⟨n,o,k,hI,T,hS,ha⟩
 refine Ab ha ?_
 have hV:=x _ hI
 obtain⟨Z,hV⟩:=hV
 replace hS:=hS.f2.f2
 refine zz ?_
 exact y
 obtain⟨D,hV⟩:=hV
 refine zz ?_
 refine Rx hS (Au underlying42 sizeOf25 rfl rfl m D) ?_
 intro a3 F
 refine Rx hS (AE isAgg25 sizeOf25 rfl F) ?_
 rintro a6⟨_,rfl,hu⟩
 obtain⟨f,rfl,p⟩:=Aw hu
 refine aV hS ?_
 intro N w hS
 refine sA hS ?_
 intro w hS
 refine zz ?_
 refine Rn hS (Ac (cs:=[f]) isAgg25 sizeOf25 rfl rfl rfl) ?_
 refine Rcv (vs:=[.agg #[f]]) ⟨rfl,trivial⟩ (FvA.cV C p hS hV) ?_
 rintro _ w⟨a4,hV,rfl,hS⟩
 refine⟨_,rfl,?_⟩
 refine zz ?_
 refine Cf hV ?_ ?_<;>intro W hV
 refine zz ?_
 refine Rn hS (Ac (cs:=[f]) isAgg25 sizeOf25 rfl rfl rfl) ?_
 refine WL.builds (c:=cV) (xs:=[(ix d b)]) (vs:=[.agg #[f]]) (css:=[[f]]) rfl underlying42 info25 rfl ⟨rfl,trivial⟩ rfl (by decide) rfl (by simp;rfl) ⟨[f],_,rfl,(BZ p),rfl⟩ hS rfl (by decide) ?_
 intro a8 w O A hS
 obtain⟨r,hV⟩:=hV
 replace hS:=hS.f4
 refine WL.append (c:=cV) (xs:=e) (ys:=([(ix d b)])) rfl underlying42 info25 rfl rfl rfl hS q (A.src hS.f2) r.1 r.2 ?_
 intro a9 w P U hS
 replace hS:=hS.f2.drop
 replace hS:=hS.f2.drop
 replace hS:=hS.f2
 refine zz ?_
 exact y
 replace hS:=hS.drop
 replace hS:=hS.f2.f2
 refine zz ?_
 exact y
 replace hS:=hS.f2
 refine zz ?_
 obtain⟨I,a1,B,hS⟩:∃K,View.le H K/\IsSl K cV j e/\St w0 K ([(g,oc #[.nilIface] 25)]++L) w:=⟨_,hS.put_le,q.share hS.put_le,hS.freeze⟩
 refine Rd call99 (IK B hS hV) ?_
 rintro _ w⟨a5,a7,J,hV,rfl,a2,V,hS⟩
 refine sA hS ?_
 intro w hS
 refine zz ?_
 exact vc
theorem Yn{l:Value}{a_1:List Val}{c:Ar}{f:Value}{g:Fg (List Val×List Val) Val}{Q:Val->Prop}(h:Bor H cV l a_1 c)(u:IsPt H (cB Tryz.prog w0 Zn Mg) f g)(hS:St w0 H (c++L) w)(hV:HL a_1 g Q):
 Cl 149 #[l,f] w (pV w0 H (c++L) Q):=by
 refine Co func149 ntmps149 ?_
 refine zz ?_
 refine aV hS ?_
 intro b_9 w hS
 obtain⟨v,hV⟩:=hV
 refine zz ?_
 refine Rx hS (Ag underlying42 sizeOf25 rfl rfl h v) ?_
 intro I A
 replace hS:=hS.f2
 refine Rx hS (BG (H:=H) (L:=[(b_9,oc #[.nilIface] 25)]++L) (Ad isAgg25 sizeOf25 rfl A)) ?_
 rintro P⟨_,rfl,hu⟩
 obtain⟨S,rfl,p⟩:=Aw hu
 refine Rd call150 (Db p hS hV) ?_
 rintro _ w⟨K,a,k,o,hV,rfl,i,q,hS⟩
 obtain⟨x,hV⟩:=hV
 refine zz ?_
 refine Rx hS (Ag underlying42 sizeOf25 rfl rfl (h.mono i) x) ?_
 intro J B
 refine Rx hS (BG (H:=o) (L:=[(b_9,oc #[.nilIface] 25)]++L) (Ad isAgg25 sizeOf25 rfl B)) ?_
 rintro T⟨_,rfl,hu⟩
 obtain⟨U,rfl,r⟩:=Aw hu
 refine Rd call150 (Db r hS hV) ?_
 rintro _ w⟨N,b,n,C,hV,rfl,j,t,hS⟩
 iterate 7 refine z ?_
 refine WC.seq ?_
 refine WC.via (m:=[(1,f),(3,(pq b_9)),(4,k),(6,n),(27,.bool (decide (((!a)=true)\/((!b)=true))))]) ?_ ?_
 refine zz ?_
 rcases DG (!a) with d|d
 iterate 3 refine z ?_
 refine WL.up (s:=27) rfl (Bg ((AH _).symm.trans d):true=decide (((!a)=true)\/((!b)=true))) ?_
 exact WL.nil At.os
 iterate 3 refine z ?_
 refine WL.up (s:=27) rfl ((AH _).trans (CQ ((AH _).symm.trans d):decide ((!b)=true)=decide (((!a)=true)\/((!b)=true)))) ?_
 exact WL.nil At.os
 refine zz ?_
 refine Ce hV ?_ ?_<;>intro F hV
 refine zz ?_
 refine Rn hS bV ?_
 replace hS:=hS.f2
 refine sA hS ?_
 intro w hS
 refine zz ?_
 exact vc
 refine zz ?_
 refine Rx hS (Bp isAgg107 rfl rfl ((u.mono i).mono j)) ?_
 intro V e
 replace e:=Aan e
 refine zz ?_
 refine Rcv (vs:=[k,n]) ⟨rfl,rfl,trivial⟩ (FvB.cLL e (q.mono j) t hS hV) ?_
 rintro _ w⟨O,W,D,hV,rfl,G,E,hS⟩
 refine⟨_,rfl,?_⟩
 replace hS:=hS.f2
 refine sA hS ?_
 intro w hS
 refine zz ?_
 exact vc
theorem MB{b:Value}{f_1:Fg (List Val×List Val) Val}{Q:Int->(Option EA)->Prop}(d:FvB Tryz.prog w0 Zn Mg H b f_1)(hS:St w0 H L w)(hV:Kf f_1 Q):
 Cl 148 #[b] w (pO w0 H L Q):=by
 refine BW func148 ntmps148 ?_
 refine zz ?_
 refine WL.box (arr:=#[b]) rfl rfl (AN (FvB.one d)) hS ?_
 intro a w hS
 refine aO hS ?_
 intro j w hS
 refine zz ?_
 refine Rn hS (AR (vs:=[(pq a)]) ⟨rfl,trivial⟩) ?_
 refine Rn hS (Aq (vs:=[i6 (2:Int),.func (.func 149) #[] #[(pq a)]]) (zc:=#[i6 0,.nilFunc]) (cs:=#[i6 (2:Int),.func (.func 149) #[] #[(pq a)]]) (places:=#[(0,1),(1,1)]) underlying78 zeroValue78 (fun w=>by simp[sizeOf3,sizeOf76]) rfl ⟨rfl,rfl,trivial⟩ rfl (by simp[Instr.fill,Bs,Be,AW,AJ,AX,Br,BA,Dj])) ?_
 refine Ee #[i6 (2:Int),.func (.func 149) #[] #[(pq a)]] sizeOf78 hS ?_
 intro w hS
 replace hS:=hS.f2
 refine zz ?_
 obtain⟨e,i,f,hS⟩:=St.ptbox (c:=(cB Tryz.prog w0 Zn Mg)) (z:=f_1) hS (Mb d)
 have h:=An (P:=Tryz.prog) (cs:=[i6 (2:Int),.func (.func 149) #[] #[(pq a)]]) isAgg78 sizeOf78 hS rfl
 replace hS:=hS.drop
 exact AZ (il) rfl rfl h (⟨(2:Int),(some (fun x Q=>HL x f_1 Q)),(.func (.func 149) #[] #[(pq a)]),e,hV,rfl,((View.le.refl _).trans i),(show I64 (2:Int) by unfold I64;omega),(FvB.A (g:=(fun x Q=>HL x f_1 Q)) (caps:=[(pq a)]) call149 (fun hle hx hS hV=>Yn hx (f.mono hle) hS hV)),hS⟩)
theorem YC{e:Value}{a_1:List Val}{a:Ar}{d:Value}{c:Fg (List Val) Val}{Q:Val->Prop}(h:Bor H cV e a_1 a)(i:IsPt H (cB Tryz.prog w0 arL Mg) d c)(hS:St w0 H (a++L) w)(hV:HZ a_1 c Q):
 Cl 152 #[e,d] w (pV w0 H (a++L) Q):=by
 refine Co func152 ntmps152 ?_
 refine zz ?_
 refine aV hS ?_
 intro b_9 w hS
 obtain⟨j,hV⟩:=hV
 refine zz ?_
 refine Rx hS (Ag underlying42 sizeOf25 rfl rfl h j) ?_
 intro s k
 replace hS:=hS.f2
 refine Rx hS (BG (H:=H) (L:=[(b_9,oc #[.nilIface] 25)]++L) (Ad isAgg25 sizeOf25 rfl k)) ?_
 rintro x⟨_,rfl,hu⟩
 obtain⟨A,rfl,f⟩:=Aw hu
 refine Rd call150 (Db f hS hV) ?_
 rintro _ w⟨t,u,m,n,hV,rfl,l,g,hS⟩
 refine zz ?_
 refine Cf hV ?_ ?_<;>intro q hV
 refine zz ?_
 refine Rx hS (Bp isAgg76 rfl rfl (i.mono l)) ?_
 intro B b
 replace b:=Aan b
 refine R hS ?_
 refine Rcv (vs:=[m]) ⟨rfl,trivial⟩ (FvB.cL b g hS hV) ?_
 rintro _ w⟨v,C,o,hV,rfl,r,p,hS⟩
 refine⟨_,rfl,?_⟩
 replace hS:=hS.f2
 refine sA hS ?_
 intro w hS
 refine zz ?_
 exact vc
 refine zz ?_
 refine Rn hS bV ?_
 replace hS:=hS.f2
 refine sA hS ?_
 intro w hS
 refine zz ?_
 exact vc
theorem QJ{b:Value}{f_1:Fg (List Val) Val}{Q:Int->(Option EA)->Prop}(d:FvB Tryz.prog w0 arL Mg H b f_1)(hS:St w0 H L w)(hV:Mo f_1 Q):
 Cl 151 #[b] w (pO w0 H L Q):=by
 refine BW func151 ntmps151 ?_
 refine zz ?_
 refine WL.box (arr:=#[b]) rfl rfl (AN (FvB.one d)) hS ?_
 intro a w hS
 refine aO hS ?_
 intro j w hS
 refine zz ?_
 refine Rn hS (AR (vs:=[(pq a)]) ⟨rfl,trivial⟩) ?_
 refine Rn hS (Aq (vs:=[i6 (1:Int),.func (.func 152) #[] #[(pq a)]]) (zc:=#[i6 0,.nilFunc]) (cs:=#[i6 (1:Int),.func (.func 152) #[] #[(pq a)]]) (places:=#[(0,1),(1,1)]) underlying78 zeroValue78 (fun w=>by simp[sizeOf3,sizeOf76]) rfl ⟨rfl,rfl,trivial⟩ rfl (by simp[Instr.fill,Bs,Be,AW,AJ,AX,Br,BA,Dj])) ?_
 refine Ee #[i6 (1:Int),.func (.func 152) #[] #[(pq a)]] sizeOf78 hS ?_
 intro w hS
 replace hS:=hS.f2
 refine zz ?_
 obtain⟨e,i,f,hS⟩:=St.ptbox (c:=(cB Tryz.prog w0 arL Mg)) (z:=f_1) hS (Mb d)
 have h:=An (P:=Tryz.prog) (cs:=[i6 (1:Int),.func (.func 152) #[] #[(pq a)]]) isAgg78 sizeOf78 hS rfl
 replace hS:=hS.drop
 exact AZ (il) rfl rfl h (⟨(1:Int),(some (fun x Q=>HZ x f_1 Q)),(.func (.func 152) #[] #[(pq a)]),e,hV,rfl,((View.le.refl _).trans i),(show I64 (1:Int) by unfold I64;omega),(FvB.A (g:=(fun x Q=>HZ x f_1 Q)) (caps:=[(pq a)]) call152 (fun hle hx hS hV=>YC hx (f.mono hle) hS hV)),hS⟩)
theorem Aca{b:Value}{a_1:List Val}{a:Ar}{Q:Val->Prop}(d:Bor H cV b a_1 a)(hS:St w0 H (a++L) w)(hV:Mz a_1 Q):
 Cl 153 #[b] w (pV w0 H (a++L) Q):=by
 refine BW func153 ntmps153 ?_
 refine zz ?_
 refine aV hS ?_
 intro f w hS
 replace hS:=hS.f2
 refine zz ?_
 refine Rd call154 (FJ d hS hV) ?_
 rintro _ w⟨k,m,g,hV,rfl,c,hS⟩
 refine Rd call60 (HA c hS hV) ?_
 rintro _ w⟨j,l,e,hV,rfl,i,h,hS⟩
 replace hS:=hS.f2
 refine sA hS ?_
 intro w hS
 refine zz ?_
 exact vc
theorem Abu{j:Value}{a_1:List Val}{e:Ar}{Q:Val->Prop}(i:Bor H cV j a_1 e)(hS:St w0 H (e++L) w)(hV:MS a_1 Q):
 Cl 155 #[j] w (pV w0 H (e++L) Q):=by
 refine BW func155 ntmps155 ?_
 refine zz ?_
 refine aV hS ?_
 intro d w hS
 obtain⟨q,hV⟩:=hV
 refine zz ?_
 refine Rx hS (Ag underlying42 sizeOf25 rfl rfl i q) ?_
 intro I r
 replace hS:=hS.f2
 refine Rx hS (BG (H:=H) (L:=[(d,oc #[.nilIface] 25)]++L) (Ad isAgg25 sizeOf25 rfl r)) ?_
 rintro P⟨_,rfl,hu⟩
 obtain⟨S,rfl,m⟩:=Aw hu
 refine Rd call150 (Db m hS hV) ?_
 rintro _ w⟨J,u,v_15,h,hV,rfl,t,n,hS⟩
 obtain⟨k,l,hV⟩:=hV
 iterate 6 refine z ?_
 refine WC.meet (fun a w=>∃f c g,k f/\View.le h c/\IsW c g f/\St w0 c ([(d,oc #[g] 25)]++(e++L)) w/\Fr 21 [(2,(pq d))] a) ?_ ?_
 rintro a w⟨f,c,g,hI,D,A,hS,ha⟩
 refine Ab ha ?_
 have hV:=l _ hI
 refine zz ?_
 exact vc
 refine zz ?_
 rcases DG u with b|b
 replace hV:=hV.1 b
 refine zz ?_
 refine Ug b ?_
 obtain⟨p,hV⟩:=hV
 refine Rx hS (Ag underlying42 sizeOf25 rfl rfl (i.mono t) p) ?_
 intro G s
 refine Ug b ?_
 refine Rx hS (BG (H:=h) (L:=[(d,oc #[.nilIface] 25)]++L) (Ad isAgg25 sizeOf25 rfl s)) ?_
 rintro T⟨_,rfl,hu⟩
 obtain⟨U,rfl,o⟩:=Aw hu
 refine Ug b ?_
 refine Rd call156 (Vz n o hS hV) ?_
 rintro _ w⟨K,hV,rfl,hS⟩
 refine R hS ?_
 refine Rd call106 (Dn hS hV) ?_
 rintro _ w⟨N,V,v,hV,rfl,E,B,hS⟩
 replace hS:=hS.f2
 refine sA hS ?_
 intro w hS
 replace hS:=hS.f2.f2
 refine zz ?_
 exact y
 replace hV:=hV.2 b
 refine zz ?_
 refine Rd call106 (Dn hS hV) ?_
 rintro _ w⟨O,W,x,hV,rfl,F,C,hS⟩
 replace hS:=hS.f2
 refine sA hS ?_
 intro w hS
 replace hS:=hS.f2.f2
 refine zz ?_
 exact y
theorem YX{v_1:Val}{a:Value}{d:Value}{c:List Val}{Q:Bool->Prop}(e:IsW H a v_1)(f:IsPt H (JR cV) d c)(hS:St w0 H L w)(hV:NJ v_1 c Q):
 Cl 159 #[.agg #[a],d] w (pB w0 H L Q):=by
 refine Co func159 ntmps159 ?_
 refine zz ?_
 refine WL.box (arr:=#[a]) rfl rfl rfl hS ?_
 intro g w hS
 refine zz ?_
 refine Rx hS (Bp isAgg42 rfl rfl f) ?_
 intro i b
 replace b:=Bq b
 refine Rn hS (Ac (cs:=[a]) isAgg25 sizeOf25 rfl rfl rfl) ?_
 refine Rd call156 (Vz b e hS hV) ?_
 rintro _ w⟨h,hV,rfl,hS⟩
 replace hS:=hS.drop
 refine zz ?_
 exact v1
theorem Abh{n:Value}{a_1:List Val}{f:Ar}{Q:Val->Prop}(l:Bor H cV n a_1 f)(hS:St w0 H (f++L) w)(hV:Mu a_1 Q):
 Cl 157 #[n] w (pV w0 H (f++L) Q):=by
 refine BW func157 ntmps157 ?_
 refine zz ?_
 refine aV hS ?_
 intro e w hS
 obtain⟨C,hV⟩:=hV
 refine zz ?_
 refine Rx hS (Ag underlying42 sizeOf25 rfl rfl l C) ?_
 intro a4 D
 replace hS:=hS.f2
 refine Rx hS (BG (H:=H) (L:=[(e,oc #[.nilIface] 25)]++L) (Ad isAgg25 sizeOf25 rfl D)) ?_
 rintro b0⟨_,rfl,hu⟩
 obtain⟨b1,rfl,s⟩:=Aw hu
 refine Rd call150 (Db s hS hV) ?_
 rintro _ w⟨a5,J,v_15,o,hV,rfl,F,t,hS⟩
 obtain⟨B,hV⟩:=hV
 refine zz ?_
 refine Rx hS (Ag underlying42 sizeOf25 rfl rfl (l.mono F) B) ?_
 intro a3 E
 refine Rx hS (BG (H:=o) (L:=[(e,oc #[.nilIface] 25)]++L) (Ad isAgg25 sizeOf25 rfl E)) ?_
 rintro b2⟨_,rfl,hu⟩
 obtain⟨b3,rfl,u⟩:=Aw hu
 refine Rd call150 (Db u hS hV) ?_
 rintro _ w⟨m,K,b7,p,hV,rfl,G,v,hS⟩
 refine zz ?_
 refine WL.alloc (arr:=#[ns]) rfl zeroValue42 rfl hS ?_
 intro k w hS
 refine sA hS ?_
 intro w hS
 obtain⟨q,r,hV⟩:=hV
 iterate 2 refine z ?_
 refine WC.meet (fun a w=>∃h d j,q h/\View.le p d/\IsW d j h/\St w0 d ([(e,oc #[j] 25)]++(f++L)) w/\Fr 32 [(2,(pq e))] a) ?_ ?_
 rintro a w⟨h,d,j,hI,Z,T,hS,ha⟩
 refine Ab ha ?_
 have hV:=r _ hI
 refine zz ?_
 exact vc
 refine zz ?_
 rcases DG J with i|i
 replace hV:=hV.1 i
 refine zz ?_
 rcases DG K with b|b
 replace hV:=hV.1 b
 refine R hS ?_
 refine Ug b ?_
 refine Rn hS (AR (vs:=[(pq k)]) ⟨rfl,trivial⟩) ?_
 refine Ug b ?_
 obtain⟨N,I,A,hS⟩:=St.ptbox (c:=(JR cV)) (z:=m) hS (HE v)
 refine Rd call158 (TO ((t.mono G).mono I) (FvA.V (g:=(fun x Q=>NJ x m Q)) (caps:=[(pq k)]) call159 (fun hle hx hS hV=>YX hx (A.mono hle) hS hV)) hS hV) ?_
 rintro _ w⟨a6,hV,rfl,hS⟩
 refine zz ?_
 refine Rd call106 (Dn hS hV) ?_
 rintro _ w⟨a7,b4,O,hV,rfl,a0,U,hS⟩
 replace hS:=hS.f2
 refine sA hS ?_
 intro w hS
 replace hS:=hS.f2.f2
 refine zz ?_
 exact y
 replace hV:=hV.2 b
 refine zz ?_
 refine Rd call106 (Dn hS hV) ?_
 rintro _ w⟨a8,b5,P,hV,rfl,a1,W,hS⟩
 replace hS:=hS.f3
 refine sA hS ?_
 intro w hS
 replace hS:=hS.f2.drop
 replace hS:=hS.f2.f2
 refine zz ?_
 exact y
 replace hV:=hV.2 i
 refine zz ?_
 refine Rd call106 (Dn hS hV) ?_
 rintro _ w⟨a9,b6,S,hV,rfl,a2,Y,hS⟩
 replace hS:=hS.f3
 refine sA hS ?_
 intro w hS
 replace hS:=hS.f2.drop
 replace hS:=hS.f2.f2
 refine zz ?_
 exact y
theorem Aba{b:Value}{a_1:List Val}{d:Value}{a:List Val}{Q:Val->Prop}(i:IsSl H cV b a_1)(j:IsSl H cV d a)(hS:St w0 H L w)(hV:Ra a_1 a Q):
 Cl 160 #[b,d] w (pV w0 H L Q):=by
 refine Co func160 ntmps160 ?_
 refine zz ?_
 refine aV hS ?_
 intro e w hS
 refine zz ?_
 refine WL.buildn (c:=(Rt cV ([]:Ar))) (xs:=[a_1,a]) (vs:=[b,d]) rfl underlying204 info42 rfl rfl ⟨rfl,rfl,trivial⟩ rfl ⟨_,_,rfl,(IQ (IsSl.bor i)),⟨_,_,rfl,(IQ (IsSl.bor j)),rfl⟩⟩ hS rfl ?_
 intro k w n f hS
 obtain⟨l,q,g,hS⟩:∃K,View.le H K/\IsSl K (Rt cV ([]:Ar)) k ([a_1,a])/\St w0 K ([(e,oc #[.nilIface] 25)]++L) w:=⟨_,hS.put_le,f.share hS.put_le,hS.freeze⟩
 refine Rd call161 (Lw (L:=[(e,oc #[.nilIface] 25)]++L) g hS hV) ?_
 rintro _ w⟨s,v,o,hV,rfl,h,hS⟩
 simp only[List.nil_append] at hS
 refine Rd call60 (HA h hS hV) ?_
 rintro _ w⟨t,u,m,hV,rfl,r,p,hS⟩
 refine sA hS ?_
 intro w hS
 refine zz ?_
 exact vc
theorem YR{v_1:Val}{a:Value}{d:Value}{c:List Val}{Q:Bool->Prop}(e:IsW H a v_1)(f:IsPt H (JR cV) d c)(hS:St w0 H L w)(hV:NR v_1 c Q):
 Cl 164 #[.agg #[a],d] w (pB w0 H L Q):=by
 refine Co func164 ntmps164 ?_
 refine zz ?_
 refine WL.box (arr:=#[a]) rfl rfl rfl hS ?_
 intro g w hS
 refine zz ?_
 refine Rx hS (Bp isAgg42 rfl rfl f) ?_
 intro i b
 replace b:=Bq b
 refine Rn hS (Ac (cs:=[a]) isAgg25 sizeOf25 rfl rfl rfl) ?_
 refine Rd call156 (Vz b e hS hV) ?_
 rintro _ w⟨h,hV,rfl,hS⟩
 replace hS:=hS.drop
 refine zz ?_
 exact v1
theorem Aci{f:Value}{a_1:List Val}{b:Value}{a:List Val}{Q:Val->Prop}(i:IsSl H cV f a_1)(e:IsSl H cV b a)(hS:St w0 H L w)(hV:Qh a_1 a Q):
 Cl 162 #[f,b] w (pV w0 H L Q):=by
 refine Co func162 ntmps162 ?_
 refine zz ?_
 refine WL.box (arr:=#[b]) rfl rfl (AN (IsSl.one e)) hS ?_
 intro d w hS
 refine aV hS ?_
 intro b_9 w hS
 refine zz ?_
 refine Rn hS (AR (vs:=[(pq d)]) ⟨rfl,trivial⟩) ?_
 replace hS:=hS.f2
 obtain⟨k,j,h,hS⟩:=St.ptbox (c:=(JR cV)) (z:=a) hS (HE e)
 refine Rd call163 (AaF (i.mono j) (FvA.V (g:=(fun x Q=>NR x a Q)) (caps:=[(pq d)]) call164 (fun hle hx hS hV=>YR hx (h.mono hle) hS hV)) hS hV) ?_
 rintro _ w⟨o,p,l,hV,rfl,n,m,hS⟩
 refine sA hS ?_
 intro w hS
 refine zz ?_
 exact vc
theorem Aax{v_1:Val}{a:Value}{d:Value}{c:List Val}{Q:Bool->Prop}(e:IsW H a v_1)(f:IsPt H (JR cV) d c)(hS:St w0 H L w)(hV:NU v_1 c Q):
 Cl 166 #[.agg #[a],d] w (pB w0 H L Q):=by
 refine Co func166 ntmps166 ?_
 refine zz ?_
 refine WL.box (arr:=#[a]) rfl rfl rfl hS ?_
 intro g w hS
 refine zz ?_
 refine Rx hS (Bp isAgg42 rfl rfl f) ?_
 intro i b
 replace b:=Bq b
 refine Rn hS (Ac (cs:=[a]) isAgg25 sizeOf25 rfl rfl rfl) ?_
 refine Rd call156 (Vz b e hS hV) ?_
 rintro _ w⟨h,hV,rfl,hS⟩
 replace hS:=hS.drop
 refine zz ?_
 exact v1
theorem Abz{f:Value}{a_1:List Val}{b:Value}{a:List Val}{Q:Val->Prop}(i:IsSl H cV f a_1)(e:IsSl H cV b a)(hS:St w0 H L w)(hV:QP a_1 a Q):
 Cl 165 #[f,b] w (pV w0 H L Q):=by
 refine Co func165 ntmps165 ?_
 refine zz ?_
 refine WL.box (arr:=#[b]) rfl rfl (AN (IsSl.one e)) hS ?_
 intro d w hS
 refine aV hS ?_
 intro b_9 w hS
 refine zz ?_
 refine Rn hS (AR (vs:=[(pq d)]) ⟨rfl,trivial⟩) ?_
 replace hS:=hS.f2
 obtain⟨k,j,h,hS⟩:=St.ptbox (c:=(JR cV)) (z:=a) hS (HE e)
 refine Rd call163 (AaF (i.mono j) (FvA.V (g:=(fun x Q=>NU x a Q)) (caps:=[(pq d)]) call166 (fun hle hx hS hV=>Aax hx (h.mono hle) hS hV)) hS hV) ?_
 rintro _ w⟨o,p,l,hV,rfl,n,m,hS⟩
 refine sA hS ?_
 intro w hS
 refine zz ?_
 exact vc
theorem AbP{c:Value}{a_1:List Val}{Q:Val->Prop}(a:IsSl H cV c a_1)(hS:St w0 H L w)(hV:Rp a_1 Q):
 Cl 167 #[c] w (pV w0 H L Q):=by
 refine BW func167 ntmps167 ?_
 refine zz ?_
 refine aV hS ?_
 intro e w hS
 have b:=a.bound
 replace hV:=hV b
 refine zz ?_
 refine Rn hS (Ao underlying42 rfl a) ?_
 refine Rd call100 (Cz (Len.i64 b) hS hV) ?_
 rintro _ w⟨h,i,d,hV,rfl,g,f,hS⟩
 refine sA hS ?_
 intro w hS
 refine zz ?_
 exact vc
theorem Xb{m:Value}{r:List Val}{i:Ar}{b:Nat}{l:Value}{f:List Val}{g:Ar}{a:Nat}{d:Value}{n:List Val}{Q:(List Val)->(List Val)->Prop}(v:OwnSl H cV 25 m r i)(s:OwnSl H cV 25 l f g)(t:IsSl H cV d n)(hS:St w0 H (i++([(b,oc #[l] 42)]++(g++([(a,oc #[d] 42)]++L)))) w)(hV:IP r f n Q):
 Cl 206 #[m,(pq b),(pq a)] w fun e w'=>∃(r1:List Val)(r2:List Val)(fp1:Ar)(v2:Value)(fp2:Ar)(H':View),Q r1 r2/\e=.returned (.tuple #[])/\View.le H H'/\OwnSl H' cV 25 m r1 fp1/\OwnSl H' cV 25 v2 r2 fp2/\St w0 H' (fp1++([(b,oc #[v2] 42)]++(fp2++([(a,oc #[d] 42)]++L)))) w':=by
 refine Li func206 ntmps206 ?_
 refine WC.drawn (σ:=[0,1,2,3,4,5,6,7]) [[],[],[],[2],[1,2,3],[1,2,3,4],[0,1,2,3,4,5],[0,1,2,3,4,5,6]] [3,4,5,6,7] mixed (by kernel_rfl) (hS.drawn _) ?_
 refine Wd.runb (off:=0) rfl rfl rfl rfl (fun _ _ _ h=>Aj isAgg42 rfl h) rfl (fun _ h=>St.f2 h) fun T j=>?_
 refine Wd.runb (off:=0) rfl rfl rfl rfl (fun _ _ _ h=>Aj isAgg42 rfl h) rfl (fun _ h=>St.f4 h) fun U C=>?_
 refine Dm fun V S=>?_
 refine Wd.turn rfl rfl rfl fun w hS=>?_
 refine Rd call154 (FJ (OwnSl.bor v) hS hV) ?_
 rintro _ w⟨E,F,J,hV,rfl,u,hS⟩
 refine WL.nil (DQ.mk2 hS ⟨il,.inr (C _ _ _ _ rfl (fun _ h=>St.f5 h)),.inr (j _ _ _ _ rfl (fun _ h=>St.f3 h)),trivial⟩ ?_)
 refine Wd.turn rfl rfl rfl fun w hS=>?_
 obtain⟨G,p,x,hS⟩:∃K,View.le H K/\IsSl K cV F E/\St w0 K (i++([(b,oc #[l] 42)]++(g++([(a,oc #[d] 42)]++L)))) w:=⟨_,hS.put_le,u.share hS.put_le,hS.freeze⟩
 refine Rd call65 (DY (t.mono p) x hS hV) ?_
 rintro _ w⟨q,k,I,hV,rfl,D,A,hS⟩
 refine WL.nil (DQ.mk2 hS ⟨il,il,.inr (j _ _ _ _ rfl (fun _ h=>St.f2 h)),trivial⟩ ?_)
 refine Wd.turn rfl rfl rfl fun w hS=>?_
 refine WL.builds (c:=cV) (xs:=[q]) (vs:=[.agg #[k]]) (css:=[[k]]) rfl underlying42 info25 rfl ⟨rfl,trivial⟩ rfl (by decide) rfl (by simp;rfl) ⟨[k],_,rfl,(BZ A),rfl⟩ hS rfl (by decide) ?_
 intro W w N B hS
 refine WL.nil (DQ.mk2 hS ⟨il,il,.inr (j _ _ _ _ rfl (fun _ h=>St.f3 h)),trivial⟩ ?_)
 refine Wd.turn rfl rfl rfl fun w hS=>?_
 obtain⟨o,hV⟩:=hV
 replace hS:=hS.f4
 refine WL.append (c:=cV) (xs:=f) (ys:=([q])) rfl underlying42 info25 rfl rfl rfl hS ((s.mono p).mono D) (B.src hS.f2) o.1 o.2 ?_
 intro Y w O P hS
 refine WL.nil (DQ.mk2 hS ⟨il,il,il,trivial⟩ ?_)
 refine Wd.turn rfl rfl rfl fun w hS=>?_
 replace hS:=hS.f4
 refine sA hS ?_
 intro w hS
 refine WL.nil (DQ.mk2 hS ⟨il,il,il,trivial⟩ ?_)
 refine Wd.nil fun w hS=>?_
 replace hS:=hS.f3.drop
 replace hS:=hS.f4.f3.f3.f4
 exact v0
theorem Abr(m0:Nat):∀{w0:World}{H:View}{L:Ar}{w:World}{k:Int}{g:Nat}{j:Int}{b_9:Nat}{h:Nat}{F:Value}{t:List Val}{C:Ar}{i:Nat}{p:Value}{B:List Val}{b:Nat}{v:Value}{u:List Val}{D:Ar}{f:Nat}{l:Value}{n:List Val}{d:Nat}{Q:(List Val)->(List Val)->Prop}(W:I64 k)(N:I64 j)(J:OwnSl H cV 25 F t C)(E:IsSl H cV p B)(K:OwnSl H cV 25 v u D)(o:IsSl H cV l n)(hS:St w0 H ([(g,oc #[i6 j] 3)]++([(b_9,Obj.cells #[.func (.func 206) #[] #[(pq h),(pq i)]] 208 (0,0))]++([(h,oc #[F] 42)]++(C++([(i,oc #[p] 42)]++([(b,oc #[v] 42)]++(D++([(f,oc #[l] 42)]++([(d,Obj.cells #[.func (.func 224) #[] #[(pq g),(pq b_9),(pq b),(pq f),(pq d)]] 224 (0,0))]++L))))))))) w)(hV:JZ m0 k j t B u n Q),
 Cl 224 #[i6 k,(pq g),(pq b_9),(pq b),(pq f),(pq d)] w fun e w'=>∃(r1:List Val)(r2:List Val)(v1:Value)(fp1:Ar)(v2:Value)(fp2:Ar)(H':View),Q r1 r2/\e=.returned (.tuple #[])/\View.le H H'/\OwnSl H' cV 25 v1 r1 fp1/\OwnSl H' cV 25 v2 r2 fp2/\St w0 H' ([(g,oc #[i6 j] 3)]++([(b_9,Obj.cells #[.func (.func 206) #[] #[(pq h),(pq i)]] 208 (0,0))]++([(h,oc #[v1] 42)]++(fp1++([(i,oc #[p] 42)]++([(b,oc #[v2] 42)]++(fp2++([(f,oc #[l] 42)]++([(d,Obj.cells #[.func (.func 224) #[] #[(pq g),(pq b_9),(pq b),(pq f),(pq d)]] 224 (0,0))]++L))))))))) w':=by
 induction m0 with
 |zero=>intro w0 H L w k g j b_9 h F t C i p B b v u D f l n d Q W N J E K o hS hV;exact hV.elim
 |succ m0 ih=>
  intro w0 H L w k g j b_9 h F t C i p B b v u D f l n d Q W N J E K o hS hV
  unfold JZ at hV
  refine En6 func224 ntmps224 ?_
  iterate 6 refine z ?_
  refine Ce hV ?_ ?_<;>intro c6 hV
  refine z ?_
  replace hS:=hS.f2
  refine z ?_
  replace hS:=hS.f6
  refine z ?_
  replace hS:=hS.f6.f6.f6.f7
  refine Rc (As (vs:=[v]) (caps:=[(pq h),(pq i)]) rfl call206 ⟨rfl,trivial⟩) (Xb K J E hS hV) ?_
  rintro _ w⟨b3,b4,b8,d6,b9,a9,hV,rfl,d0,c3,c4,hS⟩
  refine⟨_,rfl,?_⟩
  refine z ?_
  refine WC.sub (m:=[]) trivial ?_
  iterate 2 refine z ?_
  replace hS:=hS.f9.f9.f3.f7.f7.f7.f7.f8.f9
  exact v0
  iterate 3 refine z ?_
  replace hS:=hS.f8
  have a4:=o.bound
  replace hV:=hV a4
  refine z ?_
  refine Rn hS (Ao underlying42 rfl o) ?_
  iterate 3 refine z ?_
  replace hS:=hS.f2.f2.f6.f6.f6.f6.f9.f9.f9
  obtain⟨Z,a7,c0,hV⟩:=hV
  refine WC.loop (σ:=(List (Val))×(List (Val))×Int) (fun s a w=>∃x A q r P G S I,s=(x,A,q)/\Z (x,A,q)/\View.le H r/\OwnSl r cV 25 P x G/\OwnSl r cV 25 S A I/\I64 q/\St w0 r ([(b,oc #[P] 42)]++(G++([(d,Obj.cells #[.func (.func 224) #[] #[(pq g),(pq b_9),(pq b),(pq f),(pq d)]] 224 (0,0))]++([(b_9,Obj.cells #[.func (.func 206) #[] #[(pq h),(pq i)]] 208 (0,0))]++([(h,oc #[S] 42)]++(I++([(i,oc #[p] 42)]++([(f,oc #[l] 42)]++([(g,oc #[i6 j] 3)]++L))))))))) w/\Fr 30 [(0,i6 k),(3,(pq b)),(5,(pq d)),(15,l),(16,i6 (n.length:Int)),(17,i6 q)] a) a7 (u,t,(0:Int)) ?_ ?_
  exact y
  rintro _ a w⟨x,A,q,r,P,G,S,I,rfl,hI,O,T,a0,c8,hS,ha⟩
  refine Ab ha ?_
  replace hV:=hV _ hI
  iterate 4 refine z ?_
  refine Ce hV ?_ ?_<;>intro c5 hV
  obtain⟨a3,hV⟩:=hV
  iterate 5 refine z ?_
  refine Rx hS (Au underlying42 sizeOf25 rfl rfl (o.mono O) a3) ?_
  intro d1 a5
  refine Rx hS (AE isAgg25 sizeOf25 rfl a5) ?_
  rintro d3⟨_,rfl,hu⟩
  obtain⟨Y,rfl,U⟩:=Aw hu
  refine aV hS ?_
  intro b0 w hS
  refine sA hS ?_
  intro w hS
  iterate 2 refine z ?_
  replace hS:=hS.f2
  iterate 2 refine z ?_
  replace hS:=hS.f2
  refine Rn hS (Ac (cs:=[Y]) isAgg25 sizeOf25 rfl rfl rfl) ?_
  obtain⟨V,hV⟩:=hV
  refine Rx hS (Ai underlying42 sizeOf25 rfl rfl T V) ?_
  intro d2 a6
  replace hS:=hS.f3
  refine WL.store_own_agg (c:=cV) (z:=(ix n q)) (m':=[Y]) sizeOf25 rfl rfl rfl ⟨(IsW.one U),trivial⟩ (BZ U) hS T a6 V ?_
  intro w b5 a1 hS
  refine z ?_
  replace hS:=hS.f2.drop
  refine z ?_
  replace hS:=hS.f3
  obtain⟨a2,hV⟩:=hV
  iterate 3 refine z ?_
  replace hS:=hS.f8.f3.f4.f8.f8.f8.f8.f9
  refine Rc (As (vs:=[i6 (k+(1:Int))]) (caps:=[(pq g),(pq b_9),(pq b),(pq f),(pq d)]) rfl call224 ⟨rfl,trivial⟩) (ih a2 N a0 (E.mono O) a1 (o.mono O) hS hV) ?_
  rintro _ w⟨b1,b2,d4,b6,d5,b7,a8,hV,rfl,c9,c1,c2,hS⟩
  refine⟨_,rfl,?_⟩
  obtain⟨c7,hV⟩:=hV
  iterate 7 refine z ?_
  replace hS:=hS.f8.f6.f6.f6.f6.f9.f9.f9
  exact y
  iterate 4 refine z ?_
  replace hS:=hS.f3.f8.f4.f4.f8.f8.f8.f8.f9
  exact v0
theorem Acv{b:Int}{v_4:Value}{p:List Val}{b_8:Nat}{q:Value}{m:List Val}{n:Ar}{a:Nat}{k:Value}{l:List Val}{Q:(List Val)->Prop}(u:I64 b)(o:IsSl H cV v_4 p)(r:OwnSl H cV 25 q m n)(s:IsSl H cV k l)(hS:St w0 H ([(b_8,oc #[q] 42)]++(n++([(a,oc #[k] 42)]++L))) w)(hV:RF b p m l Q):
 Cl 205 #[i6 b,v_4,.func (.func 206) #[] #[(pq b_8),(pq a)]] w fun e w'=>∃(r1:List Val)(v1:Value)(fp1:Ar)(H':View),Q r1/\e=.returned (.tuple #[])/\View.le H H'/\OwnSl H' cV 25 v1 r1 fp1/\St w0 H' ([(b_8,oc #[v1] 42)]++(fp1++([(a,oc #[k] 42)]++L))) w':=by
 refine Li func205 ntmps205 ?_
 refine zz ?_
 refine WL.box (arr:=#[i6 b]) rfl rfl rfl hS ?_
 intro d w hS
 refine WL.box (arr:=#[v_4]) rfl rfl (AN (IsSl.one o)) hS ?_
 intro f w hS
 refine WL.box (arr:=#[.func (.func 206) #[] #[(pq b_8),(pq a)]]) rfl rfl rfl hS ?_
 intro g w hS
 refine zz ?_
 replace hS:=hS.f3
 obtain⟨j,hV⟩:=hV
 refine R hS ?_
 refine WL.makes (c:=cV) (z0:=Val.nil) rfl underlying42 info25 (BZ IsW.nil) rfl rfl j.1 j.2.1 j.2.2 hS ?_
 intro I w B t hS
 refine WL.alloc (arr:=#[ns]) rfl zeroValue42 rfl hS ?_
 intro h w hS
 refine sA hS ?_
 intro w hS
 refine zz ?_
 refine WL.alloc (arr:=#[.nilFunc]) rfl zeroValue224 rfl hS ?_
 intro i w hS
 refine zz ?_
 refine Rn hS (AR (vs:=[(pq d),(pq g),(pq h),(pq f),(pq i)]) ⟨rfl,rfl,rfl,rfl,rfl,trivial⟩) ?_
 refine Ee #[.func (.func 224) #[] #[(pq d),(pq g),(pq h),(pq f),(pq i)]] sizeOf224 hS ?_
 intro w hS
 refine zz ?_
 replace hS:=hS.f6.f4.f4.f9.f9.f9.f9.f9
 obtain⟨mf,hV⟩:=hV
 refine Rc (As (vs:=[i6 (0:Int)]) (caps:=[(pq d),(pq g),(pq h),(pq f),(pq i)]) rfl call224 ⟨rfl,trivial⟩) (Abr mf i0 u r s t o hS hV) ?_
 rintro _ w⟨x,A,J,C,K,D,v,hV,rfl,G,E,F,hS⟩
 refine⟨_,rfl,?_⟩
 refine zz ?_
 replace hS:=hS.drop
 replace hS:=hS.drop
 replace hS:=hS.f4.drop
 replace hS:=hS.f4.drop
 replace hS:=hS.f4.drop
 replace hS:=hS.f4.drop
 replace hS:=hS.f3.f3.f3
 exact v0
theorem Zm{c:Value}{i:List Val}{h:Value}{g:List Val}{Q:Val->Prop}(a:IsSl H cV c i)(b:IsSl H cV h g)(hS:St w0 H L w)(hV:KH i g Q):
 Cl 170 #[c,h] w (pV w0 H L Q):=by
 refine Co func170 ntmps170 ?_
 refine zz ?_
 refine WL.box (arr:=#[c]) rfl rfl (AN (IsSl.one a)) hS ?_
 intro k w hS
 refine aV hS ?_
 intro b_9 w hS
 have d:=b.bound
 replace hV:=hV d
 refine zz ?_
 refine Rn hS (Ao underlying42 rfl b) ?_
 replace hS:=hS.f2
 have e:=a.bound
 replace hV:=hV e
 refine R hS ?_
 refine Rn hS (Ao underlying42 rfl a) ?_
 refine Rd call204 (Wg (Len.i64 d) (Len.i64 e) (show I64 (1024:Int) by unfold I64;omega) hS hV) ?_
 rintro _ w⟨v,hV,rfl,s,hS⟩
 refine zz ?_
 refine Ce hV ?_ ?_<;>intro r hV
 refine zz ?_
 refine Rn hS bV ?_
 replace hS:=hS.f2
 refine sA hS ?_
 intro w hS
 refine zz ?_
 replace hS:=hS.f2.drop
 refine zz ?_
 exact vc
 refine zz ?_
 refine WL.alloc (arr:=#[ns]) rfl zeroValue42 rfl hS ?_
 intro j w hS
 refine zz ?_
 replace hS:=hS.f2
 have f:=a.bound
 replace hV:=hV f
 refine R hS ?_
 refine Rn hS (Ao underlying42 rfl a) ?_
 refine R hS ?_
 refine Rn hS (AR (vs:=[(pq j),(pq k)]) ⟨rfl,rfl,trivial⟩) ?_
 replace hS:=hS.nilseg
 replace hS:=hS.f2.f2.f3
 refine Rd call205 (Acv (Len.i64 f) b OwnSl.nil a hS hV) ?_
 rintro _ w⟨o,B,p,m,hV,rfl,t,l,hS⟩
 refine zz ?_
 replace hS:=hS.f3.drop
 refine zz ?_
 replace hS:=hS.f2
 refine Rd call207 (Vm l hS hV) ?_
 rintro _ w⟨x,A,n,hV,rfl,u,q,hS⟩
 replace hS:=hS.f2
 refine sA hS ?_
 intro w hS
 refine zz ?_
 replace hS:=hS.f2.drop
 refine zz ?_
 exact vc
theorem QY{k:Value}{m:List Val}{f:Ar}{a:Nat}{j:Value}{b:List Val}{d:Ar}{Q:(List Val)->(List Val)->Prop}(s:OwnSl H cV 25 k m f)(o:OwnSl H cV 25 j b d)(hS:St w0 H (f++([(a,oc #[j] 42)]++(d++L))) w)(hV:Fp m b Q):
 Cl 208 #[k,(pq a)] w fun e w'=>∃(r1:List Val)(r2:List Val)(fp1:Ar)(v2:Value)(fp2:Ar)(H':View),Q r1 r2/\e=.returned (.tuple #[])/\View.le H H'/\OwnSl H' cV 25 k r1 fp1/\OwnSl H' cV 25 v2 r2 fp2/\St w0 H' (fp1++([(a,oc #[v2] 42)]++(fp2++L))) w':=by
 refine Co func208 ntmps208 ?_
 refine WC.drawn (σ:=[0,1,2,3,4,5,6]) [[],[],[1],[1,2],[1,2,3],[0,1,2,3,4],[0,1,2,3,4,5]] [2,3,4,5,6] mixed (by kernel_rfl) (hS.drawn _) ?_
 refine Wd.runb (off:=0) rfl rfl rfl rfl (fun _ _ _ h=>Aj isAgg42 rfl h) rfl (fun _ h=>St.f2 h) fun J g=>?_
 refine Dm fun N I=>?_
 refine Wd.turn rfl rfl rfl fun w hS=>?_
 refine Rd call154 (FJ (OwnSl.bor s) hS hV) ?_
 rintro _ w⟨x,A,D,hV,rfl,p,hS⟩
 refine WL.nil (DQ.mk2 hS ⟨il,.inr (g _ _ _ _ rfl (fun _ h=>St.f3 h)),trivial⟩ ?_)
 refine Wd.turn rfl rfl rfl fun w hS=>?_
 obtain⟨B,u,q,hS⟩:∃K,View.le H K/\IsSl K cV A x/\St w0 K (f++([(a,oc #[j] 42)]++(d++L))) w:=⟨_,hS.put_le,p.share hS.put_le,hS.freeze⟩
 refine Rd call61 (Dq q hS hV) ?_
 rintro _ w⟨n,i,C,hV,rfl,v,r,hS⟩
 refine WL.nil (DQ.mk2 hS ⟨il,.inr (g _ _ _ _ rfl (fun _ h=>St.f2 h)),trivial⟩ ?_)
 refine Wd.turn rfl rfl rfl fun w hS=>?_
 refine WL.builds (c:=cV) (xs:=[n]) (vs:=[.agg #[i]]) (css:=[[i]]) rfl underlying42 info25 rfl ⟨rfl,trivial⟩ rfl (by decide) rfl (by simp;rfl) ⟨[i],_,rfl,(BZ r),rfl⟩ hS rfl (by decide) ?_
 intro O w E t hS
 refine WL.nil (DQ.mk2 hS ⟨il,.inr (g _ _ _ _ rfl (fun _ h=>St.f3 h)),trivial⟩ ?_)
 refine Wd.turn rfl rfl rfl fun w hS=>?_
 obtain⟨l,hV⟩:=hV
 replace hS:=hS.f4
 refine WL.append (c:=cV) (xs:=b) (ys:=([n])) rfl underlying42 info25 rfl rfl rfl hS ((o.mono u).mono v) (t.src hS.f2) l.1 l.2 ?_
 intro P w F G hS
 refine WL.nil (DQ.mk2 hS ⟨il,il,trivial⟩ ?_)
 refine Wd.turn rfl rfl rfl fun w hS=>?_
 replace hS:=hS.f4
 refine sA hS ?_
 intro w hS
 refine WL.nil (DQ.mk2 hS ⟨il,il,trivial⟩ ?_)
 refine Wd.nil fun w hS=>?_
 replace hS:=hS.f3.drop
 replace hS:=hS.f2.f2.f3
 exact v0
theorem Abo(m0:Nat):∀{w0:World}{H:View}{L:Ar}{w:World}{j:Int}{g:Nat}{i:Int}{b_9:Nat}{h:Nat}{B:Value}{q:List Val}{x:Ar}{b:Nat}{t:Value}{r:List Val}{A:Ar}{f:Nat}{k:Value}{l:List Val}{d:Nat}{Q:(List Val)->(List Val)->Prop}(P:I64 j)(G:I64 i)(E:OwnSl H cV 25 B q x)(F:OwnSl H cV 25 t r A)(n:IsSl H cV k l)(hS:St w0 H ([(g,oc #[i6 i] 3)]++([(b_9,Obj.cells #[.func (.func 208) #[] #[(pq h)]] 208 (0,0))]++([(h,oc #[B] 42)]++(x++([(b,oc #[t] 42)]++(A++([(f,oc #[k] 42)]++([(d,Obj.cells #[.func (.func 224) #[] #[(pq g),(pq b_9),(pq b),(pq f),(pq d)]] 224 (0,0))]++L)))))))) w)(hV:Kz m0 j i q r l Q),
 Cl 224 #[i6 j,(pq g),(pq b_9),(pq b),(pq f),(pq d)] w fun e w'=>∃(r1:List Val)(r2:List Val)(v1:Value)(fp1:Ar)(v2:Value)(fp2:Ar)(H':View),Q r1 r2/\e=.returned (.tuple #[])/\View.le H H'/\OwnSl H' cV 25 v1 r1 fp1/\OwnSl H' cV 25 v2 r2 fp2/\St w0 H' ([(g,oc #[i6 i] 3)]++([(b_9,Obj.cells #[.func (.func 208) #[] #[(pq h)]] 208 (0,0))]++([(h,oc #[v1] 42)]++(fp1++([(b,oc #[v2] 42)]++(fp2++([(f,oc #[k] 42)]++([(d,Obj.cells #[.func (.func 224) #[] #[(pq g),(pq b_9),(pq b),(pq f),(pq d)]] 224 (0,0))]++L)))))))) w':=by
 induction m0 with
 |zero=>intro w0 H L w j g i b_9 h B q x b t r A f k l d Q P G E F n hS hV;exact hV.elim
 |succ m0 ih=>
  intro w0 H L w j g i b_9 h B q x b t r A f k l d Q P G E F n hS hV
  unfold Kz at hV
  refine En6 func224 ntmps224 ?_
  iterate 6 refine z ?_
  refine Ce hV ?_ ?_<;>intro c2 hV
  refine z ?_
  replace hS:=hS.f2
  refine z ?_
  replace hS:=hS.f5
  refine z ?_
  replace hS:=hS.f5.f5.f6
  refine Rc (As (vs:=[t]) (caps:=[(pq h)]) rfl call208 ⟨rfl,trivial⟩) (QY F E hS hV) ?_
  rintro _ w⟨a9,b0,b4,d2,b5,a5,hV,rfl,c6,b9,c0,hS⟩
  refine⟨_,rfl,?_⟩
  refine z ?_
  refine WC.sub (m:=[]) trivial ?_
  iterate 2 refine z ?_
  replace hS:=hS.f8.f8.f3.f6.f6.f6.f7.f8
  exact v0
  iterate 3 refine z ?_
  replace hS:=hS.f7
  have a0:=n.bound
  replace hV:=hV a0
  refine z ?_
  refine Rn hS (Ao underlying42 rfl n) ?_
  iterate 3 refine z ?_
  replace hS:=hS.f2.f2.f5.f5.f5.f8.f8.f8
  obtain⟨U,a3,b6,hV⟩:=hV
  refine WC.loop (σ:=(List (Val))×(List (Val))×Int) (fun s a w=>∃u v o p I C J D,s=(u,v,o)/\U (u,v,o)/\View.le H p/\OwnSl p cV 25 I u C/\OwnSl p cV 25 J v D/\I64 o/\St w0 p ([(b,oc #[I] 42)]++(C++([(d,Obj.cells #[.func (.func 224) #[] #[(pq g),(pq b_9),(pq b),(pq f),(pq d)]] 224 (0,0))]++([(b_9,Obj.cells #[.func (.func 208) #[] #[(pq h)]] 208 (0,0))]++([(h,oc #[J] 42)]++(D++([(f,oc #[k] 42)]++([(g,oc #[i6 i] 3)]++L)))))))) w/\Fr 30 [(0,i6 j),(3,(pq b)),(5,(pq d)),(15,k),(16,i6 (l.length:Int)),(17,i6 o)] a) a3 (r,q,(0:Int)) ?_ ?_
  exact y
  rintro _ a w⟨u,v,o,p,I,C,J,D,rfl,hI,S,K,V,c4,hS,ha⟩
  refine Ab ha ?_
  replace hV:=hV _ hI
  iterate 4 refine z ?_
  refine Ce hV ?_ ?_<;>intro c1 hV
  obtain⟨Z,hV⟩:=hV
  iterate 5 refine z ?_
  refine Rx hS (Au underlying42 sizeOf25 rfl rfl (n.mono S) Z) ?_
  intro c7 a1
  refine Rx hS (AE isAgg25 sizeOf25 rfl a1) ?_
  rintro c9⟨_,rfl,hu⟩
  obtain⟨T,rfl,N⟩:=Aw hu
  refine aV hS ?_
  intro a6 w hS
  refine sA hS ?_
  intro w hS
  iterate 2 refine z ?_
  replace hS:=hS.f2
  iterate 2 refine z ?_
  replace hS:=hS.f2
  refine Rn hS (Ac (cs:=[T]) isAgg25 sizeOf25 rfl rfl rfl) ?_
  obtain⟨O,hV⟩:=hV
  refine Rx hS (Ai underlying42 sizeOf25 rfl rfl K O) ?_
  intro c8 a2
  replace hS:=hS.f3
  refine WL.store_own_agg (c:=cV) (z:=(ix l o)) (m':=[T]) sizeOf25 rfl rfl rfl ⟨(IsW.one N),trivial⟩ (BZ N) hS K a2 O ?_
  intro w b1 W hS
  refine z ?_
  replace hS:=hS.f2.drop
  refine z ?_
  replace hS:=hS.f3
  obtain⟨Y,hV⟩:=hV
  iterate 3 refine z ?_
  replace hS:=hS.f7.f3.f4.f7.f7.f7.f8
  refine Rc (As (vs:=[i6 (j+(1:Int))]) (caps:=[(pq g),(pq b_9),(pq b),(pq f),(pq d)]) rfl call224 ⟨rfl,trivial⟩) (ih Y G V W (n.mono S) hS hV) ?_
  rintro _ w⟨a7,a8,d0,b2,d1,b3,a4,hV,rfl,c5,b7,b8,hS⟩
  refine⟨_,rfl,?_⟩
  obtain⟨c3,hV⟩:=hV
  iterate 7 refine z ?_
  replace hS:=hS.f7.f5.f5.f5.f8.f8.f8
  exact y
  iterate 4 refine z ?_
  replace hS:=hS.f3.f7.f4.f4.f7.f7.f7.f8
  exact v0
theorem Acl{a:Int}{v_4:Value}{m:List Val}{b_8:Nat}{n:Value}{j:List Val}{k:Ar}{Q:(List Val)->Prop}(q:I64 a)(l:IsSl H cV v_4 m)(o:OwnSl H cV 25 n j k)(hS:St w0 H ([(b_8,oc #[n] 42)]++(k++L)) w)(hV:QB a m j Q):
 Cl 205 #[i6 a,v_4,.func (.func 208) #[] #[(pq b_8)]] w fun e w'=>∃(r1:List Val)(v1:Value)(fp1:Ar)(H':View),Q r1/\e=.returned (.tuple #[])/\View.le H H'/\OwnSl H' cV 25 v1 r1 fp1/\St w0 H' ([(b_8,oc #[v1] 42)]++(fp1++L)) w':=by
 refine Li func205 ntmps205 ?_
 refine zz ?_
 refine WL.box (arr:=#[i6 a]) rfl rfl rfl hS ?_
 intro b w hS
 refine WL.box (arr:=#[v_4]) rfl rfl (AN (IsSl.one l)) hS ?_
 intro d w hS
 refine WL.box (arr:=#[.func (.func 208) #[] #[(pq b_8)]]) rfl rfl rfl hS ?_
 intro f w hS
 refine zz ?_
 replace hS:=hS.f3
 obtain⟨i,hV⟩:=hV
 refine R hS ?_
 refine WL.makes (c:=cV) (z0:=Val.nil) rfl underlying42 info25 (BZ IsW.nil) rfl rfl i.1 i.2.1 i.2.2 hS ?_
 intro D w u p hS
 refine WL.alloc (arr:=#[ns]) rfl zeroValue42 rfl hS ?_
 intro g w hS
 refine sA hS ?_
 intro w hS
 refine zz ?_
 refine WL.alloc (arr:=#[.nilFunc]) rfl zeroValue224 rfl hS ?_
 intro h w hS
 refine zz ?_
 refine Rn hS (AR (vs:=[(pq b),(pq f),(pq g),(pq d),(pq h)]) ⟨rfl,rfl,rfl,rfl,rfl,trivial⟩) ?_
 refine Ee #[.func (.func 224) #[] #[(pq b),(pq f),(pq g),(pq d),(pq h)]] sizeOf224 hS ?_
 intro w hS
 refine zz ?_
 replace hS:=hS.f6.f4.f4.f8.f8.f8.f8
 obtain⟨mf,hV⟩:=hV
 refine Rc (As (vs:=[i6 (0:Int)]) (caps:=[(pq b),(pq f),(pq g),(pq d),(pq h)]) rfl call224 ⟨rfl,trivial⟩) (Abo mf i0 q o p l hS hV) ?_
 rintro _ w⟨s,t,E,v,F,x,r,hV,rfl,C,A,B,hS⟩
 refine⟨_,rfl,?_⟩
 refine zz ?_
 replace hS:=hS.drop
 replace hS:=hS.drop
 replace hS:=hS.f3.drop
 replace hS:=hS.f3.drop
 replace hS:=hS.f3.drop
 replace hS:=hS.f3.drop
 replace hS:=hS.f2.f2
 exact v0
theorem Tt{B:Value}{j:List Val}{f:Int}{Q:Val->Prop}(g:IsSl H cV B j)(b8:I64 f)(hS:St w0 H L w)(hV:ID j f Q):
 Cl 172 #[B,i6 f] w (pV w0 H L Q):=by
 refine Co func172 ntmps172 ?_
 refine zz ?_
 refine aV hS ?_
 intro n w hS
 refine zz ?_
 refine WL.alloc (arr:=#[ns]) rfl zeroValue42 rfl hS ?_
 intro b_8 w hS
 refine zz ?_
 replace hS:=hS.nilseg
 replace hS:=hS.f2.f3
 obtain⟨P,a2,a7,hV⟩:=hV
 refine WC.loop (σ:=(List (Val))×Int) (fun s a w=>∃o c l E C,s=(o,c)/\P (o,c)/\View.le H l/\OwnSl l cV 25 E o C/\I64 c/\St w0 l ([(n,oc #[.nilIface] 25)]++([(b_8,oc #[E] 42)]++(C++L))) w/\Fr 45 [(0,B),(1,i6 f),(4,(pq n)),(5,(pq b_8)),(6,i6 c)] a) a2 (([]:List (Val)),(0:Int)) ?_ ?_
 exact y
 rintro _ a w⟨o,c,l,E,C,rfl,hI,i,r,N,hS,ha⟩
 refine Ab ha ?_
 replace hV:=hV _ hI
 have T:=(g.mono i).bound
 replace hV:=hV T
 refine z ?_
 refine WC.seq ?_
 refine WC.via (m:=[(0,B),(1,i6 f),(4,(pq n)),(5,(pq b_8)),(6,i6 c),(18,.bool (decide ((c<=f)/\((c=(0:Int))\/((0:Int)<(j.length:Int))))))]) ?_ ?_
 refine zz ?_
 rcases DG (decide (c<=f)) with x|x
 refine zz ?_
 rcases DG (decide (c=(0:Int))) with A|A
 iterate 4 refine z ?_
 refine WL.up (s:=17) rfl (Bg A:true=decide ((c=(0:Int))\/((0:Int)<(j.length:Int)))) (z ?_)
 refine WL.up (s:=18) rfl (De x) ?_
 exact WL.nil At.os
 refine R hS ?_
 refine Ug A ?_
 refine Rn hS (Ao underlying42 rfl (g.mono i)) ?_
 iterate 2 refine z ?_
 refine WL.up (s:=17) rfl (CQ A) (z ?_)
 refine WL.up (s:=18) rfl (De x) ?_
 exact WL.nil At.os
 iterate 8 refine z ?_
 refine WL.up (s:=18) rfl (Bj x:false=decide ((c<=f)/\((c=(0:Int))\/((0:Int)<(j.length:Int))))) ?_
 exact WL.nil At.os
 refine zz ?_
 refine Ce hV ?_ ?_<;>intro b0 hV
 iterate 6 refine z ?_
 refine WC.drawn (σ:=[0,1,2,3,4,5,6,7]) [[],[0],[],[2],[],[2,3,4],[0,1,2,3,4,5],[0,1,2,3,4,5,6]] [5] mixed (by kernel_rfl) (hS.drawn _) ?_
 refine Wd.runb (off:=0) rfl rfl rfl rfl (fun _ _ _ h=>Aj isAgg42 rfl h) rfl (fun _ h=>St.f2 h) fun c3 a0=>?_
 have U:=r.bound
 replace hV:=hV U
 refine Wd.run rfl rfl rfl rfl (fun _=>AP underlying42 rfl r) fun c4 a1=>?_
 refine Dm fun c5 b2=>?_
 have G:=(g.mono i).bound
 replace hV:=hV G
 refine Wd.run rfl rfl rfl rfl (fun _=>Ao underlying42 rfl (g.mono i)) fun c6 b3=>?_
 refine Dm fun c7 b4=>?_
 refine Wd.turn rfl rfl rfl fun w hS=>?_
 refine Rd call204 (Wg (Len.i64 G) N (show I64 (1024:Int) by unfold I64;omega) hS hV) ?_
 rintro _ w⟨d0,hV,rfl,b7,hS⟩
 refine WL.nil (DQ.mk2 hS ⟨il,il,il,.inr (a1 _),.inr (a0 _ _ _ _ rfl (fun _ h=>St.f2 h)),trivial⟩ ?_)
 obtain⟨S,hV⟩:=hV
 refine Wd.run rfl rfl rfl rfl (fun _=>Eg rfl rfl S) fun c8 b5=>?_
 refine Wd.run rfl rfl rfl rfl (fun _=>UC rfl rfl) fun c9 b6=>?_
 refine Wd.nil fun w hS=>?_
 refine zz ?_
 refine Ce hV ?_ ?_<;>intro a9 hV
 refine zz ?_
 refine Rn hS bV ?_
 refine sA hS ?_
 intro w hS
 refine zz ?_
 replace hS:=hS.f2.drop
 replace hS:=hS.f2.drop
 refine zz ?_
 exact vc
 refine zz ?_
 refine Rn hS (AR (vs:=[(pq b_8)]) ⟨rfl,trivial⟩) ?_
 replace hS:=hS.f3.f3
 refine Rd call205 (Acl N (g.mono i) r hS hV) ?_
 rintro _ w⟨a5,a3,a6,O,hV,rfl,b9,t,hS⟩
 have V:=t.bound
 replace hV:=hV V
 refine zz ?_
 refine Rn hS (AP underlying42 rfl t) ?_
 obtain⟨b1,hV⟩:=hV
 obtain⟨F,hV⟩:=hV
 refine R hS ?_
 refine Rx hS (Ai underlying42 sizeOf25 rfl rfl t F) ?_
 intro c1 W
 refine Rx hS (GN underlying25 rfl sizeOf23 rfl W) ?_
 intro c2 Y
 replace hS:=hS.f2
 refine Rx hS (BG (H:=O) (L:=[(b_8,oc #[a3] 42)]++([(n,oc #[.nilIface] 25)]++L)) (HG (d:=cV) isAgg23 rfl rfl t Y F Part.self)) ?_
 intro d2 D
 replace D:=AcL D
 refine Rn hS (IG iface23 rfl D) ?_
 exact Z
 refine zz ?_
 replace hS:=hS.f2
 refine R hS ?_
 replace hS:=hS.f3
 refine Rd call207 (Vm r hS hV) ?_
 rintro _ w⟨d1,d3,a4,hV,rfl,c0,a8,hS⟩
 replace hS:=hS.f2
 refine sA hS ?_
 intro w hS
 refine zz ?_
 replace hS:=hS.f2.drop
 refine zz ?_
 exact vc
theorem ZB{o:Value}{a_1:List Val}{j:Ar}{Q:Val->Prop}(n:Bor H cV o a_1 j)(hS:St w0 H (j++L) w)(hV:JW a_1 Q):
 Cl 171 #[o] w (pV w0 H (j++L) Q):=by
 refine BW func171 ntmps171 ?_
 have c1:=@Tt;have d1:=call172
 refine zz ?_
 refine aV hS ?_
 intro i w hS
 obtain⟨B,hV⟩:=hV
 refine zz ?_
 refine Rx hS (Ag underlying42 sizeOf25 rfl rfl n B) ?_
 intro O C
 replace hS:=hS.f2
 refine Rx hS (BG (H:=H) (L:=[(i,oc #[.nilIface] 25)]++L) (Ad isAgg25 sizeOf25 rfl C)) ?_
 rintro S⟨_,rfl,hu⟩
 obtain⟨T,rfl,t⟩:=Aw hu
 refine Rd call150 (Db t hS hV) ?_
 rintro _ w⟨P,d,v_15,r,hV,rfl,E,F,hS⟩
 obtain⟨A,hV⟩:=hV
 refine zz ?_
 refine Rx hS (Ag underlying42 sizeOf25 rfl rfl (n.mono E) A) ?_
 intro N D
 refine Rx hS (BG (H:=r) (L:=[(i,oc #[.nilIface] 25)]++L) (Ad isAgg25 sizeOf25 rfl D)) ?_
 rintro U⟨_,rfl,hu⟩
 obtain⟨V,rfl,x⟩:=Aw hu
 refine Rd call134 (Oo x hS hV) ?_
 rintro _ w⟨g,f,hV,rfl,G,hS⟩
 iterate 7 refine z ?_
 refine WC.seq ?_
 refine WC.via (m:=[(2,(pq i)),(3,v_15),(5,i6 g),(30,.bool (decide ((((!d)=true)\/((!f)=true))\/(g<(0:Int)))))]) ?_ ?_
 refine zz ?_
 rcases DG (!d) with c|c
 iterate 3 refine z ?_
 refine WL.up (s:=26) rfl (Bg ((AH _).symm.trans c):true=decide (((!d)=true)\/((!f)=true))) (R hS ?_)
 refine WL.skip_g rfl rfl rfl (Bg ((AH _).symm.trans c)).symm rfl rfl (WL.skip_g rfl rfl rfl (Bg ((AH _).symm.trans c)).symm rfl rfl (Rn hS (Dp rfl (Bg ((AH _).symm.trans c)).symm rfl) ?_))
 refine WL.up (s:=30) rfl (Bg (Bg ((AH _).symm.trans c)).symm:true=decide ((((!d)=true)\/((!f)=true))\/(g<(0:Int)))) ?_
 exact WL.nil At.os
 iterate 3 refine z ?_
 refine WL.up (s:=26) rfl ((AH _).trans (CQ ((AH _).symm.trans c):decide ((!f)=true)=decide (((!d)=true)\/((!f)=true)))) (R hS ?_)
 rcases DG (decide (((!d)=true)\/((!f)=true))) with l|l
 iterate 3 refine z ?_
 refine WL.up (s:=30) rfl (Bg l:true=decide ((((!d)=true)\/((!f)=true))\/(g<(0:Int)))) ?_
 exact WL.nil At.os
 iterate 3 refine z ?_
 refine WL.up (s:=30) rfl (CQ l) ?_
 exact WL.nil At.os
 exact Z
theorem Adx{a:Aa}{Q:Int->(Option EA)->Prop}(hS:St w0 H L w)(hV:EY a Q):
 Cl 76 #[sv a] w (pO w0 H L Q):=by
 refine BW func76 ntmps76 ?_
 refine zz ?_
 refine aO hS ?_
 intro n w hS
 refine zz ?_
 refine Ce hV ?_ ?_<;>intro N hV
 refine zz ?_
 refine Rn hS (Aq (vs:=[i6 (-1),.func (.func 153) #[] #[]]) (zc:=#[i6 0,.nilFunc]) (cs:=#[i6 (-1),.func (.func 153) #[] #[]]) (places:=#[(0,1),(1,1)]) underlying78 zeroValue78 (fun w=>by simp[sizeOf3,sizeOf76]) rfl ⟨rfl,rfl,trivial⟩ rfl Zf) ?_
 refine Ee #[i6 (-1),.func (.func 153) #[] #[]] sizeOf78 hS ?_
 intro w hS
 have b:=An (P:=Tryz.prog) (cs:=[i6 (-1),.func (.func 153) #[] #[]]) isAgg78 sizeOf78 hS rfl
 replace hS:=hS.drop
 refine zz ?_
 exact AZ (il) rfl rfl b (⟨(-1),(some (fun x Q=>Mz x Q)),(.func (.func 153) #[] #[]),H,hV,rfl,(View.le.refl _),(show I64 ((-1):Int) by unfold I64;omega),(FvB.A (g:=(fun x Q=>Mz x Q)) (caps:=[]) call153 (fun hle hx hS hV=>Aca hx hS hV)),hS⟩)
 refine zz ?_
 refine Ce hV ?_ ?_<;>intro K hV
 refine zz ?_
 refine Rn hS (Aq (vs:=[i6 (2:Int),.func (.func 155) #[] #[]]) (zc:=#[i6 0,.nilFunc]) (cs:=#[i6 (2:Int),.func (.func 155) #[] #[]]) (places:=#[(0,1),(1,1)]) underlying78 zeroValue78 (fun w=>by simp[sizeOf3,sizeOf76]) rfl ⟨rfl,rfl,trivial⟩ rfl Zf) ?_
 refine Ee #[i6 (2:Int),.func (.func 155) #[] #[]] sizeOf78 hS ?_
 intro w hS
 have c:=An (P:=Tryz.prog) (cs:=[i6 (2:Int),.func (.func 155) #[] #[]]) isAgg78 sizeOf78 hS rfl
 replace hS:=hS.drop
 refine zz ?_
 exact AZ (il) rfl rfl c (⟨(2:Int),(some (fun x Q=>MS x Q)),(.func (.func 155) #[] #[]),H,hV,rfl,(View.le.refl _),(show I64 (2:Int) by unfold I64;omega),(FvB.A (g:=(fun x Q=>MS x Q)) (caps:=[]) call155 (fun hle hx hS hV=>Abu hx hS hV)),hS⟩)
 refine zz ?_
 refine Ce hV ?_ ?_<;>intro J hV
 refine zz ?_
 refine Rn hS (Aq (vs:=[i6 (2:Int),.func (.func 157) #[] #[]]) (zc:=#[i6 0,.nilFunc]) (cs:=#[i6 (2:Int),.func (.func 157) #[] #[]]) (places:=#[(0,1),(1,1)]) underlying78 zeroValue78 (fun w=>by simp[sizeOf3,sizeOf76]) rfl ⟨rfl,rfl,trivial⟩ rfl Zf) ?_
 refine Ee #[i6 (2:Int),.func (.func 157) #[] #[]] sizeOf78 hS ?_
 intro w hS
 have d:=An (P:=Tryz.prog) (cs:=[i6 (2:Int),.func (.func 157) #[] #[]]) isAgg78 sizeOf78 hS rfl
 replace hS:=hS.drop
 refine zz ?_
 exact AZ (il) rfl rfl d (⟨(2:Int),(some (fun x Q=>Mu x Q)),(.func (.func 157) #[] #[]),H,hV,rfl,(View.le.refl _),(show I64 (2:Int) by unfold I64;omega),(FvB.A (g:=(fun x Q=>Mu x Q)) (caps:=[]) call157 (fun hle hx hS hV=>Abh hx hS hV)),hS⟩)
 refine zz ?_
 refine Ce hV ?_ ?_<;>intro I hV
 refine zz ?_
 refine Rc (As (vs:=[.func (.func 160) #[] #[]]) (caps:=[]) rfl call148 ⟨rfl,trivial⟩) (MB (FvB.LL (g:=(fun x Q=>Ra x.1 x.2 Q)) (caps:=[]) call160 (fun hle hx hy hS hV=>Aba hx hy hS hV)) hS hV) ?_
 rintro _ w⟨b9,b2,c6,f,hV,rfl,Z,O,o,hS⟩
 refine⟨_,rfl,?_⟩
 refine sB hS ?_
 intro w hS
 refine zz ?_
 exact vc
 refine zz ?_
 refine Ce hV ?_ ?_<;>intro G hV
 refine zz ?_
 refine Rc (As (vs:=[.func (.func 162) #[] #[]]) (caps:=[]) rfl call148 ⟨rfl,trivial⟩) (MB (FvB.LL (g:=(fun x Q=>Qh x.1 x.2 Q)) (caps:=[]) call162 (fun hle hx hy hS hV=>Aci hx hy hS hV)) hS hV) ?_
 rintro _ w⟨b3,a6,c0,h,hV,rfl,a0,S,p,hS⟩
 refine⟨_,rfl,?_⟩
 refine sB hS ?_
 intro w hS
 refine zz ?_
 exact vc
 refine zz ?_
 refine Ce hV ?_ ?_<;>intro F hV
 refine zz ?_
 refine Rc (As (vs:=[.func (.func 165) #[] #[]]) (caps:=[]) rfl call148 ⟨rfl,trivial⟩) (MB (FvB.LL (g:=(fun x Q=>QP x.1 x.2 Q)) (caps:=[]) call165 (fun hle hx hy hS hV=>Abz hx hy hS hV)) hS hV) ?_
 rintro _ w⟨b4,a7,c1,i,hV,rfl,a1,T,q,hS⟩
 refine⟨_,rfl,?_⟩
 refine sB hS ?_
 intro w hS
 refine zz ?_
 exact vc
 refine zz ?_
 refine Ce hV ?_ ?_<;>intro E hV
 refine zz ?_
 refine Rc (As (vs:=[.func (.func 167) #[] #[]]) (caps:=[]) rfl call151 ⟨rfl,trivial⟩) (QJ (FvB.L (g:=(fun x Q=>Rp x Q)) (caps:=[]) call167 (fun hle hx hS hV=>AbP hx hS hV)) hS hV) ?_
 rintro _ w⟨b5,a8,c2,j,hV,rfl,a2,U,r,hS⟩
 refine⟨_,rfl,?_⟩
 refine sB hS ?_
 intro w hS
 refine zz ?_
 exact vc
 refine zz ?_
 refine Ce hV ?_ ?_<;>intro D hV
 refine zz ?_
 refine Rc (As (vs:=[.func (.func 168) #[] #[]]) (caps:=[]) rfl call151 ⟨rfl,trivial⟩) (QJ (FvB.L (g:=(fun x Q=>Jj x Q)) (caps:=[]) call168 (fun hle hx hS hV=>Xn hx hS hV)) hS hV) ?_
 rintro _ w⟨b6,a9,c3,k,hV,rfl,a3,V,s,hS⟩
 refine⟨_,rfl,?_⟩
 refine sB hS ?_
 intro w hS
 refine zz ?_
 exact vc
 refine zz ?_
 refine Ce hV ?_ ?_<;>intro C hV
 refine zz ?_
 refine Rc (As (vs:=[.func (.func 169) #[] #[]]) (caps:=[]) rfl call151 ⟨rfl,trivial⟩) (QJ (FvB.L (g:=(fun x Q=>Hk x Q)) (caps:=[]) call169 (fun hle hx hS hV=>Uc hx hS hV)) hS hV) ?_
 rintro _ w⟨b7,b0,c4,l,hV,rfl,a4,W,t,hS⟩
 refine⟨_,rfl,?_⟩
 refine sB hS ?_
 intro w hS
 refine zz ?_
 exact vc
 refine zz ?_
 refine Ce hV ?_ ?_<;>intro B hV
 refine zz ?_
 refine Rc (As (vs:=[.func (.func 170) #[] #[]]) (caps:=[]) rfl call148 ⟨rfl,trivial⟩) (MB (FvB.LL (g:=(fun x Q=>KH x.1 x.2 Q)) (caps:=[]) call170 (fun hle hx hy hS hV=>Zm hx hy hS hV)) hS hV) ?_
 rintro _ w⟨b8,b1,c5,m,hV,rfl,a5,Y,u,hS⟩
 refine⟨_,rfl,?_⟩
 refine sB hS ?_
 intro w hS
 refine zz ?_
 exact vc
 refine zz ?_
 refine Ce hV ?_ ?_<;>intro v hV
 refine zz ?_
 refine Rn hS (Aq (vs:=[i6 (2:Int),.func (.func 171) #[] #[]]) (zc:=#[i6 0,.nilFunc]) (cs:=#[i6 (2:Int),.func (.func 171) #[] #[]]) (places:=#[(0,1),(1,1)]) underlying78 zeroValue78 (fun w=>by simp[sizeOf3,sizeOf76]) rfl ⟨rfl,rfl,trivial⟩ rfl Zf) ?_
 refine Ee #[i6 (2:Int),.func (.func 171) #[] #[]] sizeOf78 hS ?_
 intro w hS
 have e:=An (P:=Tryz.prog) (cs:=[i6 (2:Int),.func (.func 171) #[] #[]]) isAgg78 sizeOf78 hS rfl
 replace hS:=hS.drop
 refine zz ?_
 exact AZ (il) rfl rfl e (⟨(2:Int),(some (fun x Q=>JW x Q)),(.func (.func 171) #[] #[]),H,hV,rfl,(View.le.refl _),(show I64 (2:Int) by unfold I64;omega),(FvB.A (g:=(fun x Q=>JW x Q)) (caps:=[]) call171 (fun hle hx hS hV=>ZB hx hS hV)),hS⟩)
 refine zz ?_
 refine Rn hS (Aq (vs:=[]) (zc:=#[i6 0,.nilFunc]) (cs:=#[i6 0,.nilFunc]) (places:=#[(0,1),(1,1)]) underlying78 zeroValue78 (fun w=>by simp[sizeOf3,sizeOf76]) rfl trivial rfl Zf) ?_
 refine sB hS ?_
 intro w hS
 refine zz ?_
 exact vc
theorem ON{c:Value}{a_1:List Val}{a:Ar}{g:Value}{d:Fg (List Val×List Val) Val}{Q:Val->Prop}(e:Bor H cV c a_1 a)(j:IsPt H (cB Tryz.prog w0 Yq Mg) g d)(hS:St w0 H (a++L) w)(hV:DD a_1 d Q):
 Cl 174 #[c,g] w (pV w0 H (a++L) Q):=by
 refine Co func174 ntmps174 ?_
 refine zz ?_
 refine aV hS ?_
 intro b_9 w hS
 obtain⟨k,hV⟩:=hV
 refine zz ?_
 refine Rx hS (Ag underlying42 sizeOf25 rfl rfl e k) ?_
 intro s l
 replace hS:=hS.f2
 refine Rx hS (BG (H:=H) (L:=[(b_9,oc #[.nilIface] 25)]++L) (Ad isAgg25 sizeOf25 rfl l)) ?_
 rintro x⟨_,rfl,hu⟩
 obtain⟨A,rfl,h⟩:=Aw hu
 refine Rd call175 (Ns h hS hV) ?_
 rintro _ w⟨t,u,m,n,hV,rfl,f,i,hS⟩
 refine zz ?_
 refine Cf hV ?_ ?_<;>intro q hV
 refine zz ?_
 refine Rx hS (Bp isAgg107 rfl rfl (j.mono f)) ?_
 intro B b
 replace b:=Aan b
 refine zz ?_
 refine Rcv (vs:=[m,c]) ⟨rfl,rfl,trivial⟩ (FvB.cLA b i (e.mono f) hS hV) ?_
 rintro _ w⟨v,C,o,hV,rfl,r,p,hS⟩
 refine⟨_,rfl,?_⟩
 replace hS:=hS.f2
 refine sA hS ?_
 intro w hS
 refine zz ?_
 exact vc
 refine zz ?_
 refine Rn hS bV ?_
 replace hS:=hS.f2
 refine sA hS ?_
 intro w hS
 refine zz ?_
 exact vc
theorem DW{a:Int}{v_4:Value}{d:Fg (List Val×List Val) Val}{Q:Int->(Option EA)->Prop}(j:I64 a)(e:FvB Tryz.prog w0 Yq Mg H v_4 d)(hS:St w0 H L w)(hV:Dt a d Q):
 Cl 173 #[i6 a,v_4] w (pO w0 H L Q):=by
 refine Co func173 ntmps173 ?_
 refine zz ?_
 refine WL.box (arr:=#[v_4]) rfl rfl (AN (FvB.one e)) hS ?_
 intro b w hS
 refine aO hS ?_
 intro b_8 w hS
 refine zz ?_
 refine Rn hS (AR (vs:=[(pq b)]) ⟨rfl,trivial⟩) ?_
 refine Rn hS (Aq (vs:=[i6 a,.func (.func 174) #[] #[(pq b)]]) (zc:=#[i6 0,.nilFunc]) (cs:=#[i6 a,.func (.func 174) #[] #[(pq b)]]) (places:=#[(0,1),(1,1)]) underlying78 zeroValue78 (fun w=>by simp[sizeOf3,sizeOf76]) rfl ⟨rfl,rfl,trivial⟩ rfl (by simp[Instr.fill,Bs,Be,AW,AJ,AX,Br,BA,Dj])) ?_
 refine Ee #[i6 a,.func (.func 174) #[] #[(pq b)]] sizeOf78 hS ?_
 intro w hS
 replace hS:=hS.f2
 refine zz ?_
 obtain⟨f,k,h,hS⟩:=St.ptbox (c:=(cB Tryz.prog w0 Yq Mg)) (z:=d) hS (Mb e)
 have i:=An (P:=Tryz.prog) (cs:=[i6 a,.func (.func 174) #[] #[(pq b)]]) isAgg78 sizeOf78 hS rfl
 replace hS:=hS.drop
 exact AZ (il) rfl rfl i (⟨a,(some (fun x Q=>DD x d Q)),(.func (.func 174) #[] #[(pq b)]),f,hV,rfl,((View.le.refl _).trans k),j,(FvB.A (g:=(fun x Q=>DD x d Q)) (caps:=[(pq b)]) call174 (fun hle hx hS hV=>ON hx (h.mono hle) hS hV)),hS⟩)
end Go.Proofs.YtlhkfkecoekoeaaGreatDoor
