/- Part C of the proof: walks. No condition beyond those that each theorem names. -/
import Derived.Test.YtlhkfkecoekoeaaGreatDoorGB
set_option linter.unusedVariables false
set_option linter.unusedSimpArgs false
set_option maxRecDepth 100000
set_option maxHeartbeats 1000000
namespace Go.Proofs.YtlhkfkecoekoeaaGreatDoor
open Go.Vc _root_.Go.Proofs.Tryz _root_.Go.Proofs.YtlhkfkecoekoeaaGreatDoor.Tryz
variable{w0:World}{H:View}{L:Ar}{w:World}
theorem AbG{a:Bool}{Q:Int->Prop}(hS:St w0 H L w)(hV:Rr a Q):
 Cl 272 #[.bool a] w (pI w0 H L Q):=by
 refine BW func272 ntmps272 ?_
 refine zz ?_
 exact v1
theorem AaO{a:Int}{Q:Int->Prop}(b:I64 a)(hS:St w0 H L w)(hV:Rs a Q):
 Cl 277 #[i6 a] w (pI w0 H L Q):=by
 refine BW func277 ntmps277 ?_
 refine zz ?_
 exact v1
theorem AaQ{a:Aa}{Q:Int->Prop}(hS:St w0 H L w)(hV:Rg a Q):
 Cl 283 #[sv a] w (pI w0 H L Q):=by
 refine BW func283 ntmps283 ?_
 refine zz ?_
 exact v1
theorem AbC{a:Aa}{Q:Int->Prop}(hS:St w0 H L w)(hV:RA a Q):
 Cl 286 #[sv a] w (pI w0 H L Q):=by
 refine BW func286 ntmps286 ?_
 refine zz ?_
 exact v1
theorem AbF{a:Val}{b:Value}{Q:Int->Prop}(c:IsPS H b a)(hS:St w0 H L w)(hV:Qy a Q):
 Cl 289 #[b] w (pI w0 H L Q):=by
 refine BW func289 ntmps289 ?_
 refine zz ?_
 exact v1
theorem AaT{a:Val}{b:Value}{Q:Int->Prop}(c:IsPF H b a)(hS:St w0 H L w)(hV:QF a Q):
 Cl 294 #[b] w (pI w0 H L Q):=by
 refine BW func294 ntmps294 ?_
 refine zz ?_
 exact v1
theorem Tryz.m_rankT(v:Value)(args:Array Value)(w:World):(callMethod (.iface 86 v) "sextant/value.rank" args).run Tryz.prog w=.ok (.enter 272 (#[v]++args)) w:=by kernel_rfl
theorem Tryz.m_rankN(v:Value)(args:Array Value)(w:World):(callMethod (.iface 87 v) "sextant/value.rank" args).run Tryz.prog w=.ok (.enter 277 (#[v]++args)) w:=by kernel_rfl
theorem Tryz.m_rankX(v:Value)(args:Array Value)(w:World):(callMethod (.iface 89 v) "sextant/value.rank" args).run Tryz.prog w=.ok (.enter 283 (#[v]++args)) w:=by kernel_rfl
theorem Tryz.m_rankA(v:Value)(args:Array Value)(w:World):(callMethod (.iface 91 v) "sextant/value.rank" args).run Tryz.prog w=.ok (.enter 286 (#[v]++args)) w:=by kernel_rfl
theorem Tryz.m_rankS(v:Value)(args:Array Value)(w:World):(callMethod (.iface 93 v) "sextant/value.rank" args).run Tryz.prog w=.ok (.enter 289 (#[v]++args)) w:=by kernel_rfl
theorem Tryz.m_rankF(v:Value)(args:Array Value)(w:World):(callMethod (.iface 97 v) "sextant/value.rank" args).run Tryz.prog w=.ok (.enter 294 (#[v]++args)) w:=by kernel_rfl
theorem Abf{x:Val}{u:Value}{Q:Int->Prop}(hx:IsW H u x)(hS:St w0 H L w)(hV:Rj x Q):
    ∃(f:Nat)(args:Array Value),(∀w,(callMethod u "sextant/value.rank" ([]:List Value).toArray).run Tryz.prog w=.ok (.enter f args) w)/\Calls Tryz.prog f args w fun e w'=>∃(r1:Int),Q r1/\e=.returned (.int .i64 r1)/\I64 r1/\St w0 H (L) w':=by
  cases x with
  |nil=>exact hV.elim
  |truth t=>obtain rfl:=hx;exact⟨_,_,Tryz.m_rankT (.bool t) _,AbG hS hV⟩
  |num n=>obtain⟨rfl,hr⟩:=hx;exact⟨_,_,Tryz.m_rankN (.int .i64 n) _,AaO hr hS hV⟩
  |text s=>obtain rfl:=hx;exact⟨_,_,Tryz.m_rankX (sv s) _,AaQ hS hV⟩
  |atom s=>obtain rfl:=hx;exact⟨_,_,Tryz.m_rankA (sv s) _,AbC hS hV⟩
  |set l h=>have hx2:=hx;obtain⟨b,v,fz,rfl,h2⟩:=hx;exact⟨_,_,Tryz.m_rankS _ _,AbF (IsPS.mk hx2) hS hV⟩
  |fn k v h=>have hx2:=hx;obtain⟨b,v1,v2,fz,rfl,h2⟩:=hx;exact⟨_,_,Tryz.m_rankF _ _,AaT (IsPF.mk hx2) hS hV⟩
theorem XU{a:Bool}{Q:Int->Prop}(hS:St w0 H L w)(hV:KZ a Q):
 Cl 274 #[.bool a] w (pI w0 H L Q):=by
 refine BW func274 ntmps274 ?_
 refine zz ?_
 exact v1
theorem Xi{a:Int}{Q:Int->Prop}(b:I64 a)(hS:St w0 H L w)(hV:LC a Q):
 Cl 279 #[i6 a] w (pI w0 H L Q):=by
 refine BW func279 ntmps279 ?_
 refine zz ?_
 exact v1
theorem WX{a:Aa}{Q:Int->Prop}(hS:St w0 H L w)(hV:Lq a Q):
 Cl 285 #[sv a] w (pI w0 H L Q):=by
 refine BW func285 ntmps285 ?_
 refine zz ?_
 exact v1
theorem WR{a:Aa}{Q:Int->Prop}(hS:St w0 H L w)(hV:Lk a Q):
 Cl 288 #[sv a] w (pI w0 H L Q):=by
 refine BW func288 ntmps288 ?_
 refine zz ?_
 exact v1
theorem Wy{s_1:Val}{d:Value}{Q:Int->Prop}(b:IsPS H d s_1)(hS:St w0 H L w)(hV:LM s_1 Q):
 Cl 291 #[d] w (pI w0 H L Q):=by
 refine BW func291 ntmps291 ?_
 obtain⟨c,hV⟩:=hV
 refine zz ?_
 refine Rn hS (Fx rfl b c) ?_
 refine Rx hS (SM underlying96 rfl sizeOf3 rfl rfl b c) ?_
 intro g e
 refine Rx hS (Bp isAgg3 rfl rfl e) ?_
 intro h f
 obtain⟨rfl,a⟩:=Bh f
 replace a:=Bx a
 replace hV:=hV a
 refine zz ?_
 exact v1
theorem WW{f_1:Val}{d:Value}{Q:Int->Prop}(b:IsPF H d f_1)(hS:St w0 H L w)(hV:LF f_1 Q):
 Cl 296 #[d] w (pI w0 H L Q):=by
 refine BW func296 ntmps296 ?_
 obtain⟨c,hV⟩:=hV
 refine zz ?_
 refine Rn hS (Cn rfl b c) ?_
 refine Rx hS (VR underlying100 rfl sizeOf3 rfl rfl b c) ?_
 intro g e
 refine Rx hS (Bp isAgg3 rfl rfl e) ?_
 intro h f
 obtain⟨rfl,a⟩:=Bh f
 replace a:=Bx a
 replace hV:=hV a
 refine zz ?_
 exact v1
theorem Tryz.m_weightT(v:Value)(args:Array Value)(w:World):(callMethod (.iface 86 v) "sextant/value.weight" args).run Tryz.prog w=.ok (.enter 274 (#[v]++args)) w:=by kernel_rfl
theorem Tryz.m_weightN(v:Value)(args:Array Value)(w:World):(callMethod (.iface 87 v) "sextant/value.weight" args).run Tryz.prog w=.ok (.enter 279 (#[v]++args)) w:=by kernel_rfl
theorem Tryz.m_weightX(v:Value)(args:Array Value)(w:World):(callMethod (.iface 89 v) "sextant/value.weight" args).run Tryz.prog w=.ok (.enter 285 (#[v]++args)) w:=by kernel_rfl
theorem Tryz.m_weightA(v:Value)(args:Array Value)(w:World):(callMethod (.iface 91 v) "sextant/value.weight" args).run Tryz.prog w=.ok (.enter 288 (#[v]++args)) w:=by kernel_rfl
theorem Tryz.m_weightS(v:Value)(args:Array Value)(w:World):(callMethod (.iface 93 v) "sextant/value.weight" args).run Tryz.prog w=.ok (.enter 291 (#[v]++args)) w:=by kernel_rfl
theorem Tryz.m_weightF(v:Value)(args:Array Value)(w:World):(callMethod (.iface 97 v) "sextant/value.weight" args).run Tryz.prog w=.ok (.enter 296 (#[v]++args)) w:=by kernel_rfl
theorem XQ{x:Val}{u:Value}{Q:Int->Prop}(hx:IsW H u x)(hS:St w0 H L w)(hV:LB x Q):
    ∃(f:Nat)(args:Array Value),(∀w,(callMethod u "sextant/value.weight" ([]:List Value).toArray).run Tryz.prog w=.ok (.enter f args) w)/\Calls Tryz.prog f args w fun e w'=>∃(r1:Int),Q r1/\e=.returned (.int .i64 r1)/\I64 r1/\St w0 H (L) w':=by
  cases x with
  |nil=>exact hV.elim
  |truth t=>obtain rfl:=hx;exact⟨_,_,Tryz.m_weightT (.bool t) _,XU hS hV⟩
  |num n=>obtain⟨rfl,hr⟩:=hx;exact⟨_,_,Tryz.m_weightN (.int .i64 n) _,Xi hr hS hV⟩
  |text s=>obtain rfl:=hx;exact⟨_,_,Tryz.m_weightX (sv s) _,WX hS hV⟩
  |atom s=>obtain rfl:=hx;exact⟨_,_,Tryz.m_weightA (sv s) _,WR hS hV⟩
  |set l h=>have hx2:=hx;obtain⟨b,v,fz,rfl,h2⟩:=hx;exact⟨_,_,Tryz.m_weightS _ _,Wy (IsPS.mk hx2) hS hV⟩
  |fn k v h=>have hx2:=hx;obtain⟨b,v1,v2,fz,rfl,h2⟩:=hx;exact⟨_,_,Tryz.m_weightF _ _,WW (IsPF.mk hx2) hS hV⟩
theorem Yi{v_1:Val}{a:Value}{Q:Int->Prop}(b:IsW H a v_1)(hS:St w0 H L w)(hV:Nr v_1 Q):
 Cl 48 #[.agg #[a]] w (pI w0 H L Q):=by
 refine BW func48 ntmps48 ?_
 refine zz ?_
 refine WL.box (arr:=#[a]) rfl rfl rfl hS ?_
 intro e w hS
 refine zz ?_
 refine Rn hS (IG iface23 rfl b) ?_
 refine zz ?_
 refine Cf hV ?_ ?_<;>intro h hV
 replace hS:=hS.drop
 refine zz ?_
 exact v1
 refine zz ?_
 obtain⟨f,g,d,c⟩:=Abf b hS hV
 refine Rc (Og (vs:=[]) rfl trivial d) (c) ?_
 rintro _ w⟨j,hV,rfl,i,hS⟩
 refine⟨_,rfl,?_⟩
 replace hS:=hS.drop
 refine zz ?_
 exact v1
theorem Kv{v_1:Val}{a:Value}{Q:Int->Prop}(b:IsW H a v_1)(hS:St w0 H L w)(hV:Eb v_1 Q):
 Cl 13 #[.agg #[a]] w (pI w0 H L Q):=by
 refine BW func13 ntmps13 ?_
 refine zz ?_
 refine WL.box (arr:=#[a]) rfl rfl rfl hS ?_
 intro e w hS
 refine zz ?_
 refine Rn hS (IG iface23 rfl b) ?_
 refine zz ?_
 refine Cf hV ?_ ?_<;>intro h hV
 replace hS:=hS.drop
 refine zz ?_
 exact v1
 refine zz ?_
 obtain⟨f,g,d,c⟩:=XQ b hS hV
 refine Rc (Og (vs:=[]) rfl trivial d) (c) ?_
 rintro _ w⟨j,hV,rfl,i,hS⟩
 refine⟨_,rfl,?_⟩
 replace hS:=hS.drop
 refine zz ?_
 exact v1
theorem Vh{g:Value}{d:List UInt8}{f:Ar}{c:Bool}{Q:(List UInt8)->Prop}(i:OwnSl H cB8 5 g d f)(hS:St w0 H (f++L) w)(hV:NB d c Q):
 Cl 276 #[g,.bool c] w (pY w0 H L Q):=by
 refine Co func276 ntmps276 ?_
 exact Z
theorem Xu{d:Value}{b:List UInt8}{c:Ar}{a:Bool}{Q:(List UInt8)->Prop}(e:OwnSl H cB8 5 d b c)(hS:St w0 H (c++L) w)(hV:Pb b a Q):
 Cl 275 #[d,.bool a] w (pY w0 H L Q):=by
 refine Co func275 ntmps275 ?_
 refine zz ?_
 refine Rd call276 (Vh e hS hV) ?_
 rintro _ w⟨h,i,f,hV,rfl,g,hS⟩
 refine zz ?_
 exact v1
theorem Xe{n:Value}{l:List UInt8}{m:Ar}{i:Int}{c:Int}{Q:(List UInt8)->Prop}(C:OwnSl H cB8 5 n l m)(E:I64 i)(A:I64 c)(hN:GlobN w0 H)(hS:St w0 H (m++L) w)(hV:PA l i c Q):
 Cl 281 #[n,i6 i,i6 c] w (pY w0 H L Q):=by
 refine Li func281 ntmps281 ?_
 obtain⟨o,r,hV⟩:=hV
 iterate 8 refine z ?_
 refine WC.meet (fun a w=>∃f d j g,o (f,d)/\OwnSl H cB8 5 j f g/\IntKind.u64.has d/\St w0 H (g++L) w/\Fr 21 [(0,j),(2,i6 c),(7,.int .u64 d)] a) ?_ ?_
 rintro a w⟨f,d,j,g,hI,t,x,hS,ha⟩
 refine Ab ha ?_
 have hV:=r _ hI
 refine zz ?_
 refine Rd call282 (Xg t x A hN hS hV) ?_
 rintro _ w⟨F,G,B,hV,rfl,D,hS⟩
 refine zz ?_
 exact v1
 exact Z
theorem Aab{e:Value}{c:List UInt8}{d:Ar}{b:Int}{a:Int}{Q:(List UInt8)->Prop}(f:OwnSl H cB8 5 e c d)(g:I64 b)(h:I64 a)(hN:GlobN w0 H)(hS:St w0 H (d++L) w)(hV:Ng c b a Q):
 Cl 280 #[e,i6 b,i6 a] w (pY w0 H L Q):=by
 refine Li func280 ntmps280 ?_
 refine zz ?_
 refine Rd call281 (Xe f g h hN hS hV) ?_
 rintro _ w⟨k,l,i,hV,rfl,j,hS⟩
 refine zz ?_
 exact v1
theorem Abn{c:Bool}{d:Value}{a:List UInt8}{b:Ar}{Q:(List UInt8)->Prop}(e:OwnSl H cB8 5 d a b)(hS:St w0 H (b++L) w)(hV:Wf c a Q):
 Cl 273 #[.bool c,d] w (pY w0 H L Q):=by
 refine Co func273 ntmps273 ?_
 refine zz ?_
 refine Rd call275 (Xu e hS hV) ?_
 rintro _ w⟨h,i,f,hV,rfl,g,hS⟩
 refine zz ?_
 exact v1
theorem Ack{a:Int}{v_4:Value}{b:List UInt8}{c:Ar}{Q:(List UInt8)->Prop}(e:I64 a)(d:OwnSl H cB8 5 v_4 b c)(hN:GlobN w0 H)(hS:St w0 H (c++L) w)(hV:Vk a b Q):
 Cl 278 #[i6 a,v_4] w (pY w0 H L Q):=by
 refine Co func278 ntmps278 ?_
 refine zz ?_
 refine Rd call280 (Aab d e (show I64 (10:Int) by unfold I64;omega) hN hS hV) ?_
 rintro _ w⟨h,i,f,hV,rfl,g,hS⟩
 refine zz ?_
 exact v1
theorem AbL{b:Aa}{h:Value}{a:List UInt8}{d:Ar}{Q:(List UInt8)->Prop}(m:OwnSl H cB8 5 h a d)(hS:St w0 H (d++L) w)(hV:Vt b a Q):
 Cl 284 #[sv b,h] w (pY w0 H L Q):=by
 refine Co func284 ntmps284 ?_
 refine zz ?_
 refine WL.build1 (c:=cB8) (y:=u8 (34:Int)) rfl underlying71 info5 rfl rfl (Hg (JC ⟨by omega,by omega⟩)) hS ?_
 intro B w n i hS
 obtain⟨e,hV⟩:=hV
 replace hS:=hS.f2
 refine WL.append (c:=cB8) (xs:=a) (ys:=([u8 (34:Int)])) rfl underlying71 info5 rfl rfl rfl hS m (i.src hS.f2) e.1 e.2 ?_
 intro u w o j hS
 obtain⟨f,hV⟩:=hV
 refine R hS ?_
 refine WL.appends (xs:=(a++([u8 (34:Int)]))) (s:=b) rfl underlying71 underlying89 info5 rfl rfl rfl hS j f.1 f.2 ?_
 intro v w p k hS
 refine WL.build1 (c:=cB8) (y:=u8 (34:Int)) rfl underlying71 info5 rfl rfl (Hg (JC ⟨by omega,by omega⟩)) hS ?_
 intro x w q l hS
 obtain⟨g,hV⟩:=hV
 replace hS:=hS.f2
 refine WL.append (c:=cB8) (xs:=((a++([u8 (34:Int)]))++b)) (ys:=([u8 (34:Int)])) rfl underlying71 info5 rfl rfl rfl hS k (l.src hS.f2) g.1 g.2 ?_
 intro A w r t hS
 replace hS:=hS.f3.drop
 replace hS:=hS.f2.drop
 refine zz ?_
 exact v1
theorem Abw{a_1:Aa}{d:Value}{a:List UInt8}{b:Ar}{Q:(List UInt8)->Prop}(e:OwnSl H cB8 5 d a b)(hS:St w0 H (b++L) w)(hV:Wm a_1 a Q):
 Cl 287 #[sv a_1,d] w (pY w0 H L Q):=by
 refine Co func287 ntmps287 ?_
 obtain⟨c,hV⟩:=hV
 refine zz ?_
 refine WL.appends (xs:=a) (s:=a_1) rfl underlying71 underlying91 info5 rfl rfl rfl hS e c.1 c.2 ?_
 intro h w f g hS
 refine zz ?_
 exact v1
def KD(G:Val->(List UInt8)->((List UInt8)->Prop)->Prop):Prop:=∀{w0:World}{H:View}{L:Ar}{w:World}{v_1:Val}{c:Value}{d:Value}{a:List UInt8}{b:Ar}{Q:(List UInt8)->Prop}(f:IsW H c v_1)(g:OwnSl H cB8 5 d a b)(hN:GlobN w0 H)(hS:St w0 H (b++L) w)(hV:G v_1 a Q),Calls Tryz.prog 30 #[.agg #[c],d] w fun e w'=>∃(r1:List UInt8)(v1:Value)(fp1:Ar),Q r1/\e=.returned (v1)/\OwnSl H cB8 5 v1 r1 fp1/\St w0 H (fp1++L) w'
theorem Ye{G:Val->(List UInt8)->((List UInt8)->Prop)->Prop}(hG:KD G){i:Value}{d:List UInt8}{f:Ar}{b:Int}{b_9:Nat}{e:Val}{c:Value}{Q:(List UInt8)->Prop}(k:OwnSl H cB8 5 i d f)(q:I64 b)(g:IsPS H c e)(hN:GlobN w0 H)(hS:St w0 H (f++([(b_9,oc #[c] 93)]++L)) w)(hV:Nl G d b e Q):
 Cl 293 #[i,i6 b,(pq b_9)] w (pY w0 H ([(b_9,oc #[c] 93)]++L) Q):=by
 refine Li func293 ntmps293 ?_
 replace hS:=hS.f2
 obtain⟨h,hV⟩:=hV
 refine zz ?_
 refine Rn hS (Fx rfl g h) ?_
 refine Rx hS (IH underlying96 rfl sizeOf42 rfl rfl g h) ?_
 intro r m
 refine Rx hS (Bp isAgg42 rfl rfl m) ?_
 intro u a
 replace a:=Bq a
 obtain⟨l,hV⟩:=hV
 refine R hS ?_
 refine Rx hS (Au underlying42 sizeOf25 rfl rfl a l) ?_
 intro s n
 refine Rx hS (AE isAgg25 sizeOf25 rfl n) ?_
 rintro v⟨_,rfl,hu⟩
 obtain⟨x,rfl,j⟩:=Aw hu
 replace hS:=hS.f2
 refine R hS ?_
 refine Rd call30 (hG j k hN hS hV) ?_
 rintro _ w⟨t,A,o,hV,rfl,p,hS⟩
 replace hS:=hS.f2.f2
 refine zz ?_
 exact v1
theorem Aao{G:Val->(List UInt8)->((List UInt8)->Prop)->Prop}(hG:KD G){i:Value}{d:List UInt8}{f:Ar}{b:Int}{b_9:Nat}{e:Val}{c:Value}{Q:(List UInt8)->Prop}(k:OwnSl H cB8 5 i d f)(q:I64 b)(g:IsPF H c e)(hN:GlobN w0 H)(hS:St w0 H (f++([(b_9,oc #[c] 97)]++L)) w)(hV:Nz G d b e Q):
 Cl 297 #[i,i6 b,(pq b_9)] w (pY w0 H ([(b_9,oc #[c] 97)]++L) Q):=by
 refine Li func297 ntmps297 ?_
 replace hS:=hS.f2
 obtain⟨h,hV⟩:=hV
 refine zz ?_
 refine Rn hS (Cn rfl g h) ?_
 refine Rx hS (Hn underlying100 rfl sizeOf42 rfl rfl g h) ?_
 intro r m
 refine Rx hS (Bp isAgg42 rfl rfl m) ?_
 intro u a
 replace a:=Bq a
 obtain⟨l,hV⟩:=hV
 refine R hS ?_
 refine Rx hS (Au underlying42 sizeOf25 rfl rfl a l) ?_
 intro s n
 refine Rx hS (AE isAgg25 sizeOf25 rfl n) ?_
 rintro v⟨_,rfl,hu⟩
 obtain⟨x,rfl,j⟩:=Aw hu
 replace hS:=hS.f2
 refine R hS ?_
 refine Rd call30 (hG j k hN hS hV) ?_
 rintro _ w⟨t,A,o,hV,rfl,p,hS⟩
 replace hS:=hS.f2.f2
 refine zz ?_
 exact v1
theorem Zy{G:Val->(List UInt8)->((List UInt8)->Prop)->Prop}(hG:KD G){x:Value}{g:List UInt8}{b:Ar}{f:Int}{b_9:Nat}{i:Val}{a:Value}{Q:(List UInt8)->Prop}(A:OwnSl H cB8 5 x g b)(a4:I64 f)(c:IsPF H a i)(hN:GlobN w0 H)(hS:St w0 H (b++([(b_9,oc #[a] 97)]++L)) w)(hV:Nj G g f i Q):
 Cl 298 #[x,i6 f,(pq b_9)] w (pY w0 H ([(b_9,oc #[a] 97)]++L) Q):=by
 refine Li func298 ntmps298 ?_
 iterate 4 refine z ?_
 refine WC.drawn (σ:=[0,1,2,3,4,5,6,7,8,9,10,11,12,13,14,15,16,17,18]) [[],[0],[0,1],[0,1,2],[],[0,1,2,3,4],[0,1,2,3,4,5],[],[7],[7,8],[7,8,9],[],[7,8,9,10,11],[7,8,9,10,11,12],[],[7,8,9,10,11,12,13,14],[7,8,9,10,11,12,13,14,15],[0,1,2,3,4,5,6,7,8,9,10,11,12,13,14,15,16],[0,1,2,3,4,5,6,7,8,9,10,11,12,13,14,15,16,17]] [15,16,17] mixed (by kernel_rfl) (hS.drawn _) ?_
 refine Wd.runb (off:=0) rfl rfl rfl rfl (fun _ _ _ h=>Aj isAgg97 rfl h) rfl (fun _ h=>St.f2 h) fun a9 n=>?_
 obtain⟨l,hV⟩:=hV
 refine Wd.run rfl rfl rfl rfl (fun _=>Cn rfl c l) fun b0 o=>?_
 refine Wd.runx rfl rfl rfl rfl (AA (Hn underlying100 rfl sizeOf42 rfl rfl c l)) ?_
 intro a5 J
 intro b1 p
 refine Wd.runs (fp:=([]:Ar)) (L:=b++([(b_9,oc #[a] 97)]++L)) rfl rfl rfl rfl (Dl isAgg42 rfl rfl J) (fun _ h=>h) ?_
 intro c6 d
 replace d:=Bq d
 intro b2 q
 refine Dm fun b3 r=>?_
 obtain⟨F,hV⟩:=hV
 refine Wd.runx rfl rfl rfl rfl (AA (Au underlying42 sizeOf25 rfl rfl d F)) ?_
 intro a6 K
 intro b4 t
 refine Wd.runs (fp:=([]:Ar)) (L:=b++([(b_9,oc #[a] 97)]++L)) rfl rfl rfl rfl (AT isAgg25 sizeOf25 rfl K) (fun _ h=>h) ?_
 rintro c7⟨_,rfl,hu⟩
 obtain⟨c8,rfl,B⟩:=Aw hu
 intro b5 u
 refine Wd.runb (off:=0) rfl rfl rfl rfl (fun _ _ _ h=>Aj isAgg97 rfl h) rfl (fun _ h=>St.f2 h) fun b6 U=>?_
 obtain⟨m,hV⟩:=hV
 refine Wd.run rfl rfl rfl rfl (fun _=>Cn rfl c m) fun b7 V=>?_
 refine Wd.runx rfl rfl rfl rfl (AA (Hq underlying100 rfl sizeOf42 rfl rfl c m)) ?_
 intro a7 N
 intro b8 W
 refine Wd.runs (fp:=([]:Ar)) (L:=b++([(b_9,oc #[a] 97)]++L)) rfl rfl rfl rfl (Dl isAgg42 rfl rfl N) (fun _ h=>h) ?_
 intro c9 e
 replace e:=Bq e
 intro b9 Y
 refine Dm fun c0 Z=>?_
 obtain⟨I,hV⟩:=hV
 refine Wd.runx rfl rfl rfl rfl (AA (Au underlying42 sizeOf25 rfl rfl e I)) ?_
 intro a8 O
 intro c1 a0
 refine Wd.runs (fp:=([]:Ar)) (L:=b++([(b_9,oc #[a] 97)]++L)) rfl rfl rfl rfl (AT isAgg25 sizeOf25 rfl O) (fun _ h=>h) ?_
 rintro d0⟨_,rfl,hu⟩
 obtain⟨d1,rfl,C⟩:=Aw hu
 intro c2 a1
 refine Dm fun c3 a2=>?_
 refine Wd.turn rfl rfl rfl fun w hS=>?_
 refine Rd call30 (hG C A hN hS hV) ?_
 rintro _ w⟨P,d2,j,hV,rfl,D,hS⟩
 refine WL.nil (DQ.mk2 hS ⟨il,il,il,il,il,il,il,il,.inr (u H (j++([(b_9,oc #[a] 97)]++L)) _ (View.le.refl _) (fun _ h=>h)),.inr (t _),.inr (r _),.inr (q H (j++([(b_9,oc #[a] 97)]++L)) _ (View.le.refl _) (fun _ h=>h)),.inr (p _),.inr (o _),.inr (n _ _ _ _ rfl (fun _ h=>St.f2 h)),trivial⟩ ?_)
 refine Wd.turn rfl rfl rfl fun w hS=>?_
 obtain⟨v,hV⟩:=hV
 refine WL.appends (xs:=P) (s:=([58,32]:Aa)) rfl underlying71 underlying9 info5 rfl rfl rfl hS D v.1 v.2 ?_
 intro d3 w k E hS
 refine WL.nil (DQ.mk2 hS ⟨il,il,il,il,il,il,il,il,.inr (u H (k++([(b_9,oc #[a] 97)]++L)) _ (View.le.refl _) (fun _ h=>h)),.inr (t _),.inr (r _),.inr (q H (k++([(b_9,oc #[a] 97)]++L)) _ (View.le.refl _) (fun _ h=>h)),.inr (p _),.inr (o _),.inr (n _ _ _ _ rfl (fun _ h=>St.f2 h)),trivial⟩ ?_)
 refine Wd.turn rfl rfl rfl fun w hS=>?_
 refine Rd call30 (hG B E hN hS hV) ?_
 rintro _ w⟨c5,d4,S,hV,rfl,T,hS⟩
 refine WL.nil (DQ.mk2 hS ⟨il,il,il,il,il,il,il,il,il,il,il,il,il,il,il,trivial⟩ ?_)
 refine Wd.run rfl rfl rfl rfl (fun _=>Ba rfl) fun c4 a3=>?_
 refine Wd.nil fun w hS=>?_
 replace hS:=hS.f2.f2
 refine zz ?_
 exact v1
theorem Xr{G:Val->(List UInt8)->((List UInt8)->Prop)->Prop}(hG:KD G){A:Value}{l:List UInt8}{x:Ar}{f:Int}{c:Nat}{t:Val}{g:Value}{Q:(List UInt8)->Prop}(U:OwnSl H cB8 5 A l x)(a0:I64 f)(F:IsPS H g t)(hN:GlobN w0 H)(hS:St w0 H (x++([(c,oc #[g] 93)]++L)) w)(hV:KW G l f t Q):
 Cl 292 #[A,i6 f,.func (.func 293) #[] #[(pq c)]] w (pY w0 H ([(c,oc #[g] 93)]++L) Q):=by
 refine Li func292 ntmps292 ?_
 replace hS:=hS.f2.f2
 obtain⟨B,O,S,hV⟩:=hV
 refine zz ?_
 refine WC.loop (σ:=(List UInt8)×Int) (fun s a w=>∃i d r n,s=(i,d)/\B (i,d)/\OwnSl H cB8 5 r i n/\I64 d/\St w0 H (n++([(c,oc #[g] 93)]++L)) w/\Fr 22 [(0,r),(2,.func (.func 293) #[] #[(pq c)]),(8,i6 f),(9,i6 d)] a) O (l,(0:Int)) ?_ ?_
 exact y
 rintro _ a w⟨i,d,r,n,rfl,hI,V,N,hS,ha⟩
 refine Ab ha ?_
 replace hV:=hV _ hI
 refine zz ?_
 refine Ce hV ?_ ?_<;>intro W hV
 obtain⟨C,D,hV⟩:=hV
 iterate 8 refine z ?_
 refine WC.meet (fun a w=>∃m j o,C m/\OwnSl H cB8 5 j m o/\St w0 H (o++([(c,oc #[g] 93)]++L)) w/\Fr 22 [(0,j),(2,.func (.func 293) #[] #[(pq c)]),(7,i6 d),(8,i6 f),(9,i6 d)] a) ?_ ?_
 rintro a w⟨m,j,o,hI,E,hS,ha⟩
 refine Ab ha ?_
 have hV:=D _ hI
 replace hS:=hS.f2.f2
 refine zz ?_
 refine Rc (As (vs:=[j,i6 d]) (caps:=[(pq c)]) rfl call293 ⟨rfl,rfl,trivial⟩) (Ye (@hG) E N F hN hS hV) ?_
 rintro _ w⟨a1,a2,P,hV,rfl,T,hS⟩
 refine⟨_,rfl,?_⟩
 obtain⟨Y,hV⟩:=hV
 replace hS:=hS.f2.f2
 refine zz ?_
 exact y
 exact Z
 replace hS:=hS.f2.f2
 refine zz ?_
 exact v1
theorem Ur{G:Val->(List UInt8)->((List UInt8)->Prop)->Prop}(hG:KD G){A:Value}{l:List UInt8}{x:Ar}{f:Int}{c:Nat}{t:Val}{g:Value}{Q:(List UInt8)->Prop}(U:OwnSl H cB8 5 A l x)(a0:I64 f)(F:IsPF H g t)(hN:GlobN w0 H)(hS:St w0 H (x++([(c,oc #[g] 97)]++L)) w)(hV:Jw G l f t Q):
 Cl 292 #[A,i6 f,.func (.func 297) #[] #[(pq c)]] w (pY w0 H ([(c,oc #[g] 97)]++L) Q):=by
 refine Li func292 ntmps292 ?_
 replace hS:=hS.f2.f2
 obtain⟨B,O,S,hV⟩:=hV
 refine zz ?_
 refine WC.loop (σ:=(List UInt8)×Int) (fun s a w=>∃i d r n,s=(i,d)/\B (i,d)/\OwnSl H cB8 5 r i n/\I64 d/\St w0 H (n++([(c,oc #[g] 97)]++L)) w/\Fr 22 [(0,r),(2,.func (.func 297) #[] #[(pq c)]),(8,i6 f),(9,i6 d)] a) O (l,(0:Int)) ?_ ?_
 exact y
 rintro _ a w⟨i,d,r,n,rfl,hI,V,N,hS,ha⟩
 refine Ab ha ?_
 replace hV:=hV _ hI
 refine zz ?_
 refine Ce hV ?_ ?_<;>intro W hV
 obtain⟨C,D,hV⟩:=hV
 iterate 8 refine z ?_
 refine WC.meet (fun a w=>∃m j o,C m/\OwnSl H cB8 5 j m o/\St w0 H (o++([(c,oc #[g] 97)]++L)) w/\Fr 22 [(0,j),(2,.func (.func 297) #[] #[(pq c)]),(7,i6 d),(8,i6 f),(9,i6 d)] a) ?_ ?_
 rintro a w⟨m,j,o,hI,E,hS,ha⟩
 refine Ab ha ?_
 have hV:=D _ hI
 replace hS:=hS.f2.f2
 refine zz ?_
 refine Rc (As (vs:=[j,i6 d]) (caps:=[(pq c)]) rfl call297 ⟨rfl,rfl,trivial⟩) (Aao (@hG) E N F hN hS hV) ?_
 rintro _ w⟨a1,a2,P,hV,rfl,T,hS⟩
 refine⟨_,rfl,?_⟩
 obtain⟨Y,hV⟩:=hV
 replace hS:=hS.f2.f2
 refine zz ?_
 exact y
 exact Z
 replace hS:=hS.f2.f2
 refine zz ?_
 exact v1
theorem TZ{G:Val->(List UInt8)->((List UInt8)->Prop)->Prop}(hG:KD G){A:Value}{l:List UInt8}{x:Ar}{f:Int}{c:Nat}{t:Val}{g:Value}{Q:(List UInt8)->Prop}(U:OwnSl H cB8 5 A l x)(a0:I64 f)(F:IsPF H g t)(hN:GlobN w0 H)(hS:St w0 H (x++([(c,oc #[g] 97)]++L)) w)(hV:Jy G l f t Q):
 Cl 292 #[A,i6 f,.func (.func 298) #[] #[(pq c)]] w (pY w0 H ([(c,oc #[g] 97)]++L) Q):=by
 refine Li func292 ntmps292 ?_
 replace hS:=hS.f2.f2
 obtain⟨B,O,S,hV⟩:=hV
 refine zz ?_
 refine WC.loop (σ:=(List UInt8)×Int) (fun s a w=>∃i d r n,s=(i,d)/\B (i,d)/\OwnSl H cB8 5 r i n/\I64 d/\St w0 H (n++([(c,oc #[g] 97)]++L)) w/\Fr 22 [(0,r),(2,.func (.func 298) #[] #[(pq c)]),(8,i6 f),(9,i6 d)] a) O (l,(0:Int)) ?_ ?_
 exact y
 rintro _ a w⟨i,d,r,n,rfl,hI,V,N,hS,ha⟩
 refine Ab ha ?_
 replace hV:=hV _ hI
 refine zz ?_
 refine Ce hV ?_ ?_<;>intro W hV
 obtain⟨C,D,hV⟩:=hV
 iterate 8 refine z ?_
 refine WC.meet (fun a w=>∃m j o,C m/\OwnSl H cB8 5 j m o/\St w0 H (o++([(c,oc #[g] 97)]++L)) w/\Fr 22 [(0,j),(2,.func (.func 298) #[] #[(pq c)]),(7,i6 d),(8,i6 f),(9,i6 d)] a) ?_ ?_
 rintro a w⟨m,j,o,hI,E,hS,ha⟩
 refine Ab ha ?_
 have hV:=D _ hI
 replace hS:=hS.f2.f2
 refine zz ?_
 refine Rc (As (vs:=[j,i6 d]) (caps:=[(pq c)]) rfl call298 ⟨rfl,rfl,trivial⟩) (Zy (@hG) E N F hN hS hV) ?_
 rintro _ w⟨a1,a2,P,hV,rfl,T,hS⟩
 refine⟨_,rfl,?_⟩
 obtain⟨Y,hV⟩:=hV
 replace hS:=hS.f2.f2
 refine zz ?_
 exact y
 exact Z
 replace hS:=hS.f2.f2
 refine zz ?_
 exact v1
theorem Kk{f:Value}{d:List Val}{Q:Bool->Prop}(g:IsSl H cV f d)(hS:St w0 H L w)(hV:Fo d Q):
 Cl 209 #[f] w (pB w0 H L Q):=by
 refine BW func209 ntmps209 ?_
 have r:=g.bound
 replace hV:=hV r
 refine zz ?_
 refine Rn hS (Ao underlying42 rfl g) ?_
 obtain⟨j,x,B,hV⟩:=hV
 refine zz ?_
 refine WC.loop (σ:=Int) (fun s a w=>∃c,s=c/\j c/\I64 c/\St w0 H (L) w/\Fr 29 [(7,f),(8,i6 (d.length:Int)),(9,i6 c)] a) x (0:Int) ?_ ?_
 exact y
 rintro c a w⟨_,rfl,hI,D,hS,ha⟩
 refine Ab ha ?_
 replace hV:=hV _ hI
 refine zz ?_
 refine Ce hV ?_ ?_<;>intro C hV
 obtain⟨o,hV⟩:=hV
 refine zz ?_
 refine Rx hS (Au underlying42 sizeOf25 rfl rfl g o) ?_
 intro E t
 refine Rx hS (AE isAgg25 sizeOf25 rfl t) ?_
 rintro F⟨_,rfl,hu⟩
 obtain⟨G,rfl,n⟩:=Aw hu
 refine aV hS ?_
 intro A w hS
 refine R hS ?_
 refine sA hS ?_
 intro w hS
 refine zz ?_
 refine Rn hS (Ja concrete87 zeroValue87 rfl n) ?_
 replace hS:=hS.drop
 obtain⟨l,m,hV⟩:=hV
 iterate 6 refine z ?_
 refine WC.meet (fun a w=>∃i,l i/\St w0 H (L) w/\Fr 29 [(7,f),(8,i6 (d.length:Int)),(9,i6 c),(27,.bool i)] a) ?_ ?_
 rintro a w⟨i,hI,hS,ha⟩
 refine Ab ha ?_
 have hV:=m _ hI
 exact Z
 exact Z
 refine zz ?_
 exact v1
theorem AbI{G:Val->(List UInt8)->((List UInt8)->Prop)->Prop}(hG:KD G){s_1:Val}{e:Value}{k:Value}{d:List UInt8}{f:Ar}{Q:(List UInt8)->Prop}(a:IsPS H e s_1)(p:OwnSl H cB8 5 k d f)(hN:GlobN w0 H)(hS:St w0 H (f++L) w)(hV:VM G s_1 d Q):
 Cl 290 #[e,k] w (pY w0 H L Q):=by
 refine Co func290 ntmps290 ?_
 refine zz ?_
 refine WL.box (arr:=#[e]) rfl rfl (AN (IsPS.one a)) hS ?_
 intro b_9 w hS
 refine zz ?_
 refine WL.build1 (c:=cB8) (y:=u8 (123:Int)) rfl underlying71 info5 rfl rfl (Hg (JC ⟨by omega,by omega⟩)) hS ?_
 intro D w s l hS
 obtain⟨i,hV⟩:=hV
 replace hS:=hS.f3
 refine WL.append (c:=cB8) (xs:=d) (ys:=([u8 (123:Int)])) rfl underlying71 info5 rfl rfl rfl hS p (l.src hS.f2) i.1 i.2 ?_
 intro E w t m hS
 replace hS:=hS.f2.drop
 replace hS:=hS.f2
 obtain⟨g,hV⟩:=hV
 refine zz ?_
 refine Rn hS (Fx rfl a g) ?_
 refine Rx hS (IH underlying96 rfl sizeOf42 rfl rfl a g) ?_
 intro B q
 refine Rx hS (Bp isAgg42 rfl rfl q) ?_
 intro C b
 replace b:=Bq b
 have h:Len (s_1.setL):=b.bound
 replace hV:=hV h
 refine Rn hS (Ao underlying42 rfl b) ?_
 refine Rn hS (AR (vs:=[(pq b_9)]) ⟨rfl,trivial⟩) ?_
 replace hS:=hS.f2
 refine Rd call292 (Xr (@hG) m (Len.i64 h) a hN hS hV) ?_
 rintro _ w⟨r,F,u,hV,rfl,n,hS⟩
 replace hS:=hS.f2.drop
 refine zz ?_
 refine WL.build1 (c:=cB8) (y:=u8 (125:Int)) rfl underlying71 info5 rfl rfl (Hg (JC ⟨by omega,by omega⟩)) hS ?_
 intro I w v o hS
 obtain⟨j,hV⟩:=hV
 replace hS:=hS.f2
 refine WL.append (c:=cB8) (xs:=r) (ys:=([u8 (125:Int)])) rfl underlying71 info5 rfl rfl rfl hS n (o.src hS.f2) j.1 j.2 ?_
 intro J w x A hS
 replace hS:=hS.f2.drop
 refine zz ?_
 exact v1
theorem AaS{G:Val->(List UInt8)->((List UInt8)->Prop)->Prop}(hG:KD G){f_1:Val}{g:Value}{t:Value}{b:List UInt8}{h:Ar}{Q:(List UInt8)->Prop}(a:IsPF H g f_1)(i:OwnSl H cB8 5 t b h)(hN:GlobN w0 H)(hS:St w0 H (h++L) w)(hV:Vo G f_1 b Q):
 Cl 295 #[g,t] w (pY w0 H L Q):=by
 refine Co func295 ntmps295 ?_
 refine zz ?_
 refine WL.box (arr:=#[g]) rfl rfl (AN (IsPF.one a)) hS ?_
 intro b_9 w hS
 obtain⟨j,hV⟩:=hV
 refine zz ?_
 refine Rn hS (Cn rfl a j) ?_
 refine Rx hS (Hq underlying100 rfl sizeOf42 rfl rfl a j) ?_
 intro a0 D
 refine Rx hS (Bp isAgg42 rfl rfl D) ?_
 intro a4 f
 replace f:=Bq f
 refine Rd call209 (Kk f hS hV) ?_
 rintro _ w⟨a3,hV,rfl,hS⟩
 refine zz ?_
 refine Cf hV ?_ ?_<;>intro Z hV
 obtain⟨o,hV⟩:=hV
 replace hS:=hS.f2
 refine zz ?_
 refine WL.appends (xs:=b) (s:=([60,60]:Aa)) rfl underlying71 underlying9 info5 rfl rfl rfl hS i o.1 o.2 ?_
 intro a7 w K u hS
 replace hS:=hS.f2
 obtain⟨k,hV⟩:=hV
 refine zz ?_
 refine Rn hS (Cn rfl a k) ?_
 refine Rx hS (Hn underlying100 rfl sizeOf42 rfl rfl a k) ?_
 intro a1 E
 refine Rx hS (Bp isAgg42 rfl rfl E) ?_
 intro a5 d
 replace d:=Bq d
 have m:Len (f_1.fnV):=d.bound
 replace hV:=hV m
 refine Rn hS (Ao underlying42 rfl d) ?_
 refine Rn hS (AR (vs:=[(pq b_9)]) ⟨rfl,trivial⟩) ?_
 replace hS:=hS.f2
 refine Rd call292 (Ur (@hG) u (Len.i64 m) a hN hS hV) ?_
 rintro _ w⟨I,a8,N,hV,rfl,v,hS⟩
 replace hS:=hS.f2.drop
 obtain⟨p,hV⟩:=hV
 refine zz ?_
 refine WL.appends (xs:=I) (s:=([62,62]:Aa)) rfl underlying71 underlying9 info5 rfl rfl rfl hS v p.1 p.2 ?_
 intro a9 w O W hS
 refine zz ?_
 exact v1
 refine zz ?_
 refine WL.build1 (c:=cB8) (y:=u8 (91:Int)) rfl underlying71 info5 rfl rfl (Hg (JC ⟨by omega,by omega⟩)) hS ?_
 intro b0 w P x hS
 obtain⟨q,hV⟩:=hV
 replace hS:=hS.f3
 refine WL.append (c:=cB8) (xs:=b) (ys:=([u8 (91:Int)])) rfl underlying71 info5 rfl rfl rfl hS i (x.src hS.f2) q.1 q.2 ?_
 intro b1 w S A hS
 replace hS:=hS.f2.drop
 replace hS:=hS.f2
 obtain⟨l,hV⟩:=hV
 refine zz ?_
 refine Rn hS (Cn rfl a l) ?_
 refine Rx hS (Hq underlying100 rfl sizeOf42 rfl rfl a l) ?_
 intro a2 F
 refine Rx hS (Bp isAgg42 rfl rfl F) ?_
 intro a6 e
 replace e:=Bq e
 have n:Len (f_1.fnK):=e.bound
 replace hV:=hV n
 refine Rn hS (Ao underlying42 rfl e) ?_
 refine Rn hS (AR (vs:=[(pq b_9)]) ⟨rfl,trivial⟩) ?_
 replace hS:=hS.f2
 refine Rd call292 (TZ (@hG) A (Len.i64 n) a hN hS hV) ?_
 rintro _ w⟨J,b2,T,hV,rfl,B,hS⟩
 replace hS:=hS.f2.drop
 refine zz ?_
 refine WL.build1 (c:=cB8) (y:=u8 (93:Int)) rfl underlying71 info5 rfl rfl (Hg (JC ⟨by omega,by omega⟩)) hS ?_
 intro b3 w U C hS
 obtain⟨r,hV⟩:=hV
 replace hS:=hS.f2
 refine WL.append (c:=cB8) (xs:=J) (ys:=([u8 (93:Int)])) rfl underlying71 info5 rfl rfl rfl hS B (C.src hS.f2) r.1 r.2 ?_
 intro b4 w V Y hS
 replace hS:=hS.f2.drop
 refine zz ?_
 exact v1
theorem Tryz.m_showT(v:Value)(args:Array Value)(w:World):(callMethod (.iface 86 v) "sextant/value.show" args).run Tryz.prog w=.ok (.enter 273 (#[v]++args)) w:=by kernel_rfl
theorem Tryz.m_showN(v:Value)(args:Array Value)(w:World):(callMethod (.iface 87 v) "sextant/value.show" args).run Tryz.prog w=.ok (.enter 278 (#[v]++args)) w:=by kernel_rfl
theorem Tryz.m_showX(v:Value)(args:Array Value)(w:World):(callMethod (.iface 89 v) "sextant/value.show" args).run Tryz.prog w=.ok (.enter 284 (#[v]++args)) w:=by kernel_rfl
theorem Tryz.m_showA(v:Value)(args:Array Value)(w:World):(callMethod (.iface 91 v) "sextant/value.show" args).run Tryz.prog w=.ok (.enter 287 (#[v]++args)) w:=by kernel_rfl
theorem Tryz.m_showS(v:Value)(args:Array Value)(w:World):(callMethod (.iface 93 v) "sextant/value.show" args).run Tryz.prog w=.ok (.enter 290 (#[v]++args)) w:=by kernel_rfl
theorem Tryz.m_showF(v:Value)(args:Array Value)(w:World):(callMethod (.iface 97 v) "sextant/value.show" args).run Tryz.prog w=.ok (.enter 295 (#[v]++args)) w:=by kernel_rfl
theorem AaV{G:Val->List UInt8->(List UInt8->Prop)->Prop}(hG:KD G){x:Val}{u:Value}{v0:Value}{b:Aa}{fp:Ar}{Q:Aa->Prop}(hx:IsW H u x)(hb:OwnSl H cB8 5 v0 b fp)(hN:GlobN w0 H)(hS:St w0 H (fp++L) w)(hV:Vw G x b Q):
    ∃(f:Nat)(args:Array Value),(∀w,(callMethod u "sextant/value.show" ([v0]:List Value).toArray).run Tryz.prog w=.ok (.enter f args) w)/\Calls Tryz.prog f args w fun e w'=>∃(r1:List UInt8)(v1:Value)(fp1:Ar),Q r1/\e=.returned (v1)/\OwnSl H cB8 5 v1 r1 fp1/\St w0 H (fp1++L) w':=by
  cases x with
  |nil=>exact hV.elim
  |truth t=>obtain rfl:=hx;exact⟨_,_,Tryz.m_showT (.bool t) _,Abn hb hS hV⟩
  |num n=>obtain⟨rfl,hr⟩:=hx;exact⟨_,_,Tryz.m_showN (.int .i64 n) _,Ack hr hb hN hS hV⟩
  |text s=>obtain rfl:=hx;exact⟨_,_,Tryz.m_showX (sv s) _,AbL hb hS hV⟩
  |atom s=>obtain rfl:=hx;exact⟨_,_,Tryz.m_showA (sv s) _,Abw hb hS hV⟩
  |set l h=>have hx2:=hx;obtain⟨b,v,fz,rfl,h2⟩:=hx;exact⟨_,_,Tryz.m_showS _ _,AbI (@hG) (IsPS.mk hx2) hb hN hS hV⟩
  |fn k v h=>have hx2:=hx;obtain⟨b,v1,v2,fz,rfl,h2⟩:=hx;exact⟨_,_,Tryz.m_showF _ _,AaS (@hG) (IsPF.mk hx2) hb hN hS hV⟩
theorem AdL(m0:Nat):∀{w0:World}{H:View}{L:Ar}{w:World}{v_1:Val}{b:Value}{c:Value}{a:List UInt8}{d:Ar}{Q:(List UInt8)->Prop}(e:IsW H b v_1)(f:OwnSl H cB8 5 c a d)(hN:GlobN w0 H)(hS:St w0 H (d++L) w)(hV:Ko m0 v_1 a Q),
 Cl 30 #[.agg #[b],c] w (pY w0 H L Q):=by
 induction m0 with
 |zero=>intro w0 H L w v_1 b c a d Q e f hN hS hV;exact hV.elim
 |succ m0 ih=>
  intro w0 H L w v_1 b c a d Q e f hN hS hV
  unfold Ko at hV
  refine Co func30 ntmps30 ?_
  refine zz ?_
  refine WL.box (arr:=#[b]) rfl rfl rfl hS ?_
  intro b_9 w hS
  refine zz ?_
  refine Rn hS (IG iface23 rfl e) ?_
  refine zz ?_
  refine Cf hV ?_ ?_<;>intro p hV
  obtain⟨g,hV⟩:=hV
  refine zz ?_
  replace hS:=hS.f2
  refine WL.appends (xs:=a) (s:=([110,105,108]:Aa)) rfl underlying71 underlying9 info5 rfl rfl rfl hS f g.1 g.2 ?_
  intro r w k n hS
  refine zz ?_
  replace hS:=hS.f2.drop
  refine zz ?_
  exact v1
  refine zz ?_
  replace hS:=hS.f2
  obtain⟨j,m,i,h⟩:=AaV (@ih) e f hN hS hV
  refine Rc (Og (vs:=[c]) rfl ⟨rfl,trivial⟩ i) (h) ?_
  rintro _ w⟨q,t,l,hV,rfl,o,hS⟩
  refine⟨_,rfl,?_⟩
  refine zz ?_
  replace hS:=hS.f2.drop
  refine zz ?_
  exact v1
theorem Aaz{v_1:Val}{a:Value}{Q:Aa->Prop}(d:IsW H a v_1)(hN:GlobN w0 H)(hS:St w0 H L w)(hV:NN v_1 Q):
 Cl 11 #[.agg #[a]] w fun e w'=>∃(r1:Aa),Q r1/\e=.returned (sv r1)/\St w0 H (L) w':=by
 refine BW func11 ntmps11 ?_
 refine zz ?_
 refine WL.box (arr:=#[a]) rfl rfl rfl hS ?_
 intro b w hS
 refine zz ?_
 refine Rn hS (Ac (cs:=[a]) isAgg25 sizeOf25 rfl rfl rfl) ?_
 replace hS:=hS.nilseg
 obtain⟨mf,hV⟩:=hV
 refine Rd call30 (AdL mf d OwnSl.nil hN hS hV) ?_
 rintro _ w⟨g,h,f,hV,rfl,c,hS⟩
 refine Rn hS (Gg (L:=[(b,oc #[a] 25)]++L) underlying71 underlying5 underlying9 rfl c) ?_
 replace hS:=hS.f2.drop
 replace hS:=hS.drop
 refine zz ?_
 exact v1
theorem VY{a:Int}{Q:Bool->Prop}(b:I64 a)(hS:St w0 H L w)(hV:Mw a Q):
 Cl 89 #[i6 a] w (pB w0 H L Q):=by
 refine BW func89 ntmps89 ?_
 refine zz ?_
 exact v1
theorem TF{a:Int}{Q:Bool->Prop}(b:I64 a)(hS:St w0 H L w)(hV:JX a Q):
 Cl 90 #[i6 a] w (pB w0 H L Q):=by
 refine BW func90 ntmps90 ?_
 refine zz ?_
 exact v1
theorem TJ{a:Aa}{Q:Bool->Prop}(hS:St w0 H L w)(hV:Kn a Q):
 Cl 91 #[sv a] w (pB w0 H L Q):=by
 refine BW func91 ntmps91 ?_
 refine zz ?_
 exact v1
theorem SX{a:Aa}{Q:Bool->Prop}(hS:St w0 H L w)(hV:Kp a Q):
 Cl 92 #[sv a] w (pB w0 H L Q):=by
 refine BW func92 ntmps92 ?_
 refine zz ?_
 exact v1
theorem ZO{c:Int}{d:Int}{Q:Int->Prop}(f:I64 c)(g:I64 d)(hS:St w0 H L w)(hV:Oe c d Q):
 Cl 47 #[i6 c,i6 d] w (pI w0 H L Q):=by
 refine Co func47 ntmps47 ?_
 refine zz ?_
 refine Rd call89 (VY f hS hV) ?_
 rintro _ w⟨i,hV,rfl,hS⟩
 refine zz ?_
 refine Rd call89 (VY g hS hV) ?_
 rintro _ w⟨j,hV,rfl,hS⟩
 exact Z
theorem AcY{c:Int}{d:Int}{Q:Int->Prop}(f:I64 c)(g:I64 d)(hS:St w0 H L w)(hV:Qm c d Q):
 Cl 49 #[i6 c,i6 d] w (pI w0 H L Q):=by
 refine Co func49 ntmps49 ?_
 refine zz ?_
 refine Rd call90 (TF f hS hV) ?_
 rintro _ w⟨i,hV,rfl,hS⟩
 refine zz ?_
 refine Rd call90 (TF g hS hV) ?_
 rintro _ w⟨j,hV,rfl,hS⟩
 exact Z
theorem Adu{c:Aa}{d:Aa}{Q:Int->Prop}(hS:St w0 H L w)(hV:RM c d Q):
 Cl 50 #[sv c,sv d] w (pI w0 H L Q):=by
 refine Co func50 ntmps50 ?_
 refine zz ?_
 refine Rd call91 (TJ hS hV) ?_
 rintro _ w⟨f,hV,rfl,hS⟩
 refine zz ?_
 refine Rd call91 (TJ hS hV) ?_
 rintro _ w⟨g,hV,rfl,hS⟩
 exact Z
theorem Adv{c:Aa}{d:Aa}{Q:Int->Prop}(hS:St w0 H L w)(hV:Qq c d Q):
 Cl 51 #[sv c,sv d] w (pI w0 H L Q):=by
 refine Co func51 ntmps51 ?_
 refine zz ?_
 refine Rd call92 (SX hS hV) ?_
 rintro _ w⟨f,hV,rfl,hS⟩
 refine zz ?_
 refine Rd call92 (SX hS hV) ?_
 rintro _ w⟨g,hV,rfl,hS⟩
 exact Z
theorem AaU{d:Value}{f:LI}{Q:Int->Prop}(g:IsSl H (CV .i64) d f)(hS:St w0 H L w)(hV:Qv f Q):
 Cl 53 #[d] w (pI w0 H L Q):=by
 refine BW func53 ntmps53 ?_
 have j:=g.bound
 replace hV:=hV j
 refine zz ?_
 refine Rn hS (Ao underlying130 rfl g) ?_
 obtain⟨i,l,m,hV⟩:=hV
 refine zz ?_
 refine WC.loop (σ:=Int) (fun s a w=>∃c,s=c/\i c/\I64 c/\St w0 H (L) w/\Fr 18 [(3,i6 (0:Int)),(6,d),(7,i6 (f.length:Int)),(8,i6 c)] a) l (0:Int) ?_ ?_
 exact y
 rintro c a w⟨_,rfl,hI,n,hS,ha⟩
 refine Ab ha ?_
 replace hV:=hV _ hI
 exact Z
def OZ(G:Val->Val->(Int->Prop)->Prop):Prop:=∀{w0:World}{H:View}{L:Ar}{w:World}{a_1:Val}{b:Value}{a:Val}{c:Value}{Q:Int->Prop}(d:IsW H b a_1)(f:IsW H c a)(hS:St w0 H (L) w)(hV:G a_1 a Q),Calls Tryz.prog 19 #[.agg #[b],.agg #[c]] w fun e w'=>∃(r1:Int),Q r1/\e=.returned (i6 r1)/\I64 r1/\St w0 H (L) w'
theorem OW{G:Val->Val->(Int->Prop)->Prop}(hG:OZ G){f:Value}{i:List Val}{j:Value}{l:List Val}{Q:Int->Prop}(d:IsSl H cV f i)(g:IsSl H cV j l)(hS:St w0 H L w)(hV:Gq G i l Q):
 Cl 93 #[f,j,.func (.func 19) #[] #[]] w (pI w0 H L Q):=by
 refine Li func93 ntmps93 ?_
 have C:=d.bound
 replace hV:=hV C
 refine zz ?_
 refine Rn hS (Ao underlying42 rfl d) ?_
 obtain⟨o,F,P,hV⟩:=hV
 refine zz ?_
 refine WC.loop (σ:=Int) (fun s a w=>∃c,s=c/\o c/\I64 c/\St w0 H (L) w/\Fr 39 [(0,f),(1,j),(2,.func (.func 19) #[] #[]),(11,f),(12,i6 (i.length:Int)),(13,i6 c)] a) F (0:Int) ?_ ?_
 exact y
 rintro c a w⟨_,rfl,hI,V,hS,ha⟩
 refine Ab ha ?_
 replace hV:=hV _ hI
 refine zz ?_
 refine Ce hV ?_ ?_<;>intro S hV
 obtain⟨x,hV⟩:=hV
 refine zz ?_
 refine Rx hS (Au underlying42 sizeOf25 rfl rfl d x) ?_
 intro Y D
 refine Rx hS (AE isAgg25 sizeOf25 rfl D) ?_
 rintro a2⟨_,rfl,hu⟩
 obtain⟨m,rfl,r⟩:=Aw hu
 refine aV hS ?_
 intro N w hS
 refine R hS ?_
 refine sA hS ?_
 intro w hS
 have B:=g.bound
 replace hV:=hV B
 refine zz ?_
 refine Rn hS (Ao underlying42 rfl g) ?_
 refine zz ?_
 refine Ce hV ?_ ?_<;>intro T hV
 replace hS:=hS.drop
 refine zz ?_
 exact v1
 obtain⟨A,hV⟩:=hV
 refine zz ?_
 refine Rx hS (Au underlying42 sizeOf25 rfl rfl g A) ?_
 intro a0 E
 refine Rx hS (AE isAgg25 sizeOf25 rfl E) ?_
 rintro a3⟨_,rfl,hu⟩
 obtain⟨n,rfl,t⟩:=Aw hu
 refine aV hS ?_
 intro O w hS
 refine sA hS ?_
 intro w hS
 replace hS:=hS.f2
 refine zz ?_
 refine Rn hS (Ac (cs:=[m]) isAgg25 sizeOf25 rfl rfl rfl) ?_
 replace hS:=hS.f2
 refine Rn hS (Ac (cs:=[n]) isAgg25 sizeOf25 rfl rfl rfl) ?_
 refine Rc (As (vs:=[.agg #[m],.agg #[n]]) (caps:=[]) rfl call19 ⟨rfl,rfl,trivial⟩) (hG r t hS hV) ?_
 rintro _ w⟨a1,hV,rfl,W,hS⟩
 refine⟨_,rfl,?_⟩
 replace hS:=hS.f2.drop
 replace hS:=hS.drop
 exact Z
 have U:=d.bound
 exact Z
theorem JL{G:Val->Val->(Int->Prop)->Prop}(hG:OZ G){f:Value}{a_1:List Val}{g:Value}{c:List Val}{Q:Int->Prop}(a:IsSl H cV f a_1)(b:IsSl H cV g c)(hS:St w0 H L w)(hV:FV G a_1 c Q):
 Cl 52 #[f,g] w (pI w0 H L Q):=by
 refine Co func52 ntmps52 ?_
 have d:=a.bound
 replace hV:=hV d
 refine zz ?_
 refine Rn hS (Ao underlying42 rfl a) ?_
 have e:=b.bound
 replace hV:=hV e
 refine R hS ?_
 refine Rn hS (Ao underlying42 rfl b) ?_
 refine Rd call47 (ZO (Len.i64 d) (Len.i64 e) hS hV) ?_
 rintro _ w⟨l,hV,rfl,i,hS⟩
 refine zz ?_
 refine Ce hV ?_ ?_<;>intro h hV
 refine zz ?_
 exact v1
 refine zz ?_
 refine Rd call93 (OW (@hG) a b hS hV) ?_
 rintro _ w⟨k,hV,rfl,j,hS⟩
 refine zz ?_
 exact v1
theorem Er(m0:Nat):∀{w0:World}{H:View}{L:Ar}{w:World}{a_1:Val}{i:Value}{j:Val}{g:Value}{Q:Int->Prop}(d:IsW H i a_1)(f:IsW H g j)(hS:St w0 H L w)(hV:BF m0 a_1 j Q),
 Cl 19 #[.agg #[i],.agg #[g]] w (pI w0 H L Q):=by
 induction m0 with
 |zero=>intro w0 H L w a_1 i j g Q d f hS hV;exact hV.elim
 |succ m0 ih=>
  intro w0 H L w a_1 i j g Q d f hS hV
  unfold BF at hV
  refine Co func19 ntmps19 ?_
  refine z ?_
  refine WL.box (arr:=#[i]) rfl rfl rfl hS ?_
  intro C w hS
  refine WL.box (arr:=#[g]) rfl rfl rfl hS ?_
  intro b_9 w hS
  iterate 4 refine z ?_
  refine WC.drawn (σ:=[0,2,1,3,4,5]) [[],[0],[],[0,1,2],[0,1,2,3],[0,1,2,3,4]] [1,3,4] mixed (by kernel_rfl) (hS.drawn _) ?_
  refine Wd.runbs (off:=0) (k:=1) (cs:=[i]) rfl rfl rfl rfl (fun _ _ _ h=>Ac isAgg25 sizeOf25 rfl h rfl) rfl (fun _ h=>St.f2 h) fun h8 d9=>?_
  refine Wd.runbs (off:=0) (k:=1) (cs:=[g]) rfl rfl rfl rfl (fun _ _ _ h=>Ac isAgg25 sizeOf25 rfl h rfl) rfl (fun _ h=>h) fun i4 b7=>?_
  refine Wd.turn rfl rfl rfl fun w hS=>?_
  refine Rd call48 (Yi d hS hV) ?_
  rintro _ w⟨k4,hV,rfl,c5,hS⟩
  refine WL.nil (DQ.mk2 hS ⟨.inr (b7 _ _ _ _ rfl (fun _ h=>h)),il,trivial⟩ ?_)
  refine Wd.turn rfl rfl rfl fun w hS=>?_
  refine Rd call48 (Yi f hS hV) ?_
  rintro _ w⟨k6,hV,rfl,c7,hS⟩
  refine WL.nil (DQ.mk2 hS ⟨il,il,trivial⟩ ?_)
  refine Wd.turn rfl rfl rfl fun w hS=>?_
  refine Rd call47 (ZO c5 c7 hS hV) ?_
  rintro _ w⟨c8,hV,rfl,g1,hS⟩
  refine WL.nil (DQ.mk2 hS ⟨il,il,trivial⟩ ?_)
  refine Wd.run rfl rfl rfl rfl (fun _=>Ba rfl) fun j1 e5=>?_
  refine Wd.nil fun w hS=>?_
  obtain⟨V,Y,hV⟩:=hV
  refine z ?_
  refine WC.meet (fun a w=>∃B,V B/\St w0 H ([(C,oc #[i] 25)]++([(b_9,oc #[g] 25)]++L)) w/\Fr 105 [(2,(pq C)),(3,(pq b_9)),(5,i6 c8),(25,.bool B)] a) ?_ ?_
  rintro a w⟨B,hI,hS,ha⟩
  refine Ab ha ?_
  have hV:=Y _ hI
  refine Cf hV ?_ ?_<;>intro d6 hV
  iterate 4 refine z ?_
  replace hS:=hS.drop
  replace hS:=hS.drop
  iterate 2 refine z ?_
  exact v1
  iterate 7 refine z ?_
  replace hS:=hS.drop
  iterate 2 refine z ?_
  refine Rn hS (TT concrete86 zeroValue86 rfl d) ?_
  iterate 3 refine z ?_
  refine Cf hV ?_ ?_<;>intro d5 hV
  obtain⟨a3,hV⟩:=hV
  iterate 6 refine z ?_
  refine Rn hS (TH concrete86 rfl f a3) ?_
  iterate 2 refine z ?_
  replace hS:=hS.drop
  exact Z
  refine z ?_
  refine Rn hS (Ja concrete87 zeroValue87 rfl d) ?_
  iterate 3 refine z ?_
  refine Cf hV ?_ ?_<;>intro d4 hV
  obtain⟨a4,hV⟩:=hV
  iterate 7 refine z ?_
  refine Rn hS (Xa concrete87 rfl f a4) ?_
  refine Rd call49 (AcY (I64.num d) (I64.num f) hS hV) ?_
  rintro _ w⟨k7,hV,rfl,g2,hS⟩
  iterate 2 refine z ?_
  replace hS:=hS.drop
  iterate 3 refine z ?_
  exact v1
  refine z ?_
  refine Rn hS (Uz concrete89 zeroValue89 rfl d) ?_
  iterate 3 refine z ?_
  refine Cf hV ?_ ?_<;>intro d3 hV
  obtain⟨a5,hV⟩:=hV
  iterate 7 refine z ?_
  refine Rn hS (Uw concrete89 rfl f a5) ?_
  refine Rd call50 (Adu hS hV) ?_
  rintro _ w⟨k8,hV,rfl,g3,hS⟩
  iterate 2 refine z ?_
  replace hS:=hS.drop
  iterate 3 refine z ?_
  exact v1
  refine z ?_
  refine Rn hS (UJ concrete91 zeroValue91 rfl d) ?_
  iterate 3 refine z ?_
  refine Cf hV ?_ ?_<;>intro d2 hV
  obtain⟨a6,hV⟩:=hV
  iterate 7 refine z ?_
  refine Rn hS (Ud concrete91 rfl f a6) ?_
  refine Rd call51 (Adv hS hV) ?_
  rintro _ w⟨k9,hV,rfl,g4,hS⟩
  iterate 2 refine z ?_
  replace hS:=hS.drop
  iterate 3 refine z ?_
  exact v1
  refine z ?_
  refine Rx hS (Lt concrete93 zeroValue93 rfl d) ?_
  rintro _⟨l5,rfl,P⟩
  iterate 3 refine z ?_
  refine Cf hV ?_ ?_<;>intro d1 hV
  iterate 4 refine z ?_
  refine WC.drawn (σ:=[0,1,2,3,4,5,6,7,8,9,10,11]) [[],[0],[0,1],[0,1,2],[],[4],[4,5],[4,5,6],[4,5,6,7],[4,5,6,7,8],[0,1,2,3,4,5,6,7,8,9],[0,1,2,3,4,5,6,7,8,9,10]] [10] mixed (by kernel_rfl) (hS.drawn _) ?_
  refine Dm fun j2 e6=>?_
  obtain⟨N,hV⟩:=hV
  refine Wd.run rfl rfl rfl rfl (fun _=>Fx rfl P N) fun j3 e7=>?_
  refine Wd.runx rfl rfl rfl rfl (AA (IH underlying96 rfl sizeOf42 rfl rfl P N)) ?_
  intro h0 b3
  intro j4 e8
  refine Wd.runs (fp:=([]:Ar)) (L:=[(b_9,oc #[g] 25)]++L) rfl rfl rfl rfl (Dl isAgg42 rfl rfl b3) (fun _ h=>h) ?_
  intro l6 x
  replace x:=Bq x
  intro j5 e9
  refine Wd.run rfl rfl rfl rfl (fun _=>Af (o':=0) underlying25 rfl sizeOf23 rfl rfl) fun j6 f0=>?_
  refine Wd.runb (off:=0) rfl rfl rfl rfl (fun _ _ _ h=>Aj isAgg23 rfl h) rfl (fun _ h=>h) fun j7 f1=>?_
  obtain⟨a7,hV⟩:=hV
  refine Wd.runx rfl rfl rfl rfl (AA (PU concrete93 rfl f a7)) ?_
  intro l7 S
  intro j8 f3
  obtain⟨O,hV⟩:=hV
  refine Wd.run rfl rfl rfl rfl (fun _=>Fx rfl S O) fun j9 f4=>?_
  refine Wd.runx rfl rfl rfl rfl (AA (IH underlying96 rfl sizeOf42 rfl rfl S O)) ?_
  intro h1 b4
  intro k0 f5
  refine Wd.runs (fp:=([]:Ar)) (L:=[(b_9,oc #[g] 25)]++L) rfl rfl rfl rfl (Dl isAgg42 rfl rfl b4) (fun _ h=>h) ?_
  intro l8 A
  replace A:=Bq A
  intro k1 f6
  refine Wd.turn rfl rfl rfl fun w hS=>?_
  refine Rd call52 (JL (@ih) x A hS hV) ?_
  rintro _ w⟨l0,hV,rfl,g5,hS⟩
  refine WL.nil (DQ.mk2 hS ⟨il,il,il,il,il,il,il,il,il,il,trivial⟩ ?_)
  refine Wd.run rfl rfl rfl rfl (fun _=>Ba rfl) fun k2 f7=>?_
  refine Wd.nil fun w hS=>?_
  refine z ?_
  replace hS:=hS.drop
  iterate 3 refine z ?_
  exact v1
  refine z ?_
  refine Rx hS (Ke concrete97 zeroValue97 rfl d) ?_
  rintro _⟨l9,rfl,l⟩
  iterate 3 refine z ?_
  refine Cf hV ?_ ?_<;>intro d0 hV
  obtain⟨a8,hV⟩:=hV
  iterate 6 refine z ?_
  refine Rx hS (SV concrete97 rfl f a8) ?_
  intro m1 m
  iterate 2 refine z ?_
  replace hS:=hS.drop
  refine z ?_
  refine WC.drawn (σ:=[0,1,2,3,4,5,6,7,9,10,11,12,13,14,15,16,8,17,18,19,20]) [[],[0],[0,1],[0,1,2],[],[4],[4,5],[4,5,6],[0,1,2,3,4,5,6,7],[],[9],[9,10],[9,10,11],[],[13],[13,14],[13,14,15],[0,1,2,3,4,5,6,7,8,9,10,11,12,13,14,15,16],[0,1,2,3,4,5,6,7,8,9,10,11,12,13,14,15,16,17],[0,1,2,3,4,5,6,7,8,9,10,11,12,13,14,15,16,17,18],[0,1,2,3,4,5,6,7,8,9,10,11,12,13,14,15,16,17,18,19]] [8,17,18,19] mixed (by kernel_rfl) (hS.drawn _) ?_
  refine Dm fun k3 f8=>?_
  obtain⟨D,hV⟩:=hV
  refine Wd.run rfl rfl rfl rfl (fun _=>Cn rfl l D) fun h2 f9=>?_
  refine Wd.runx rfl rfl rfl rfl (AA (Hq underlying100 rfl sizeOf42 rfl rfl l D)) ?_
  intro g6 a9
  intro h3 d7
  refine Wd.runs (fp:=([]:Ar)) (L:=L) rfl rfl rfl rfl (Dl isAgg42 rfl rfl a9) (fun _ h=>h) ?_
  intro l1 n
  replace n:=Bq n
  intro h4 d8
  refine Dm fun h5 e0=>?_
  obtain⟨E,hV⟩:=hV
  refine Wd.run rfl rfl rfl rfl (fun _=>Cn rfl m E) fun h6 e1=>?_
  refine Wd.runx rfl rfl rfl rfl (AA (Hq underlying100 rfl sizeOf42 rfl rfl m E)) ?_
  intro g7 b0
  intro h7 e2
  refine Wd.runs (fp:=([]:Ar)) (L:=L) rfl rfl rfl rfl (Dl isAgg42 rfl rfl b0) (fun _ h=>h) ?_
  intro l2 o
  replace o:=Bq o
  intro h9 e3
  refine Dm fun i0 b5=>?_
  obtain⟨F,hV⟩:=hV
  refine Wd.run rfl rfl rfl rfl (fun _=>Cn rfl l F) fun i1 b6=>?_
  refine Wd.runx rfl rfl rfl rfl (AA (Hn underlying100 rfl sizeOf42 rfl rfl l F)) ?_
  intro g8 b1
  intro i2 b8
  refine Wd.runs (fp:=([]:Ar)) (L:=L) rfl rfl rfl rfl (Dl isAgg42 rfl rfl b1) (fun _ h=>h) ?_
  intro l3 r
  replace r:=Bq r
  intro i3 b9
  refine Dm fun i5 c0=>?_
  obtain⟨G,hV⟩:=hV
  refine Wd.run rfl rfl rfl rfl (fun _=>Cn rfl m G) fun i7 c1=>?_
  refine Wd.runx rfl rfl rfl rfl (AA (Hn underlying100 rfl sizeOf42 rfl rfl m G)) ?_
  intro g9 b2
  intro i8 c2
  refine Wd.runs (fp:=([]:Ar)) (L:=L) rfl rfl rfl rfl (Dl isAgg42 rfl rfl b2) (fun _ h=>h) ?_
  intro l4 t
  replace t:=Bq t
  intro i9 c3
  refine Wd.turn rfl rfl rfl fun w hS=>?_
  refine Rd call52 (JL (@ih) n o hS hV) ?_
  rintro _ w⟨T,hV,rfl,c4,hS⟩
  refine WL.nil (DQ.mk2 hS ⟨.inr (c3 H L _ (View.le.refl _) (fun _ h=>h)),.inr (c2 _),.inr (c1 _),.inr (c0 _),.inr (b9 H L _ (View.le.refl _) (fun _ h=>h)),.inr (b8 _),.inr (b6 _),.inr (b5 _),il,il,il,il,il,il,il,il,trivial⟩ ?_)
  refine Wd.turn rfl rfl rfl fun w hS=>?_
  refine Rd call52 (JL (@ih) r t hS hV) ?_
  rintro _ w⟨U,hV,rfl,c6,hS⟩
  refine WL.nil (DQ.mk2 hS ⟨il,il,il,il,il,il,il,il,il,il,il,il,il,il,il,il,trivial⟩ ?_)
  refine Wd.turn rfl rfl rfl fun w hS=>?_
  refine WL.buildn (c:=(CV .i64)) (xs:=[T,U]) (vs:=[i6 T,i6 U]) rfl underlying130 info3 rfl rfl ⟨rfl,rfl,trivial⟩ rfl ⟨_,_,rfl,(Du (I64.has c4)),⟨_,_,rfl,(Du (I64.has c6)),rfl⟩⟩ hS rfl ?_
  intro m2 w c9 a2 hS
  refine WL.nil (DQ.mk2 hS ⟨il,il,il,il,il,il,il,il,il,il,il,il,il,il,il,il,trivial⟩ ?_)
  refine Wd.turn rfl rfl rfl fun w hS=>?_
  have a0:=hS.freeze
  refine Rd call53 (AaU (a2.share hS.put_le) a0 hV) ?_
  rintro _ w⟨k5,hV,rfl,g0,a1⟩
  have W:=hS.back a1
  replace hS:=W
  refine WL.nil (DQ.mk2 hS ⟨il,il,il,il,il,il,il,il,il,il,il,il,il,il,il,il,trivial⟩ ?_)
  refine Wd.run rfl rfl rfl rfl (fun _=>Ba rfl) fun j0 e4=>?_
  refine Wd.nil fun w hS=>?_
  refine z ?_
  replace hS:=hS.drop
  iterate 3 refine z ?_
  exact v1
  iterate 3 refine z ?_
  replace hS:=hS.drop
  iterate 4 refine z ?_
  exact v1
  exact Z
theorem Dn{a:Bool}{Q:Val->Prop}(hS:St w0 H L w)(hV:CK a Q):
 Cl 106 #[.bool a] w (pV w0 H L Q):=by
 refine BW func106 ntmps106 ?_
 refine zz ?_
 refine aV hS ?_
 intro b w hS
 refine zz ?_
 refine Rn hS (Bk concrete86 rfl) ?_
 refine Rn hS (Aq (vs:=[.iface 86 (.bool a)]) (zc:=#[.nilIface]) (cs:=#[.iface 86 (.bool a)]) (places:=#[(0,1)]) underlying25 zeroValue25 (fun w=>by simp[sizeOf23]) rfl ⟨rfl,trivial⟩ rfl Zf) ?_
 refine sA hS ?_
 intro w hS
 refine zz ?_
 exact vc
theorem Cz{a:Int}{Q:Val->Prop}(c:I64 a)(hS:St w0 H L w)(hV:BN a Q):
 Cl 100 #[i6 a] w (pV w0 H L Q):=by
 refine BW func100 ntmps100 ?_
 refine zz ?_
 refine aV hS ?_
 intro b w hS
 refine zz ?_
 refine Rn hS (Bk concrete87 rfl) ?_
 refine Rn hS (Aq (vs:=[.iface 87 (i6 a)]) (zc:=#[.nilIface]) (cs:=#[.iface 87 (i6 a)]) (places:=#[(0,1)]) underlying25 zeroValue25 (fun w=>by simp[sizeOf23]) rfl ⟨rfl,trivial⟩ rfl Zf) ?_
 refine sA hS ?_
 intro w hS
 refine zz ?_
 exact vc
theorem AcJ{s_1:Aa}{Q:Val->Prop}(hS:St w0 H L w)(hV:ZP s_1 Q):
 Cl 103 #[sv s_1] w (pV w0 H L Q):=by
 refine BW func103 ntmps103 ?_
 refine zz ?_
 refine aV hS ?_
 intro a w hS
 refine zz ?_
 refine Rn hS (Bk concrete89 rfl) ?_
 refine Rn hS (Aq (vs:=[.iface 89 (sv s_1)]) (zc:=#[.nilIface]) (cs:=#[.iface 89 (sv s_1)]) (places:=#[(0,1)]) underlying25 zeroValue25 (fun w=>by simp[sizeOf23]) rfl ⟨rfl,trivial⟩ rfl Zf) ?_
 refine sA hS ?_
 intro w hS
 refine zz ?_
 exact vc
theorem Adg{s_1:Aa}{Q:Val->Prop}(hS:St w0 H L w)(hV:UA s_1 Q):
 Cl 108 #[sv s_1] w (pV w0 H L Q):=by
 refine BW func108 ntmps108 ?_
 refine zz ?_
 refine aV hS ?_
 intro a w hS
 refine zz ?_
 refine Rn hS (Bk concrete91 rfl) ?_
 refine Rn hS (Aq (vs:=[.iface 91 (sv s_1)]) (zc:=#[.nilIface]) (cs:=#[.iface 91 (sv s_1)]) (places:=#[(0,1)]) underlying25 zeroValue25 (fun w=>by simp[sizeOf23]) rfl ⟨rfl,trivial⟩ rfl Zf) ?_
 refine sA hS ?_
 intro w hS
 refine zz ?_
 exact vc
theorem IK{c:Value}{f:List Val}{Q:Val->Prop}(d:IsSl H cV c f)(hS:St w0 H L w)(hV:FP f Q):
 Cl 99 #[c] w (pV w0 H L Q):=by
 refine BW func99 ntmps99 ?_
 refine zz ?_
 refine aV hS ?_
 intro g w hS
 have l:=d.bound
 replace hV:=hV l
 refine zz ?_
 refine Rn hS (Ao underlying42 rfl d) ?_
 obtain⟨i,o,t,hV⟩:=hV
 refine zz ?_
 refine WC.loop (σ:=Int×Int) (fun s a w=>∃b e,s=(b,e)/\i (b,e)/\I64 b/\I64 e/\St w0 H ([(g,oc #[.nilIface] 25)]++L) w/\Fr 26 [(0,c),(2,(pq g)),(3,i6 b),(6,c),(7,i6 (f.length:Int)),(8,i6 e)] a) o ((1:Int),(0:Int)) ?_ ?_
 exact y
 rintro _ a w⟨b,e,rfl,hI,n,C,hS,ha⟩
 refine Ab ha ?_
 replace hV:=hV _ hI
 refine zz ?_
 refine Ce hV ?_ ?_<;>intro x hV
 obtain⟨k,hV⟩:=hV
 refine zz ?_
 refine Rx hS (Au underlying42 sizeOf25 rfl rfl d k) ?_
 intro F m
 refine Rx hS (AE isAgg25 sizeOf25 rfl m) ?_
 rintro I⟨_,rfl,hu⟩
 obtain⟨p,rfl,j⟩:=Aw hu
 refine aV hS ?_
 intro r w hS
 refine sA hS ?_
 intro w hS
 refine zz ?_
 refine Rn hS (Ac (cs:=[p]) isAgg25 sizeOf25 rfl rfl rfl) ?_
 refine Rd call13 (Kv j hS hV) ?_
 rintro _ w⟨G,hV,rfl,D,hS⟩
 obtain⟨A,hV⟩:=hV
 replace hS:=hS.drop
 refine zz ?_
 refine Ce hV ?_ ?_<;>intro v hV
 refine zz ?_
 refine Rn hS bV ?_
 refine sA hS ?_
 intro w hS
 refine zz ?_
 exact vc
 obtain⟨B,hV⟩:=hV
 refine zz ?_
 exact y
 refine zz ?_
 refine Rn hS (Aq (vs:=[c,i6 b]) (zc:=#[ns,i6 0]) (cs:=#[c,i6 b]) (places:=#[(0,1),(1,1)]) underlying96 zeroValue96 (fun w=>by simp[sizeOf3,sizeOf42]) rfl ⟨rfl,rfl,trivial⟩ rfl (by simp[Instr.fill,Bs,Be,AW,AJ,AX,Br,BA,AN (IsSl.one d)])) ?_
 refine WL.box (arr:=#[c,i6 b]) rfl rfl rfl hS ?_
 intro h w hS
 refine Rn hS (Bk concrete93 rfl) ?_
 obtain⟨q,E,u,hS⟩:∃K,View.le H K/\IsW K (.iface 93 ((pq h))) (Val.set f b)/\St w0 K ([(g,oc #[.nilIface] 25)]++L) w:=⟨_,hS.put_le,IsW.mkset hS d n,hS.freeze⟩
 refine Rn hS (Aq (vs:=[.iface 93 ((pq h))]) (zc:=#[.nilIface]) (cs:=#[.iface 93 ((pq h))]) (places:=#[(0,1)]) underlying25 zeroValue25 (fun w=>by simp[sizeOf23]) rfl ⟨rfl,trivial⟩ rfl (by simp[Instr.fill,Bs,Be,AW,AJ,AX,Br,BA,Dj])) ?_
 refine sA hS ?_
 intro w hS
 refine zz ?_
 exact vc
theorem SN{a_1:Val}{a:Value}{c:Val}{b:Value}{Q:Bool->Prop}(d:IsW H a a_1)(e:IsW H b c)(hS:St w0 H L w)(hV:KF a_1 c Q):
 Cl 98 #[.agg #[a],.agg #[b]] w (pB w0 H L Q):=by
 refine Co func98 ntmps98 ?_
 refine zz ?_
 refine WL.box (arr:=#[a]) rfl rfl rfl hS ?_
 intro f w hS
 refine WL.box (arr:=#[b]) rfl rfl rfl hS ?_
 intro b_9 w hS
 replace hS:=hS.f2
 refine zz ?_
 refine Rn hS (Ac (cs:=[a]) isAgg25 sizeOf25 rfl rfl rfl) ?_
 replace hS:=hS.f2
 refine Rn hS (Ac (cs:=[b]) isAgg25 sizeOf25 rfl rfl rfl) ?_
 obtain⟨mf,hV⟩:=hV
 refine Rd call19 (Er mf d e hS hV) ?_
 rintro _ w⟨h,hV,rfl,g,hS⟩
 replace hS:=hS.f2.drop
 replace hS:=hS.drop
 refine zz ?_
 exact v1
open Go Go.Sort Go.Lib in
theorem Abx{f:Value}{d:List Val}{g:Ar}{Q:(List Val)->Prop}(s:OwnSl H cV 25 f d g)(hS:St w0 H (g++L) w)(hV:VW d Q):
    Cl 96 #[f,.func (.func 19) #[] #[]] w fun e w'=>∃(r1:List Val)(fp1:Ar),Q r1/\e=.returned (.tuple #[])/\OwnSl H cV 25 f r1 fp1/\St w0 H (fp1++L) w':=by
  obtain⟨hlen,c,hc,h1,h2,h3,hQ⟩:=hV
  by_cases hx:d=[]
  · subst hx
    have hq:=hQ [] (List.Perm.refl _) List.Pairwise.nil
    have hv:∃p cap,f=.slice p 0 cap:=by
      rcases s with⟨rfl,_,_⟩|⟨b,cap,arr,cs,rest,rfl,_⟩
      · exact⟨_,_,rfl⟩
      · exact⟨_,_,rfl⟩
    obtain⟨p,cap,rfl⟩:=hv
    refine(Tryz.slices_SortFunc_none (α:=Nat) p cap (.func (.func 19) #[] #[]) w).mono ?_
    rintro e w'⟨rfl,rfl⟩
    exact⟨[],g,hq,rfl,s,hS⟩
  rcases s with⟨_,h,_⟩|⟨b,cap,arr,cs,rest,rfl,rfl,e3,e4,e5,e6,e7⟩
  · exact absurd h hx
  obtain⟨S,hSx⟩:∃S:Val->Prop,∀y,S y↔y∈d:=⟨fun y=>y∈d,fun _=>Iff.rfl⟩
  obtain⟨l,l1,l2⟩:=MV (S:=S) e7 fun y hy=>(hSx y).2 hy
  have hlx:l.length=d.length:=by rw[<-l2];simp
  obtain⟨p0,hp0⟩:∃p0,p0∈l:=by
    cases l with
    |nil=>simp at hlx;exact absurd (List.length_eq_zero_iff.1 hlx.symm) hx
    |cons a l=>exact⟨a,by simp⟩
  letI:Inhabited {p:Value×Val//IsW H p.1 p.2/\S p.2}:=⟨p0⟩
  have hb:=hS.own (b,.cells arr 25 (0,0)) (by simp)
  simp only at hb
  have hHb:=hS.sep (b,.cells arr 25 (0,0)) (by simp)
  simp only at hHb
  have hbl:b<w.heap.size:=(Array.getElem?_eq_some_iff.1 hb).1
  have hal:cs.length=d.length:=by rw[<-l1,<-l2];simp
  have view:∀m os(dk:Array {p:Value×Val//IsW H p.1 p.2/\S p.2}),View.le H (fun k=>(sortWorldK (fun p=>[p.1.1]) 1 w b 0 m dk os).heap[k]?):=fun m os dk k o hk=>by
    have hkw:=hS.fits k o hk
    have hkb:k≠b:=fun e=>by rw[e,hHb] at hk;cases hk
    have hks:k<w.heap.size:=(Array.getElem?_eq_some_iff.1 hkw).1
    show((w.heap.modify b _)++os)[k]? =some o
    rw[Array.getElem?_append_left (by simpa using hks),Array.getElem?_modify,if_neg (fun e=>hkb e.symm)];exact hkw
  have hcmp:CmpLays Tryz.prog 19 #[] (fun p:{p:Value×Val//IsW H p.1 p.2/\S p.2}=>[p.1.1]) 1 (fun p q=>c p.1.2 q.1.2) b 0 l.toArray.size w:=fun m os dk hs x y=>by
    obtain⟨mf,hcm⟩:=hc x.1.2 ((hSx _).1 x.2.2) y.1.2 ((hSx _).1 y.2.2)
    have hle:=view m os dk
    refine(Er mf (x.2.1.mono hle) (y.2.1.mono hle) (St.refl _) hcm).mono ?_
    rintro e w'⟨r,hr,rfl,_,hst⟩
    exact⟨by rw[hr],AaD hst⟩
  have hO:SWO (ltOf fun p q:{p:Value×Val//IsW H p.1 p.2/\S p.2}=>c p.1.2 q.1.2):=by
    refine⟨fun x=>?_,fun x y z a b=>?_,fun x y z a b=>?_⟩
    · exact decide_eq_false (h1 _ ((hSx _).1 x.2.2))
    · exact decide_eq_true (h2 _ ((hSx _).1 x.2.2) _ ((hSx _).1 y.2.2) _ ((hSx _).1 z.2.2) (of_decide_eq_true a) (of_decide_eq_true b))
    · exact decide_eq_false (h3 _ ((hSx _).1 x.2.2) _ ((hSx _).1 y.2.2) _ ((hSx _).1 z.2.2) (of_decide_eq_false a) (of_decide_eq_false b))
  have flat:∀dk:Array {p:Value×Val//IsW H p.1 p.2/\S p.2},∀j,j<dk.size->(flatK (fun p=>[p.1.1]) 1 dk)[j]! =(dk[j]!).1.1:=fun dk j hj=>by
    rw[get_flatK _ _ _ _ (by omega)];simp[Nat.mod_one]
  have hH:HoldsK (fun p:{p:Value×Val//IsW H p.1 p.2/\S p.2}=>[p.1.1]) 1 w b 0 l.toArray:=fun j hj=>by
    have hj:j<l.length:=by simpa using hj
    have hjc:j<cs.length:=by rw[hal,<-hlx];exact hj
    constructor
    · rw[show(flatK (fun p:{p:Value×Val//IsW H p.1 p.2/\S p.2}=>[p.1.1]) 1 l.toArray)[j]! =_ from flat _ j (by simpa using hj)]
      simp only[World.cell?,hb,Nat.zero_add]
      have:arr[j]? =cs[j]? :=by rw[<-Array.getElem?_toList,e3,List.getElem?_append_left hjc]
      simp only[Option.isSome_none,Bool.false_eq_true,if_false]
      rw[this]
      have:cs[j]? =some (l[j]).1.1:=by rw[<-l1];simp[hj]
      rw[this];simp[hj]
    · simp[World.frozen?,hb]
  have main:=Tryz.slices_SortFunc 1 (fun w=>by kernel_rfl) (fun w=>by kernel_rfl) (fun p:{p:Value×Val//IsW H p.1 p.2/\S p.2}=>[p.1.1]) (fun _=>rfl) (fun p v hv=>by rw[List.mem_singleton.1 hv];exact p.2.1.one) _ hO 19 #[] b 0 cap l.toArray w (fun _ _=>by kernel_rfl) hcmp hH hbl (by simp;omega)
  rw[show l.toArray.size=d.length by simpa using hlx] at main
  refine main.mono ?_
  rintro e w'⟨rfl,d',n,os,⟨hp1,hp2,hp3⟩,hsd,rfl⟩
  have hds:d'.size=d.length:=by rw[hp1];simpa using hlx
  have hperm:d'.toList.Perm l:=by
    have e1:d'.extract 0 d.length=d':=by rw[<-hds];simp
    have e2:l.toArray.extract 0 d.length=l.toArray:=by rw[<-hlx];simp
    rw[e1,e2] at hp3;simpa using hp3
  let arr':=putCells id 0 (flatK (fun p:{p:Value×Val//IsW H p.1 p.2/\S p.2}=>[p.1.1]) 1 d') arr
  have harr:arr'.toList=d'.toList.map (·.1.1)++rest:=by
    apply List.ext_getElem?
    intro j
    have hes:arr.size=cs.length+rest.length:=by rw[<-Array.length_toList,e3];simp
    rw[Array.getElem?_toList]
    show(putCells id 0 _ arr)[j]? =_
    simp only[putCells,Array.getElem?_mapIdx,size_flatK,Nat.mul_one,Nat.zero_add,Nat.zero_le,true_and,Nat.sub_zero,id]
    by_cases hj:j<d'.size
    · rw[List.getElem?_append_left (by simpa using hj)]
      rw[Array.getElem?_eq_getElem (by rw[hes,hal,<-hds];omega)]
      simp only[Option.map_some,if_pos hj]
      rw[flat d' j hj]
      simp[hj]
    · rw[List.getElem?_append_right (by simpa using hj)]
      have:arr[j]? =rest[j-cs.length]? :=by rw[<-Array.getElem?_toList,e3,List.getElem?_append_right (by rw[hal,<-hds];omega)]
      rw[this]
      have e:(d'.toList.map fun p=>p.1.1).length=cs.length:=by simp[hds,hal]
      rw[e]
      cases rest[j-cs.length]? <;>simp[hj]
  refine⟨d'.toList.map (·.1.2),[(b,.cells arr' 25 (0,0))],hQ _ ?_ ?_,rfl,Or.inr ⟨b,cap,arr',d'.toList.map (·.1.1),rest,by simp[hds],rfl,harr,?_,by simpa[hds] using e5,e6,Un _⟩,?_⟩
  · have:=hperm.map (·.1.2);rw[l2] at this;exact this
  · rw[List.pairwise_map]
    rw[List.pairwise_iff_getElem]
    intro i j hi hj hij
    have hi':i<d'.size:=by simpa using hi
    have hj':j<d'.size:=by simpa using hj
    have:=hsd i j (Nat.zero_le _) hij (by rw[<-hds];exact hj')
    have:=of_decide_eq_false this
    simpa[hi',hj'] using this
  · show(putCells id 0 _ arr).size=_
    simp[putCells,e4]
  · have hmod:∀k:Nat,(sortWorldK (fun p:{p:Value×Val//IsW H p.1 p.2/\S p.2}=>[p.1.1]) 1 w b 0 n d' os).heap[k]? =((w.heap.modify b (onCells (putCells id 0 (flatK (fun p:{p:Value×Val//IsW H p.1 p.2/\S p.2}=>[p.1.1]) 1 d'))))++os)[k]? :=fun k=>rfl
    have old:∀k:Nat,k<w.heap.size->k≠b->(sortWorldK (fun p:{p:Value×Val//IsW H p.1 p.2/\S p.2}=>[p.1.1]) 1 w b 0 n d' os).heap[k]? =w.heap[k]? :=fun k hk hkb=>by
      rw[hmod,Array.getElem?_append_left (by simpa using hk),Array.getElem?_modify,if_neg (fun e=>hkb e.symm)]
    have hnd:=hS.nodup
    simp only[List.map_append,List.map_cons,List.map_nil,List.singleton_append,List.nodup_cons] at hnd
    refine⟨hS.os,hS.tape,hS.output,?_,fun k o hk=>view n os d' k o hk,fun p hp=>?_,fun p hp=>?_,?_,Nat.le_trans hS.ahead (Nat.le_add_right _ _)⟩
    · show w0.heap.size<=((w.heap.modify b _)++os).size
      have:=hS.size;simp;omega
    · rcases List.mem_append.1 hp with hp|hp
      · rw[List.mem_singleton.1 hp]
        show(sortWorldK _ 1 w b 0 n d' os).heap[b]? =some (.cells arr' 25 (0,0))
        rw[hmod,Array.getElem?_append_left (by simpa using hbl),Array.getElem?_modify,if_pos rfl,hb];rfl
      · have h5:=hS.own p (by simp[hp])
        rw[old p.1 (Array.getElem?_eq_some_iff.1 h5).1 (fun e=>hnd.1 (by rw[<-e];exact List.mem_map_of_mem hp))];exact h5
    · rcases List.mem_append.1 hp with hp|hp
      · rw[List.mem_singleton.1 hp];exact hHb
      · exact hS.sep p (by simp[hp])
    · simpa using hnd
theorem UN{i:Value}{s_1:List Val}{j:Ar}{Q:(List Val)->Prop}(d:OwnSl H cV 25 i s_1 j)(hS:St w0 H (j++L) w)(hV:JH s_1 Q):
 Cl 97 #[i,.func (.func 98) #[] #[]] w fun e w'=>∃(r1:List Val)(v1:Value)(fp1:Ar),Q r1/\e=.returned (v1)/\OwnSl H cV 25 v1 r1 fp1/\St w0 H (fp1++L) w':=by
 refine Co func97 ntmps97 ?_
 have W:=d.bound
 replace hV:=hV W
 refine zz ?_
 refine Rn hS (AP underlying42 rfl d) ?_
 refine zz ?_
 refine Ce hV ?_ ?_<;>intro c4 hV
 refine zz ?_
 exact v1
 obtain⟨E,a7,b6,hV⟩:=hV
 refine zz ?_
 refine WC.loop (σ:=Int) (fun s a w=>∃g,s=g/\E g/\I64 g/\St w0 H (j++L) w/\Fr 66 [(0,i),(1,.func (.func 98) #[] #[]),(5,i6 g)] a) a7 (1:Int) ?_ ?_
 exact y
 rintro g a w⟨_,rfl,hI,f3,hS,ha⟩
 refine Ab ha ?_
 replace hV:=hV _ hI
 have Y:=d.bound
 replace hV:=hV Y
 refine zz ?_
 refine Rn hS (AP underlying42 rfl d) ?_
 refine zz ?_
 refine Ce hV ?_ ?_<;>intro c3 hV
 iterate 5 refine z ?_
 refine WC.drawn (σ:=[0,1,2,3,4,5,6,7,8,9,10]) [[],[],[],[1,2],[1,2,3],[],[],[6],[5,6,7],[5,6,7,8],[0,1,2,3,4,5,6,7,8,9]] [10] mixed (by kernel_rfl) (hS.drawn _) ?_
 refine Dm fun h2 e0=>?_
 refine Dm fun h3 e1=>?_
 refine Dm fun h4 e2=>?_
 obtain⟨A,hV⟩:=hV
 refine Wd.runx rfl rfl rfl rfl (AA (Ai underlying42 sizeOf25 rfl rfl d A)) ?_
 intro f9 a3
 intro h5 e3
 refine Wd.runs (fp:=j) rfl rfl rfl rfl (Bt isAgg25 sizeOf25 rfl d a3 A) (fun _ h=>h) ?_
 rintro i9⟨_,rfl,hu⟩
 obtain⟨b1,rfl,N⟩:=Aw hu
 intro h6 e4
 refine Dm fun h7 e5=>?_
 refine Dm fun h8 e6=>?_
 obtain⟨V,hV⟩:=hV
 refine Wd.run rfl rfl rfl rfl (fun _=>Hp rfl rfl V) fun h9 e7=>?_
 obtain⟨B,hV⟩:=hV
 refine Wd.runx rfl rfl rfl rfl (AA (Ai underlying42 sizeOf25 rfl rfl d B)) ?_
 intro g0 a4
 intro i0 e8
 refine Wd.runs (fp:=j) rfl rfl rfl rfl (Bt isAgg25 sizeOf25 rfl d a4 B) (fun _ h=>h) ?_
 rintro j0⟨_,rfl,hu⟩
 obtain⟨b2,rfl,O⟩:=Aw hu
 intro i1 e9
 refine Wd.turn rfl rfl rfl fun w hS=>?_
 refine Rc (As (vs:=[.agg #[b1],.agg #[b2]]) (caps:=[]) rfl call98 ⟨rfl,rfl,trivial⟩) (SN N O hS hV) ?_
 rintro _ w⟨i3,hV,rfl,hS⟩
 refine⟨_,rfl,?_⟩
 refine WL.nil (DQ.mk2 hS ⟨il,il,il,il,il,il,il,il,il,il,trivial⟩ ?_)
 refine Wd.nil fun w hS=>?_
 refine zz ?_
 refine Cf hV ?_ ?_<;>intro c2 hV
 obtain⟨T,hV⟩:=hV
 refine zz ?_
 refine Rx hS (HQ underlying42 sizeOf25 rfl rfl d T) ?_
 intro C n
 obtain⟨D,a6,b5,hV⟩:=hV
 refine zz ?_
 refine WC.loop (σ:=(List (Val))×Int×Int) (fun s a w=>∃m l f k,s=(m,l,f)/\D (m,l,f)/\OwnSl H cV 25 i m k/\I64 l/\I64 f/\St w0 H (k++L) w/\Fr 66 [(0,i),(1,.func (.func 98) #[] #[]),(5,i6 l),(6,C),(7,i6 f)] a) a6 (s_1,g,(1:Int)) ?_ ?_
 exact y
 rintro _ a w⟨m,l,f,k,rfl,hI,b,f0,f1,hS,ha⟩
 refine Ab ha ?_
 replace hV:=hV _ hI
 obtain⟨c8,hV⟩:=hV
 refine zz ?_
 refine Rn hS (PM underlying42 rfl b n) ?_
 refine zz ?_
 refine Ce hV ?_ ?_<;>intro c1 hV
 obtain⟨F,G,hV⟩:=hV
 iterate 2 refine z ?_
 refine WC.meet (fun a w=>∃u o p,F (u,o)/\OwnSl H cV 25 i u p/\I64 o/\St w0 H (p++L) w/\Fr 66 [(0,i),(1,.func (.func 98) #[] #[]),(5,i6 o),(6,C),(7,i6 f)] a) ?_ ?_
 rintro a w⟨u,o,p,hI,b7,f2,hS,ha⟩
 refine Ab ha ?_
 have hV:=G _ hI
 obtain⟨c6,hV⟩:=hV
 refine zz ?_
 exact y
 iterate 2 refine z ?_
 refine WC.drawn (σ:=[0,1,2,3,4,5,6,7,8,9,10,11]) [[],[],[],[1,2],[1,2,3],[],[],[6],[5,6,7],[5,6,7,8],[0,1,2,3,4,5,6,7,8,9],[0,1,2,3,4,5,6,7,8,9,10]] [10] mixed (by kernel_rfl) (hS.drawn _) ?_
 refine Dm fun g1 c9=>?_
 refine Dm fun g2 d0=>?_
 refine Dm fun g3 d1=>?_
 obtain⟨q,hV⟩:=hV
 refine Wd.runx rfl rfl rfl rfl (AA (Gj underlying42 sizeOf25 rfl rfl b n ⟨q.1,q.2.2⟩)) ?_
 intro f5 Z
 intro g4 d2
 refine Wd.runs (fp:=k) rfl rfl rfl rfl (Bt isAgg25 sizeOf25 rfl b Z q.2) (fun _ h=>h) ?_
 rintro i4⟨_,rfl,hu⟩
 obtain⟨a8,rfl,I⟩:=Aw hu
 intro g5 d3
 refine Dm fun g6 d4=>?_
 refine Dm fun g7 d5=>?_
 obtain⟨U,hV⟩:=hV
 refine Wd.run rfl rfl rfl rfl (fun _=>Hp rfl rfl U) fun g8 d6=>?_
 obtain⟨r,hV⟩:=hV
 refine Wd.runx rfl rfl rfl rfl (AA (Gj underlying42 sizeOf25 rfl rfl b n ⟨r.1,r.2.2⟩)) ?_
 intro f6 a0
 intro g9 d7
 refine Wd.runs (fp:=k) rfl rfl rfl rfl (Bt isAgg25 sizeOf25 rfl b a0 r.2) (fun _ h=>h) ?_
 rintro i5⟨_,rfl,hu⟩
 obtain⟨a9,rfl,J⟩:=Aw hu
 intro h0 d8
 refine Wd.turn rfl rfl rfl fun w hS=>?_
 refine Rc (As (vs:=[.agg #[a8],.agg #[a9]]) (caps:=[]) rfl call98 ⟨rfl,rfl,trivial⟩) (SN I J hS hV) ?_
 rintro _ w⟨i2,hV,rfl,hS⟩
 refine⟨_,rfl,?_⟩
 refine WL.nil (DQ.mk2 hS ⟨il,il,il,il,il,il,il,il,il,il,trivial⟩ ?_)
 refine Wd.run rfl rfl rfl rfl (fun _=>NZ rfl) fun h1 d9=>?_
 refine Wd.nil fun w hS=>?_
 refine zz ?_
 refine Cf hV ?_ ?_<;>intro c0 hV
 obtain⟨t,hV⟩:=hV
 refine zz ?_
 refine Rx hS (Gj underlying42 sizeOf25 rfl rfl b n ⟨t.1,t.2.2⟩) ?_
 intro f7 a1
 refine Rx hS (BG (H:=H) (L:=L) (Bt isAgg25 sizeOf25 rfl b a1 t.2)) ?_
 rintro i7⟨_,rfl,hu⟩
 obtain⟨b0,rfl,v⟩:=Aw hu
 obtain⟨x,hV⟩:=hV
 refine Rx hS (Ai underlying42 sizeOf25 rfl rfl b x) ?_
 intro f8 a2
 refine WL.store_own_agg (c:=cV) (z:=(ix m (g+f))) (m':=[b0]) sizeOf25 rfl rfl rfl ⟨(IsW.one v),trivial⟩ (BZ v) hS b a2 x ?_
 intro w b3 b8 hS
 obtain⟨c5,hV⟩:=hV
 refine zz ?_
 exact y
 refine zz ?_
 exact y
 obtain⟨P,hV⟩:=hV
 refine zz ?_
 refine Rx hS (HQ underlying42 sizeOf25 rfl rfl b P) ?_
 intro i8 a5
 refine WL.clear_al (c:=cV) (z0:=Val.nil) underlying42 zeroValue25 (BZ IsW.nil) rfl rfl hS b a5 ?_
 intro w b4 K hS
 obtain⟨S,hV⟩:=hV
 refine zz ?_
 refine Rx hS (GJ underlying42 sizeOf25 rfl rfl K S) ?_
 rintro j1⟨b9,f4⟩
 refine zz ?_
 exact v1
 obtain⟨c7,hV⟩:=hV
 refine zz ?_
 exact y
 refine zz ?_
 exact v1
theorem HA{c:Value}{b:List Val}{a:Ar}{Q:Val->Prop}(h:OwnSl H cV 25 c b a)(hS:St w0 H (a++L) w)(hV:Fl b Q):
 Cl 60 #[c] w (pV w0 H L Q):=by
 refine BW func60 ntmps60 ?_
 refine zz ?_
 refine aV hS ?_
 intro d w hS
 replace hS:=hS.f2
 refine zz ?_
 refine Rd call96 (Abx h hS hV) ?_
 rintro _ w⟨m,o,hV,rfl,e,hS⟩
 refine zz ?_
 refine Rd call97 (UN e hS hV) ?_
 rintro _ w⟨i,j,n,hV,rfl,f,hS⟩
 refine zz ?_
 obtain⟨k,q,g,hS⟩:∃K,View.le H K/\IsSl K cV j i/\St w0 K ([(d,oc #[.nilIface] 25)]++L) w:=⟨_,hS.put_le,f.share hS.put_le,hS.freeze⟩
 refine Rd call99 (IK g hS hV) ?_
 rintro _ w⟨s,t,l,hV,rfl,r,p,hS⟩
 refine sA hS ?_
 intro w hS
 refine zz ?_
 exact vc
theorem Kt{c:Int}{d:Int}{a:Nat}{b:Value}{e:List Val}{Q:Int->Prop}(x:I64 c)(A:I64 d)(f:IsSl H cV b e)(hS:St w0 H ([(a,oc #[b] 42)]++L) w)(hV:FD c d e Q):
 Cl 102 #[i6 c,i6 d,(pq a)] w (pI w0 H ([(a,oc #[b] 42)]++L) Q):=by
 refine Li func102 ntmps102 ?_
 iterate 4 refine z ?_
 refine WC.drawn (σ:=[0,1,2,3,4,5,6,7,8,9]) [[],[],[0,1],[0,1,2],[],[],[4,5],[4,5,6],[0,1,2,3,4,5,6,7],[0,1,2,3,4,5,6,7,8]] [8] mixed (by kernel_rfl) (hS.drawn _) ?_
 refine Wd.runb (off:=0) rfl rfl rfl rfl (fun _ _ _ h=>Aj isAgg42 rfl h) rfl (fun _ h=>h) fun E n=>?_
 refine Dm fun F o=>?_
 obtain⟨j,hV⟩:=hV
 refine Wd.runx rfl rfl rfl rfl (AA (Au underlying42 sizeOf25 rfl rfl f j)) ?_
 intro C l
 intro G p
 refine Wd.runs (fp:=([]:Ar)) (L:=[(a,oc #[b] 42)]++L) rfl rfl rfl rfl (AT isAgg25 sizeOf25 rfl l) (fun _ h=>h) ?_
 rintro T⟨_,rfl,hu⟩
 obtain⟨U,rfl,g⟩:=Aw hu
 intro I q
 refine Wd.runb (off:=0) rfl rfl rfl rfl (fun _ _ _ h=>Aj isAgg42 rfl h) rfl (fun _ h=>h) fun J r=>?_
 refine Dm fun K s=>?_
 obtain⟨k,hV⟩:=hV
 refine Wd.runx rfl rfl rfl rfl (AA (Au underlying42 sizeOf25 rfl rfl f k)) ?_
 intro D m
 intro N t
 refine Wd.runs (fp:=([]:Ar)) (L:=[(a,oc #[b] 42)]++L) rfl rfl rfl rfl (AT isAgg25 sizeOf25 rfl m) (fun _ h=>h) ?_
 rintro V⟨_,rfl,hu⟩
 obtain⟨W,rfl,i⟩:=Aw hu
 intro O u
 refine Wd.turn rfl rfl rfl fun w hS=>?_
 obtain⟨mf,hV⟩:=hV
 refine Rd call19 (Er mf g i hS hV) ?_
 rintro _ w⟨S,hV,rfl,B,hS⟩
 refine WL.nil (DQ.mk2 hS ⟨il,il,il,il,il,il,il,il,trivial⟩ ?_)
 refine Wd.run rfl rfl rfl rfl (fun _=>Ba rfl) fun P v=>?_
 refine Wd.nil fun w hS=>?_
 refine zz ?_
 exact v1
theorem VO{j:Value}{r:LI}{B:Ar}{f:Int}{b_8:Int}{b:Nat}{v_15:Value}{A:List Val}{Q:LI->Prop}(c2:OwnSl H (CV .i64) 3 j r B)(e5:I64 f)(e6:I64 b_8)(W:IsSl H cV v_15 A)(hS:St w0 H (B++([(b,oc #[v_15] 42)]++L)) w)(hV:Mq r f b_8 A Q):
 Cl 220 #[j,i6 f,i6 b_8,.func (.func 102) #[] #[(pq b)]] w fun e w'=>∃(r1:LI)(fp1:Ar),Q r1/\e=.returned (.tuple #[])/\OwnSl H (CV .i64) 3 j r1 fp1/\St w0 H (fp1++([(b,oc #[v_15] 42)]++L)) w':=by
 refine En4 func220 ntmps220 ?_
 obtain⟨c9,hV⟩:=hV
 replace hS:=hS.f2.f2
 obtain⟨N,b6,c0,hV⟩:=hV
 refine zz ?_
 refine WC.loop (σ:=LI×Int) (fun s a w=>∃m i t,s=(m,i)/\N (m,i)/\OwnSl H (CV .i64) 3 j m t/\I64 i/\St w0 H (t++([(b,oc #[v_15] 42)]++L)) w/\Fr 53 [(0,j),(1,i6 f),(2,i6 b_8),(3,.func (.func 102) #[] #[(pq b)]),(8,i6 i)] a) b6 (r,(f+(1:Int))) ?_ ?_
 exact y
 rintro _ a w⟨m,i,t,rfl,hI,c3,e4,hS,ha⟩
 refine Ab ha ?_
 replace hV:=hV _ hI
 refine zz ?_
 refine Ce hV ?_ ?_<;>intro c5 hV
 replace hS:=hS.f2.f2
 obtain⟨K,b5,b9,hV⟩:=hV
 refine zz ?_
 refine WC.loop (σ:=LI×Int) (fun s a w=>∃l d k,s=(l,d)/\K (l,d)/\OwnSl H (CV .i64) 3 j l k/\I64 d/\St w0 H (k++([(b,oc #[v_15] 42)]++L)) w/\Fr 53 [(0,j),(1,i6 f),(2,i6 b_8),(3,.func (.func 102) #[] #[(pq b)]),(8,i6 i),(9,i6 d)] a) b5 (m,i) ?_ ?_
 exact y
 rintro _ a w⟨l,d,k,rfl,hI,g,e7,hS,ha⟩
 refine Ab ha ?_
 replace hV:=hV _ hI
 obtain⟨O,T,hV⟩:=hV
 refine z ?_
 refine WC.meet (fun a w=>∃x,O x/\St w0 H (k++([(b,oc #[v_15] 42)]++L)) w/\Fr 53 [(0,j),(1,i6 f),(2,i6 b_8),(3,.func (.func 102) #[] #[(pq b)]),(8,i6 i),(9,i6 d),(34,.bool x)] a) ?_ ?_
 rintro a w⟨x,hI,hS,ha⟩
 refine Ab ha ?_
 have hV:=T _ hI
 refine Cf hV ?_ ?_<;>intro c4 hV
 iterate 4 refine z ?_
 refine WC.drawn (σ:=[0,1,2,3,4,5,6,7,8,9,10,11,12,13,14,15,16,17]) [[],[],[],[],[3],[],[],[6],[5,6,7],[5,6,7,8],[],[],[10,11],[10,11,12],[0,1,5,6,7,8,9,10,11,12,13],[0,1,5,6,7,8,9,10,11,12,13,14],[0,1,2,3,4,5,6,7,8,9,10,11,12,13,14,15],[0,1,2,3,4,5,6,7,8,9,10,11,12,13,14,15,16]] [15,17] mixed (by kernel_rfl) (hS.drawn _) ?_
 refine Dm fun f5 d0=>?_
 refine Dm fun f6 d1=>?_
 refine Dm fun f7 a8=>?_
 refine Dm fun f8 a9=>?_
 obtain⟨Y,hV⟩:=hV
 refine Wd.run rfl rfl rfl rfl (fun _=>Hp rfl rfl Y) fun f9 b0=>?_
 refine Dm fun g0 d2=>?_
 refine Dm fun g1 d3=>?_
 obtain⟨Z,hV⟩:=hV
 refine Wd.run rfl rfl rfl rfl (fun _=>Hp rfl rfl Z) fun g2 d4=>?_
 obtain⟨E,hV⟩:=hV
 refine Wd.runx rfl rfl rfl rfl (AA (Ai underlying130 sizeOf3 rfl rfl g E)) ?_
 intro f0 a4
 intro g3 d5
 refine Wd.runs (fp:=k) rfl rfl rfl rfl (AD isAgg3 rfl rfl g a4 E) (fun _ h=>h) ?_
 intro h3 b3
 obtain⟨rfl,p⟩:=Bh b3
 replace p:=Bx p
 replace hV:=hV p
 intro g4 d6
 refine Dm fun g5 d7=>?_
 refine Dm fun g6 d8=>?_
 obtain⟨F,hV⟩:=hV
 refine Wd.runx rfl rfl rfl rfl (AA (Ai underlying130 sizeOf3 rfl rfl g F)) ?_
 intro f1 a5
 intro g7 d9
 refine Wd.runs (fp:=k) rfl rfl rfl rfl (AD isAgg3 rfl rfl g a5 F) (fun _ h=>h) ?_
 intro h4 b4
 obtain⟨rfl,q⟩:=Bh b4
 replace q:=Bx q
 replace hV:=hV q
 intro g8 e0
 obtain⟨G,hV⟩:=hV
 refine Wd.runx rfl rfl rfl rfl (AA (Ai underlying130 sizeOf3 rfl rfl g G)) ?_
 intro f3 a6
 intro g9 e1
 refine Wd.turn rfl rfl rfl fun w hS=>?_
 refine WL.store_own sizeOf3 rfl rfl rfl (Du (I64.has p)) hS g a6 G ?_
 intro w b7 D hS
 refine WL.nil (DQ.mk2 hS ⟨il,il,il,il,il,il,il,il,il,il,.inr (b0 _),.inr (a9 _),.inr (a8 _),il,il,trivial⟩ ?_)
 obtain⟨I,hV⟩:=hV
 refine Wd.runx rfl rfl rfl rfl (AA (Ai underlying130 sizeOf3 rfl rfl D I)) ?_
 intro f4 a7
 intro h0 e2
 refine Wd.turn rfl rfl rfl fun w hS=>?_
 refine WL.store_own sizeOf3 rfl rfl rfl (Du (I64.has q)) hS D a7 I ?_
 intro w b8 c1 hS
 refine WL.nil (DQ.mk2 hS ⟨il,il,il,il,il,il,il,il,il,il,il,il,il,il,il,il,trivial⟩ ?_)
 refine Wd.nil fun w hS=>?_
 obtain⟨c7,hV⟩:=hV
 replace hS:=hS.f2.f2
 refine zz ?_
 exact y
 obtain⟨c8,hV⟩:=hV
 replace hS:=hS.f2.f2
 refine zz ?_
 exact y
 replace hS:=hS.f2.f2
 have U:=hS.freeze
 have u:=hS.put_le
 refine WC.quiet (C:=St w0 (H.put k) ([(b,oc #[v_15] 42)]++L)) mixed (by kernel_rfl) (U.drawn _) ?_
 have hS0:=hS
 iterate 4 refine Rq ?_
 rcases DG (decide (f<d)) with c|c
 replace hV:=hV.1 (od c)
 iterate 3 refine Rq ?_
 refine Uq c ?_
 obtain⟨a0,hV⟩:=hV
 refine Wq.runx rfl rfl rfl (Au underlying130 sizeOf3 rfl rfl (g.share u) a0) ?_
 intro e8 a2
 refine Uq c ?_
 refine Wq.runx rfl rfl rfl (Bp isAgg3 rfl rfl a2) ?_
 intro h1 b1
 obtain⟨rfl,n⟩:=Bh b1
 replace n:=Bx n
 replace hV:=hV n
 iterate 2 refine Rq ?_
 refine Uq c ?_
 obtain⟨c6,hV⟩:=hV
 refine Rq ?_
 refine Uq c ?_
 obtain⟨a1,hV⟩:=hV
 refine Wq.runx rfl rfl rfl (Au underlying130 sizeOf3 rfl rfl (g.share u) a1) ?_
 intro e9 a3
 refine Uq c ?_
 refine Wq.runx rfl rfl rfl (Bp isAgg3 rfl rfl a3) ?_
 intro h2 b2
 obtain⟨rfl,o⟩:=Bh b2
 replace o:=Bx o
 replace hV:=hV o
 refine Uq c ?_
 obtain⟨J,V,e3,hV⟩:=hV
 refine Wq.call (v:=i6 J) rfl rfl rfl (fun w=>As (vs:=[i6 (ix l d),i6 (ix l (d-(1:Int)))]) (caps:=[(pq b)]) rfl call102 ⟨rfl,rfl,trivial⟩) (fun w hS=>(Kt (Q:=fun y0=>y0=J) n o (W.mono u) hS V).mono ?_) ?_
 rintro e w'⟨_,rfl,he,_,hS⟩
 exact⟨he,hS⟩
 iterate 2 refine Rq ?_
 refine Wq.nil fun w hS=>?_
 have P:=hS0.back hS
 have hS:=P
 replace hS:=hS.f2.f2
 exact y
 replace hV:=hV.2 (ov c)
 iterate 13 refine Rq ?_
 refine Wq.nil fun w hS=>?_
 have S:=hS0.back hS
 have hS:=S
 replace hS:=hS.f2.f2
 exact y
 replace hS:=hS.f2.f2
 refine zz ?_
 exact v0
theorem Zt{f:Value}{o:LI}{q:Ar}{g:Int}{b_8:Int}{m:Int}{i:Nat}{n:Value}{p:List Val}{Q:LI->Prop}(a1:OwnSl H (CV .i64) 3 f o q)(c4:I64 g)(c5:I64 b_8)(c3:I64 m)(Z:IsSl H cV n p)(hS:St w0 H (q++([(i,oc #[n] 42)]++L)) w)(hV:HP o g b_8 m p Q):
 Cl 238 #[f,i6 g,i6 b_8,i6 m,.func (.func 102) #[] #[(pq i)]] w fun e w'=>∃(r1:LI)(fp1:Ar),Q r1/\e=.returned (.tuple #[])/\OwnSl H (CV .i64) 3 f r1 fp1/\St w0 H (fp1++([(i,oc #[n] 42)]++L)) w':=by
 refine En5 func238 ntmps238 ?_
 replace hS:=hS.f2.f2
 obtain⟨A,U,Y,hV⟩:=hV
 refine zz ?_
 refine WC.loop (σ:=LI×Int) (fun s a w=>∃j d c,s=(j,d)/\A (j,d)/\OwnSl H (CV .i64) 3 f j c/\I64 d/\St w0 H (c++([(i,oc #[n] 42)]++L)) w/\Fr 38 [(0,f),(1,i6 g),(2,i6 b_8),(3,i6 m),(10,i6 d)] a) U (o,(0:Int)) ?_ ?_
 exact y
 rintro _ a w⟨j,d,c,rfl,hI,b,c2,hS,ha⟩
 refine Ab ha ?_
 replace hV:=hV _ hI
 refine zz ?_
 refine Ce hV ?_ ?_<;>intro a2 hV
 iterate 4 refine z ?_
 refine WC.drawn (σ:=[0,1,2,3,4,5,6,7,8,9,10,11,12,13,14,15,16,17,18,19,20,21,22,23]) [[],[],[],[1,2],[],[],[],[5,6],[],[],[],[9,10],[8,9,10,11],[8,9,10,11,12],[],[],[],[15,16],[14,15,16,17],[14,15,16,17,18],[0,1,2,3,8,9,10,11,12,13,14,15,16,17,18,19],[0,1,2,3,8,9,10,11,12,13,14,15,16,17,18,19,20],[0,1,2,3,4,5,6,7,8,9,10,11,12,13,14,15,16,17,18,19,20,21],[0,1,2,3,4,5,6,7,8,9,10,11,12,13,14,15,16,17,18,19,20,21,22]] [21,23] mixed (by kernel_rfl) (hS.drawn _) ?_
 refine Dm fun d0 a4=>?_
 refine Dm fun d1 a5=>?_
 refine Dm fun d2 a6=>?_
 obtain⟨B,hV⟩:=hV
 refine Wd.run rfl rfl rfl rfl (fun _=>Eg rfl rfl B) fun d3 a7=>?_
 refine Dm fun d4 K=>?_
 refine Dm fun d5 N=>?_
 refine Dm fun d6 O=>?_
 obtain⟨C,hV⟩:=hV
 refine Wd.run rfl rfl rfl rfl (fun _=>Eg rfl rfl C) fun d7 P=>?_
 refine Dm fun d8 a8=>?_
 refine Dm fun d9 a9=>?_
 refine Dm fun e0 b0=>?_
 obtain⟨D,hV⟩:=hV
 refine Wd.run rfl rfl rfl rfl (fun _=>Eg rfl rfl D) fun e1 b1=>?_
 obtain⟨t,hV⟩:=hV
 refine Wd.runx rfl rfl rfl rfl (AA (Ai underlying130 sizeOf3 rfl rfl b t)) ?_
 intro c6 F
 intro e2 b2
 refine Wd.runs (fp:=c) rfl rfl rfl rfl (AD isAgg3 rfl rfl b F t) (fun _ h=>h) ?_
 intro f3 S
 obtain⟨rfl,k⟩:=Bh S
 replace k:=Bx k
 replace hV:=hV k
 intro e3 b3
 refine Dm fun e4 b4=>?_
 refine Dm fun e5 b5=>?_
 refine Dm fun e6 b6=>?_
 obtain⟨E,hV⟩:=hV
 refine Wd.run rfl rfl rfl rfl (fun _=>Eg rfl rfl E) fun e7 b7=>?_
 obtain⟨u,hV⟩:=hV
 refine Wd.runx rfl rfl rfl rfl (AA (Ai underlying130 sizeOf3 rfl rfl b u)) ?_
 intro c7 G
 intro e8 b8
 refine Wd.runs (fp:=c) rfl rfl rfl rfl (AD isAgg3 rfl rfl b G u) (fun _ h=>h) ?_
 intro f4 T
 obtain⟨rfl,l⟩:=Bh T
 replace l:=Bx l
 replace hV:=hV l
 intro e9 b9
 obtain⟨v,hV⟩:=hV
 refine Wd.runx rfl rfl rfl rfl (AA (Ai underlying130 sizeOf3 rfl rfl b v)) ?_
 intro c8 I
 intro f0 c0
 refine Wd.turn rfl rfl rfl fun w hS=>?_
 refine WL.store_own sizeOf3 rfl rfl rfl (Du (I64.has k)) hS b I v ?_
 intro w V r hS
 refine WL.nil (DQ.mk2 hS ⟨il,il,il,il,il,il,il,il,il,il,il,il,il,.inr (P _),.inr (O _),.inr (N _),.inr (K _),il,il,il,il,trivial⟩ ?_)
 obtain⟨x,hV⟩:=hV
 refine Wd.runx rfl rfl rfl rfl (AA (Ai underlying130 sizeOf3 rfl rfl r x)) ?_
 intro c9 J
 intro f1 c1
 refine Wd.turn rfl rfl rfl fun w hS=>?_
 refine WL.store_own sizeOf3 rfl rfl rfl (Du (I64.has l)) hS r J x ?_
 intro w W a0 hS
 refine WL.nil (DQ.mk2 hS ⟨il,il,il,il,il,il,il,il,il,il,il,il,il,il,il,il,il,il,il,il,il,il,trivial⟩ ?_)
 refine Wd.nil fun w hS=>?_
 obtain⟨a3,hV⟩:=hV
 replace hS:=hS.f2.f2
 refine zz ?_
 exact y
 replace hS:=hS.f2.f2
 refine zz ?_
 exact v0
theorem Abc{i:Value}{o:LI}{x:Ar}{j:Int}{c:Int}{l:Int}{d:Nat}{n:Value}{t:List Val}{Q:LI->Prop}(E:OwnSl H (CV .i64) 3 i o x)(T:I64 j)(U:I64 c)(O:I64 l)(D:IsSl H cV n t)(hS:St w0 H (x++([(d,oc #[n] 42)]++L)) w)(hV:MC o j c l t Q):
 Cl 230 #[i,i6 j,i6 c,i6 l,.func (.func 102) #[] #[(pq d)]] w fun e w'=>∃(r1:LI)(fp1:Ar),Q r1/\e=.returned (.tuple #[])/\OwnSl H (CV .i64) 3 i r1 fp1/\St w0 H (fp1++([(d,oc #[n] 42)]++L)) w':=by
 refine En5 func230 ntmps230 ?_
 have c1:=@Zt;have d1:=call238
 obtain⟨G,hV⟩:=hV
 obtain⟨N,hV⟩:=hV
 replace hS:=hS.f2.f2
 obtain⟨A,B,C,hV⟩:=hV
 refine zz ?_
 refine WC.loop (σ:=LI×Int×Int) (fun s a w=>∃m f g r,s=(m,f,g)/\A (m,f,g)/\OwnSl H (CV .i64) 3 i m r/\I64 f/\I64 g/\St w0 H (r++([(d,oc #[n] 42)]++L)) w/\Fr 58 [(0,i),(2,i6 c),(4,.func (.func 102) #[] #[(pq d)]),(10,i6 f),(11,i6 g)] a) B (o,(c-j),(l-c)) ?_ ?_
 exact y
 rintro _ a w⟨m,f,g,r,rfl,hI,F,P,S,hS,ha⟩
 refine Ab ha ?_
 replace hV:=hV _ hI
 exact Z
end Go.Proofs.YtlhkfkecoekoeaaGreatDoor
