/- Readings of functions. -/
import Derived.Test.YtniflenfpbbikaaGreatDoorG
set_option linter.all false
namespace Go.X
open IntKind (u64 i64)
open Go.Proofs
instance acd(a i):bG (UG a i) λR=>
 ar a.isNone (
 R 2)<|
 join cb (λb=>
 ar (decide (i<0)) (
 b true)<|
 az a λc=>
 gV c 2 λd=>
 b (decide (i≥d))) λ(e:Bool)=>
 ar e (
 R 1)<|
 cM (U6 a i) λf=>
 ar (!f) (
 R 7)<|
 az a λg=>
 fb g λh=>
 idx h i 1 λj=>
 st j [a_ false]<|
 az a λk=>
 jn k 1 λl=>
 new [aJ i] λm=>
 mi 1 l ⟨some ⟨m,0⟩,1,1⟩ λn=>
 az a λo=>
 so o 1 [aX n]<|
 R 0:=bI Tryz.func211 (uz 0xb4c00880441c1001081001)
instance abb(d):bG (P4 d) λR=>
 ar d.isNone (
 R (0,2))<|
 az d λa=>
 jn a 1 λb=>
 ar (decide (((b.len:Nat):Int)>0)) (
 az d λc=>
 jn c 1 λe=>
 idx e (i64.wrap (((b.len:Nat):Int)-1)) 1 λf=>
 dN f λg=>
 az d λh=>
 jn h 1 λi=>
 D9 i none (some (i64.wrap (((b.len:Nat):Int)-1))) none 1 λj=>
 az d λk=>
 so k 1 [aX j]<|
 az d λl=>
 fb l λm=>
 idx m g 1 λn=>
 st n [a_ true]<|
 R (g,0))<|
 bQ<|
 az d λo=>
 az d λp=>
 fb o λq=>
 gV p 2 λr=>
 ar (decide (((q.len:Nat):Int)≥r)) (
 R (0,5))<|
 az d λs=>
 fb s λt=>
 new [a_ true] λu=>
 mi 1 t ⟨some ⟨u,0⟩,1,1⟩ λv=>
 az d λw=>
 st w [aX v]<|
 az d λx=>
 fb x λy=>
 R ((i64.wrap (((y.len:Nat):Int)-1)),0):=bI Tryz.func147 (uz 0x20c819549a442031c21810059400259c3041781241001)
instance ac9(a i):bG (U6 a i) λR=>
 ar ((!a.isNone)&&(decide (i≥0))) (
 az a λb=>
 fb b λc=>
 ar (decide (i<((c.len:Nat):Int))) (
 az a λd=>
 fb d λe=>
 idx e i 1 λf=>
 rE f λg=>
 R g)<|
 R false)<|
 R false:=bI Tryz.func267 (uz 8)
instance aeX(n):bG (Z7 n) λR=>
 new [aX ⟨none,0,0⟩,aX ⟨none,0,0⟩,aJ (if 4096<(if 0>n then 0 else n)then 4096 else(if 0>n then 0 else n))] λa=>
 R (some ⟨a,0⟩):=bI Tryz.func88 (uz 8)
instance abg(m):bG (wX m) λR=>
 new [zi,zi,zu,zu,zu,zu,zu,zu,a_ false,a_ false] λa=>
 ar m.isNone (
 st ⟨a,0⟩ [zi,zi,zu,zu,zu,zu,zu,zu,a_ false,a_ false]<|
 ld eH ⟨a,0⟩ λb=>
 R b)<|
 bQ<|
 az m λc=>
 az m λd=>
 az m λe=>
 az m λf=>
 az m λg=>
 az m λh=>
 az m λi=>
 gV c 7 λj=>
 dx d 8 λk=>
 dx e 9 λl=>
 fZ f 4 λn=>
 fZ g 1 λo=>
 fZ h 3 λp=>
 fZ i 2 λq=>
 aT (Gp m) λr=>
 lG i 2 q<|
 lG h 3 p<|
 lG g 1 o<|
 lG f 4 n<|
 lA e 9 l<|
 lA d 8 k<|
 EW c 7 j<|
 aT (Gq n) λs=>
 lG i 2 q<|
 lG h 3 p<|
 lG g 1 o<|
 lA e 9 l<|
 lA d 8 k<|
 EW c 7 j<|
 aT (Qb m) λt=>
 lG i 2 q<|
 lG h 3 p<|
 lG g 1 o<|
 lA e 9 l<|
 lA d 8 k<|
 EW c 7 j<|
 aT (Qc o) λu=>
 lG i 2 q<|
 lG h 3 p<|
 lA e 9 l<|
 lA d 8 k<|
 EW c 7 j<|
 bo (UI p) λv=>
 lG i 2 q<|
 lA e 9 l<|
 lA d 8 k<|
 EW c 7 j<|
 cM (Ey q) λw=>
 lA e 9 l<|
 lA d 8 k<|
 EW c 7 j<|
 cM (L3 m) λx=>
 lA e 9 l<|
 lA d 8 k<|
 EW c 7 j<|
 st ⟨a,0⟩ [aJ j,aJ v,aC k,aC l,aC r,aC s,aC t,aC u,a_ w,a_ x]<|
 ld eH ⟨a,0⟩ λy=>
 R y:=bI Tryz.func152 (uz 0x20dc29eadb4bea96379c34998aff5966ce39ae7a6a599a452689299d366ca295d6112c70f186571740a182c2095b58f24504092501f9406a50159404e500e9403250089401250009450c1241001)
instance acC(d o a):bG (Qe d o a) λR=>
 new (Ks.mk aW o) λb=>
 new [zi,zi,zu,zu,zu,zu,zu,zu,a_ false,a_ false] λc=>
 ar d.isNone (
 st ⟨c,0⟩ [zi,zi,zu,zu,zu,zu,zu,zu,a_ false,a_ false]<|
 ld eH ⟨c,0⟩ λe=>
 R e)<|
 bQ<|
 ld aW ⟨b,0⟩ λf=>
 az d λg=>
 fZ g 1 λh=>
 cM (Vd h f) λi=>
 bQ<|
 ld aW ⟨b,0⟩ λj=>
 az d λk=>
 fZ k 5 λl=>
 cg (Ve l i j) λm=>
 ld aW ⟨b,0⟩ λn=>
 cg (Vf d n) λp=>
 join [] (λq=>
 join cb (λr=>
 az d λs=>
 gV s 7 λt=>
 ar (t==2) (
 cM (L3 d) λu=>
 r (!u))<|
 r false) λ(v:Bool)=>
 ar v (
 bQ<|
 az d λw=>
 bJ ⟨b,0⟩ λx=>
 az d λy=>
 bJ ⟨b,6⟩ λz=>
 bJ ⟨b,7⟩ λA=>
 fZ w 3 λB=>
 fZ y 4 λC=>
 aT (Gq C) λD=>
 lG w 3 B<|
 cw ⟨b,7⟩ (Ks.mk cu A)<|
 cw ⟨b,6⟩ (Ks.mk cu z)<|
 cw ⟨b,0⟩ (Ks.mk cu x)<|
 aT (Me d 320) λE=>
 lG w 3 B<|
 cw ⟨b,7⟩ (Ks.mk cu A)<|
 cw ⟨b,6⟩ (Ks.mk cu z)<|
 cw ⟨b,0⟩ (Ks.mk cu x)<|
 aT (Me d 256) λF=>
 lG w 3 B<|
 cw ⟨b,7⟩ (Ks.mk cu A)<|
 cw ⟨b,6⟩ (Ks.mk cu z)<|
 cw ⟨b,0⟩ (Ks.mk cu x)<|
 cM (Vg B x D z A E F) λG=>
 q ())<|
 q ()) λ(H:Unit)=>
 bQ<|
 az d λI=>
 rE ⟨b,8⟩ λJ=>
 az d λK=>
 fZ I 2 λL=>
 s_ K λM=>
 aT (Mb M) λN=>
 lG I 2 L<|
 cw ⟨b,8⟩ (Ks.mk cb J)<|
 cM (Vh L i J N) λO=>
 ld aW ⟨b,0⟩ λQ=>
 cg (Vi d Q) λS=>
 ld aW ⟨b,0⟩ λT=>
 cg (Vj d T i) λU=>
 cg (Vk d) λV=>
 ld aW ⟨b,0⟩ λX=>
 cg (Vl d X i) λY=>
 ld aW ⟨b,0⟩ λZ=>
 cg (Vm d Z a) λa0=>
 bC (wX d) λ(a1:gd)=>
 st ⟨c,0⟩ (Ks.mk eH a1)<|
 ld eH ⟨c,0⟩ λa2=>
 R a2:=bI Tryz.func234 (uz 0x5207175543326cb98a0c90881810079441651c4940025e0304082385f75b5944fe8929a042668a9890c808e3071410119403e510d9442e50069441250009640c1002901100100060595506b830811059471250009500c18161a63ce16a0c204412500094a0c1241001)
instance adU(m):bG (Qz m) λR=>
 bQ<|
 az m λa=>
 az m λb=>
 dx a 9 λc=>
 dx b 10 λd=>
 az m λe=>
 so e 9 [aC (if d>c then d else c)]<|
 az m λf=>
 so f 10 [zu]<|
 R ():=bI Tryz.func313 (uz 0x81f4263cf9433a538c36a3022e52c72a92452041c30069400a5001940025043)
instance adv(m gain):bG (Me m gain) λR=>
 bQ<|
 az m λa=>
 fZ a 4 λb=>
 aT (Gp m) λc=>
 lG a 4 b<|
 aT (Gq b) λd=>
 aT (Qx c d gain) λe=>
 R e:=bI Tryz.func288 (uz 0x80d26630b188b8a1a61419851030479400a50009440c1001)
instance aco(m):bG (Gp m) λR=>
 az m λa=>
 fZ a 5 λb=>
 bC (Qp b) λ(c:Int×Bool)=>
 ar c.2 (
 R c.1)<|
 az m λd=>
 s_ d λe=>
 aT (Mb e) λf=>
 R f:=bI Tryz.func221 (uz 0x1f)
instance adR(m af):bG (Qy m af) λR=>
 az m λa=>
 so a 7 [aJ 2]<|
 az m λb=>
 fZ b 3 λc=>
 cg (Qw c af 2) λd=>
 R ():=bI Tryz.func310 (uz 7)
instance adT(m):bG (Mg m) λR=>
 az m λa=>
 dx a 6 λb=>
 R (u64.wrap (4*b)):=bI Tryz.func312 (uz 8)
instance acq(m):bG (Qb m) λR=>
 az m λa=>
 gV a 7 λb=>
 ar (b==0) (
 R 739)<|
 az m λc=>
 gV c 7 λd=>
 ar (d==1) (
 R 88)<|
 join cb (λe=>
 az m λf=>
 gV f 7 λg=>
 ar (g==2) (
 cM (L3 m) λh=>
 e (!h))<|
 e false) λ(i:Bool)=>
 ar i (
 az m λj=>
 fZ j 3 λk=>
 aT (Vc k) λl=>
 R l)<|
 R 256:=bI Tryz.func223 (uz 0x730008f0441c10011c1001081001)
instance ady(m s start):bG (Vj m s start) λR=>
 new (Ks.mk aW s) λa=>
 bQ<|
 az m λb=>
 bJ ⟨a,0⟩ λc=>
 bJ ⟨a,4⟩ λd=>
 bJ ⟨a,7⟩ λe=>
 fZ b 4 λf=>
 aT (Mg m) λg=>
 lG b 4 f<|
 cw ⟨a,7⟩ (Ks.mk cu e)<|
 cw ⟨a,4⟩ (Ks.mk cu d)<|
 cw ⟨a,0⟩ (Ks.mk cu c)<|
 bC (Vt f c d start e g) λ(h:Bool×Bool)=>
 ar h.1 (
 bQ<|
 az m λi=>
 az m λj=>
 dx i 10 λk=>
 dx j 9 λl=>
 az m λn=>
 so n 10 [aC (if l>k then l else k)]<|
 az m λo=>
 so o 7 [aJ 3]<|
 R ())<|
 ar h.2 (
 cg (Qz m) λp=>
 az m λq=>
 so q 7 [zi]<|
 az m λr=>
 fZ r 2 λt=>
 cM (Ey t) λu=>
 ar u (
 bJ ⟨a,0⟩ λv=>
 cg (Qy m v) λw=>
 R ())<|
 R ())<|
 R ():=bI Tryz.func291 (uz 0x2081f42678f9523a575b36a3112e56962a92452041c30069400a50019400256830400428204a67d198842520f94e75b65838c37a70c98308a1c50402e51099422251069441250009480c1001)
instance adt(m s):bG (Vf m s) λR=>
 new (Ks.mk aW s) λa=>
 join [] (λb=>
 bJ ⟨a,5⟩ λc=>
 ar (c==0) (
 R ())<|
 bJ ⟨a,3⟩ λd=>
 ar (d==0) (
 R ())<|
 b ()) λ(e:Unit)=>
 bQ<|
 bJ ⟨a,1⟩ λf=>
 bJ ⟨a,2⟩ λg=>
 bJ ⟨a,3⟩ λh=>
 aT (y8 f g) λi=>
 cw ⟨a,3⟩ (Ks.mk cu h)<|
 aT (Ex i 1000000000 h) λj=>
 join cb (λk=>
 rE ⟨a,8⟩ λl=>
 ar (!l) (
 k true)<|
 az m λn=>
 s_ n λo=>
 aT (Mb o) λp=>
 k (decide (j≥p))) λ(q:Bool)=>
 ar q (
 bQ<|
 az m λr=>
 az m λt=>
 s_ r λu=>
 fZ t 1 λv=>
 aT (Qc v) λw=>
 cw r (Ks.mk cp u)<|
 aT (Vr u w j) λx=>
 R ())<|
 R ():=bI Tryz.func286 (uz 0x81a6542ae6089870c60850442650049400258030400a00448182265d51ea50e12a1830431650c2943025303048004001)
instance adx(m s):bG (Vi m s) λR=>
 new (Ks.mk aW s) λa=>
 loop [] () λb (c:Unit)=>
 join cb (λd=>
 az m λe=>
 gV e 7 λf=>
 ar (f==0) (
 az m λg=>
 fZ g 2 λh=>
 cM (Ey h) λi=>
 d i)<|
 d false) λ(j:Bool)=>
 ar j (
 az m λk=>
 so k 7 [aJ 1]<|
 b ())<|
 join cb (λl=>
 bQ<|
 az m λn=>
 gV n 7 λo=>
 ar (o==1) (
 az m λp=>
 fZ p 4 λq=>
 aT (Gq q) λr=>
 ar (decide (r>0)) (
 bJ ⟨a,7⟩ λt=>
 aT (Me m 256) λu=>
 cw ⟨a,7⟩ (Ks.mk cu t)<|
 l (decide (t≤u)))<|
 l false)<|
 l false) λ(v:Bool)=>
 ar v (
 bJ ⟨a,0⟩ λw=>
 cg (Qy m w) λx=>
 R ())<|
 R ():=bI Tryz.func290 (uz 0xc8245268de4e98a0792b61791a9f78fa5e010a5e0cea4d7163296d62e96962aa6562696162295d61e95801a91440c2040025503094044001002101102080182001001)
instance adz(m):bG (Vk m) λR=>
 aT (Gp m) λa=>
 ar (a==0) (
 R ())<|
 aT (Gp m) λb=>
 aT (Qb m) λc=>
 aT (P5 b c) λd=>
 join cb (λe=>
 az m λf=>
 fZ f 2 λg=>
 cM (Ey g) λh=>
 ar h (
 e true)<|
 az m λi=>
 dx i 8 λj=>
 e (decide ((if 1>d then 1 else d)>j))) λ(k:Bool)=>
 ar k (
 az m λl=>
 so l 8 [aC (if 1>d then 1 else d)]<|
 R ())<|
 R ():=bI Tryz.func292 (uz 0x1c0098044001201)
instance acv(m):bG (L3 m) λR=>
 az m λa=>
 fZ a 5 λb=>
 bC (Qp b) λ(c:Int×Bool)=>
 R c.2:=bI Tryz.func227 (uz 0xb)
instance adA(d o a):bG (Vl d o a) λR=>
 new (Ks.mk aW o) λb=>
 join cb (λc=>
 bJ ⟨b,6⟩ λe=>
 ar (decide (e>0)) (
 az d λf=>
 oM f 11 λg=>
 c (!g))<|
 c false) λ(h:Bool)=>
 ar h (
 bJ ⟨b,1⟩ λi=>
 bJ ⟨b,7⟩ λj=>
 aT (oL i j) λk=>
 az d λl=>
 so l 11 [a_ true]<|
 az d λm=>
 so m 12 [a_ true]<|
 az d λn=>
 so n 13 [aC k]<|
 bQ<|
 az d λp=>
 az d λq=>
 dx p 10 λr=>
 dx q 9 λs=>
 az d λt=>
 so t 10 [aC (if s>r then s else r)]<|
 R ())<|
 az d λu=>
 oM u 11 λv=>
 ar v (
 az d λw=>
 oM w 12 λx=>
 az d λy=>
 so y 12 [a_ (x&&(!a))]<|
 bQ<|
 bJ ⟨b,1⟩ λz=>
 az d λA=>
 dx A 13 λB=>
 ar (decide (z<B)) (
 R ())<|
 az d λC=>
 so C 11 [a_ false]<|
 az d λD=>
 so D 12 [a_ false]<|
 az d λE=>
 gV E 7 λF=>
 ar (F !=3) (
 cg (Qz d) λG=>
 R ())<|
 R ())<|
 R ():=bI Tryz.func293 (uz 0xb1e05921a91440c1002944025e8304100104006071a32a2d12a56552692041c318200594006500095e0c0041002181102001)
instance adW(m):bG (Vv m) λR=>
 az m λa=>
 gV a 7 λb=>
 ar (b==2) (
 R 512)<|
 ar (b==3) (
 R 256)<|
 R 739:=bI Tryz.func315 (uz 0x1cd080041001)
instance adB(d o a):bG (Vm d o a) λR=>
 new (Ks.mk aW o) λb=>
 bQ<|
 az d λc=>
 bJ ⟨b,6⟩ λe=>
 az d λf=>
 dx c 9 λg=>
 dx f 6 λh=>
 aT (y8 g e) λi=>
 lA f 6 h<|
 az d λj=>
 so j 9 [aC (if h>i then h else i)]<|
 join [] (λk=>
 az d λl=>
 oM l 12 λm=>
 ar m (
 bQ<|
 az d λn=>
 bJ ⟨b,7⟩ λp=>
 bJ ⟨b,5⟩ λq=>
 dx n 9 λr=>
 aT (oL p q) λs=>
 lA n 9 r<|
 az d λt=>
 so t 9 [aC (if s>r then s else r)]<|
 k ())<|
 bJ ⟨b,5⟩ λu=>
 ar (decide (u>0)) (
 bQ<|
 az d λv=>
 az d λw=>
 fZ v 4 λx=>
 dx w 6 λy=>
 aT (Gp d) λz=>
 lA w 6 y<|
 lG v 4 x<|
 aT (Gq x) λA=>
 lA w 6 y<|
 aT (Vv d) λB=>
 lA w 6 y<|
 aT (Vu z A B a y) λC=>
 az d λD=>
 fZ D 2 λE=>
 cM (Ey E) λF=>
 ar F (
 bQ<|
 az d λG=>
 bJ ⟨b,5⟩ λH=>
 dx G 9 λI=>
 aT (oL I H) λJ=>
 az d λK=>
 so K 9 [aC (if C<J then C else J)]<|
 k ())<|
 join cb (λL=>
 bQ<|
 az d λM=>
 dx M 9 λN=>
 ar (decide (N<C)) (
 L true)<|
 bJ ⟨b,1⟩ λO=>
 az d λQ=>
 dx Q 6 λS=>
 L (decide (O<(u64.wrap (10*S))))) λ(T:Bool)=>
 ar T (
 bQ<|
 az d λU=>
 bJ ⟨b,5⟩ λV=>
 dx U 9 λX=>
 aT (oL X V) λY=>
 az d λZ=>
 so Z 9 [aC Y]<|
 k ())<|
 k ())<|
 k ()) λ(a0:Unit)=>
 bQ<|
 az d λa1=>
 dx a1 9 λa2=>
 aT (Mg d) λa3=>
 lA a1 9 a2<|
 az d λa4=>
 so a4 9 [aC (if a3>a2 then a3 else a2)]<|
 az d λa5=>
 gV a5 7 λa6=>
 ar (a6==3) (
 aT (Mg d) λa7=>
 az d λa8=>
 so a8 9 [aC a7]<|
 R ())<|
 R ():=bI Tryz.func294 (uz 0x2206982aa2512255d51e95869840c2005940065000964fc30400206982aa2512255d51ea10318210594006500095afc30607d73e97995ceb5d5cda5c5cca5b5cba5a5caa585c8a57009a57107a465541690c204612500094afc309afc112071a32a2d12a56582695d51ea103182188944165001940025f430400607cf99e6995d23b66089961a644198d14c10b0c02a50899401e5002940025a4304100181d6cda8c44b95a54aa595c9a840c81821079441650019400256430400401207dd3ea38736570e32934b1ea2c42832460802251059400650009460c1001)
instance aaC(bs):bG (PU bs) λR=>
 lU (T6 10) λa=>
 lU T7 λb=>
 lU T8 λc=>
 lU T9 λd=>
 lU T_ λe=>
 lU Ua λf=>
 new [.ptr a,.ptr b,.ptr c,.ptr d,.ptr e,.ptr f,aC (if 9000<(if 100>bs then 100 else bs)then 9000 else(if 100>bs then 100 else bs)),zi,zu,zu,zu,a_ false,a_ false,zu] λg=>
 az (some ⟨g,0⟩) λh=>
 so h 9 [aC (u64.wrap (10*(if 9000<(if 100>bs then 100 else bs)then 9000 else(if 100>bs then 100 else bs))))]<|
 az (some ⟨g,0⟩) λi=>
 dx i 9 λj=>
 aT (P5 (u64.wrap (j*1000)) 739) λk=>
 az (some ⟨g,0⟩) λl=>
 so l 8 [aC k]<|
 R (some ⟨g,0⟩):=bI Tryz.func105 (uz 0x14)
instance abu(d o a):bG (P6 d o a) λR=>
 ar d.isNone (
 R (⟨none,0,0⟩,0,2))<|
 cM (UK d o a) λb=>
 ar (!b) (
 R (⟨none,0,0⟩,0,11))<|
 az d λc=>
 fb c λe=>
 loop H9 (⟨none,0,0⟩,⟨none,0,0⟩,0) λf (g:Ia)=>
 ar (decide (g.2.2<((e.len:Nat):Int))) (
 idx e g.2.2 9 λh=>
 ld aE h λi=>
 new [zu,zu,zu,zu,zu,zu,a_ false,a_ false,a_ false] λj=>
 st ⟨j,0⟩ (Ks.mk aE i)<|
 bJ ⟨j,1⟩ λk=>
 join cl (λl=>
 join cb (λm=>
 rE ⟨j,7⟩ λn=>
 ar (!n) (
 ar (decide (k≤o)) (
 m true)<|
 ld aE ⟨j,0⟩ λp=>
 cM (UL a p) λq=>
 m q)<|
 m false) λ(r:Bool)=>
 ar r (
 ld aE ⟨j,0⟩ λs=>
 new [aC s.1,aC s.2.1,aC s.2.2.1,aC s.2.2.2.1,aC s.2.2.2.2.1,aC s.2.2.2.2.2.1,a_ s.2.2.2.2.2.2.1,a_ s.2.2.2.2.2.2.2.1,a_ s.2.2.2.2.2.2.2.2] λt=>
 mi 9 g.1 ⟨some ⟨t,0⟩,1,1⟩ λu=>
 st ⟨j,7⟩ [a_ true]<|
 st ⟨j,8⟩ [a_ false]<|
 l u)<|
 l g.1) λ(v:Sl)=>
 ar (decide (k≤o)) (
 f (v,g.2.1,(i64.wrap (g.2.2+1))))<|
 ld aE ⟨j,0⟩ λw=>
 new [aC w.1,aC w.2.1,aC w.2.2.1,aC w.2.2.2.1,aC w.2.2.2.2.1,aC w.2.2.2.2.2.1,a_ w.2.2.2.2.2.2.1,a_ w.2.2.2.2.2.2.2.1,a_ w.2.2.2.2.2.2.2.2] λx=>
 mi 9 g.2.1 ⟨some ⟨x,0⟩,1,1⟩ λy=>
 f (v,y,(i64.wrap (g.2.2+1))))<|
 az d λz=>
 st z [aX g.2.1]<|
 aT (UM d) λA=>
 R (g.1,A,0):=bI Tryz.func164 (uz 0x20038c002b8110424110004004204704004170428424318200104004004d081001)
instance abC(b s):bG (Eu b s) λR=>
 new (Ks.mk cy s) λa=>
 new [zu,zu] λc=>
 bC (Qf b) λ(d:(Int×Int)×Bool)=>
 new [zu,zu] λe=>
 st ⟨e,0⟩ (Ks.mk cr d.1)<|
 join [] (λf=>
 ar d.2 (
 bQ<|
 az b λg=>
 fb g λh=>
 bo (L5 b) λi=>
 cw g (Ks.mk cl h)<|
 idx h i 9 λj=>
 bQ<|
 ld cy ⟨a,0⟩ λk=>
 az (some j) λl=>
 so l 8 [a_ false]<|
 cw ⟨a,0⟩ (Ks.mk cy k)<|
 az (some j) λm=>
 so m 2 (Ks.mk cy k)<|
 f ())<|
 f ()) λ(n:Unit)=>
 ld cr ⟨e,0⟩ λ(o:Int×Int)=>
 st ⟨c,0⟩ (Ks.mk cr o)<|
 ld cr ⟨c,0⟩ λ(p:Int×Int)=>
 R (p,d.2):=bI Tryz.func172 (uz 0x7020ae722aa879661a5a459a81259439422019480250438171e65941a9545983081004940025383041001004001001)
instance adD(b):bG (Qr b) λR=>
 new [.ptr b] λa=>
 R (.mk (.func hY) [] [V1.enc (.lf (.ptr (some ⟨a,0⟩)))]):=bI Tryz.func296 (uz 8)
instance adX(yield c0):bG (Vw yield c0) λR=>
 s_ c0 λa=>
 ar a.isNone (
 R ())<|
 s_ c0 λb=>
 az b λc=>
 fb c λd=>
 loop ci 0 λe (f:Int)=>
 ar (decide (f<((d.len:Nat):Int))) (
 idx d f 9 λg=>
 ld aE g λh=>
 new [zu,zu,zu,zu,zu,zu,a_ false,a_ false,a_ false] λi=>
 st ⟨i,0⟩ (Ks.mk aE h)<|
 ld aE ⟨i,0⟩ λj=>
 xT Tryz.prog yield [.agg (Ks.mk aE j)] [qb] λ(k:Bool)=>
 ar (!k) (
 R ())<|
 e (i64.wrap (f+1)))<|
 R ():=bI Tryz.func316 (uz 0x2c2047040041301182001201)
instance acL(b):PA (US b) λn0 R=>
 new [zu] λa=>
 st ⟨a,0⟩ [zu]<|
 bC (Qr b) λ(c:Fv)=>
 qP Tryz.prog c [.agg aE] (λ(d:yQ) e f g=>
 new [zu,zu,zu,zu,zu,zu,a_ false,a_ false,a_ false] λh=>
 st ⟨h,0⟩ (Ks.mk aE d)<|
 e<|
 ld aE ⟨h,0⟩ λi=>
 cM (L4 i) λj=>
 ar j (
 bJ ⟨a,0⟩ λk=>
 bJ ⟨h,1⟩ λl=>
 bJ ⟨h,0⟩ λm=>
 st ⟨a,0⟩ [aC (u64.wrap (k+(u64.wrap (l-m))))]<|
 f)<|
 f) λn=>pB 0 n (bJ ⟨a,0⟩ λo=>
 lV n0<|R o)<|
 gX:=VH Tryz.func243 (.s .o (.s .o (.s (.s .o (.b (.r [.agg aE] .o (.b (.s .o (.s .o .o)))))) (.s .o .o))))
instance acK(b):bG (UR b) λR=>
 ar b.isNone (
 R 0)<|
 az b λa=>
 fb a λc=>
 R ((c.len:Nat):Int):=bI Tryz.func242 (uz 0xa)
instance aby(b):bG (Ug b) λR=>
 ar b.isNone (
 R 0)<|
 az b λa=>
 fb a λc=>
 loop [.int .u64,.int .i64] (0,0) λd (e:Int×Int)=>
 ar (decide (e.2<((c.len:Nat):Int))) (
 idx c e.2 9 λf=>
 ld aE f λg=>
 new [zu,zu,zu,zu,zu,zu,a_ false,a_ false,a_ false] λh=>
 st ⟨h,0⟩ (Ks.mk aE g)<|
 ld aE ⟨h,0⟩ λi=>
 cM (L4 i) λj=>
 ar j (
 az b λk=>
 fb k λl=>
 idx l e.2 9 λm=>
 so m 8 [a_ true]<|
 bJ ⟨h,1⟩ λn=>
 bJ ⟨h,0⟩ λo=>
 d ((u64.wrap (e.1+(u64.wrap (n-o)))),(i64.wrap (e.2+1))))<|
 d (e.1,(i64.wrap (e.2+1))))<|
 R e.1:=bI Tryz.func168 (uz 0x700f0811c100104d003086080041001241001)
instance acF(b):bG (Qf b) λR=>
 new [zu,zu] λa=>
 bo (L5 b) λc=>
 ar (decide (c<0)) (
 st ⟨a,0⟩ [zu,zu]<|
 ld cr ⟨a,0⟩ λ(d:Int×Int)=>
 R (d,false))<|
 bQ<|
 az b λe=>
 az b λf=>
 fb e λg=>
 fb f λh=>
 idx g c 9 λi=>
 idx h c 9 λj=>
 bJ i λk=>
 dx j 1 λl=>
 st ⟨a,0⟩ [aC k,aC l]<|
 ld cr ⟨a,0⟩ λ(m:Int×Int)=>
 R (m,true):=bI Tryz.func237 (uz 0x8128a1091aa0610a4f1ce19d70da4e345a4b0ca0890443250089441250009490c1241001001)
instance abF(b from' to' s):bG (Ew b from' to' s) λR=>
 new (Ks.mk cy s) λa=>
 ar b.isNone (
 R 2)<|
 az b λc=>
 dx c 1 λd=>
 ar ((from' !=d)||(decide (to'≤from'))) (
 R 1)<|
 az b λe=>
 fb e λf=>
 ar (decide (((f.len:Nat):Int)≥4096)) (
 R 5)<|
 bQ<|
 ld cy ⟨a,0⟩ λg=>
 az b λh=>
 fb h λi=>
 new [aC from',aC to',aC g.1,aC g.2.1,aC g.2.2.1,aC g.2.2.2.1,a_ g.2.2.2.2,a_ false,a_ false] λj=>
 cw h (Ks.mk cl i)<|
 mi 9 i ⟨some ⟨j,0⟩,1,1⟩ λk=>
 az b λl=>
 st l [aX k]<|
 az b λm=>
 so m 1 [aC to']<|
 R 0:=bI Tryz.func175 (uz 0x22075b36a3112e56952aa6499840d85d622d0871e5086941165001940025783055081001)
instance acM(b):PA (L5 b) λn0 R=>
 new [zi] λa=>
 new [zi] λc=>
 st ⟨c,0⟩ [zi]<|
 bC (Qr b) λ(d:Fv)=>
 qP Tryz.prog d [.agg aE] (λ(e:yQ) f g h=>
 new [zu,zu,zu,zu,zu,zu,a_ false,a_ false,a_ false] λi=>
 st ⟨i,0⟩ (Ks.mk aE e)<|
 f<|
 rE ⟨i,8⟩ λj=>
 ar j (
 dN ⟨c,0⟩ λk=>
 st ⟨a,0⟩ [aJ k]<|
 h 1)<|
 dN ⟨c,0⟩ λl=>
 st ⟨c,0⟩ [aJ (i64.wrap (l+1))]<|
 g) λm=>pB 0 m (st ⟨a,0⟩ [aJ (-1)]<|
 dN ⟨a,0⟩ λn=>
 lV n0<|R n)<|
 pB 1 m (dN ⟨a,0⟩ λo=>
 lV n0<|R o)<|
 gX:=VH Tryz.func244 (.s .o (.s .o (.s (.s .o (.b (.r [.agg aE] .o (.b (.s (.s .o (.s (.s .o .o) .o)) .o))))) (.s .o .o))))
instance acy(b upto sacks):bG (UK b upto sacks) λR=>
 new [.ptr b] λa=>
 s_ ⟨a,0⟩ λc=>
 az c λd=>
 dx d 1 λe=>
 ar (decide (upto≤e)) (
 cM (Qq sacks (.mk (.func mR) [] [V1.enc (.lf (.ptr (some ⟨a,0⟩)))])) λf=>
 R (!f))<|
 R false:=bI Tryz.func230 (uz 8)
instance adp(r c0):bG (XN r c0) λR=>
 new (Ks.mk cr r) λa=>
 bQ<|
 s_ c0 λb=>
 bJ ⟨a,1⟩ λc=>
 az b λd=>
 dx d 1 λe=>
 ar (decide (c>e)) (
 R true)<|
 bJ ⟨a,0⟩ λf=>
 bJ ⟨a,1⟩ λg=>
 R (decide (f≥g)):=bI Tryz.func282 (uz 0x2078e99d2cda4f34b32d38b2e930b2692c22a92c22291c9146a451030410a50809430c1001)
instance acA(b):bG (UM b) λR=>
 az b λa=>
 fb a λc=>
 loop Sr (0,0,(i64.wrap (((c.len:Nat):Int)-1))) λd (e:Sz)=>
 ar (decide (e.2.2≥0)) (
 az b λf=>
 fb f λg=>
 idx g e.2.2 9 λh=>
 join ci (λi=>
 az (some h) λj=>
 oM j 7 λk=>
 ar k (
 i (i64.wrap (e.2.1+1)))<|
 i e.2.1) λ(l:Int)=>
 az (some h) λm=>
 ld aE m λn=>
 cM (L4 n) λo=>
 ar (o&&(decide (l≥3))) (
 az (some h) λp=>
 so p 8 [a_ true]<|
 bQ<|
 az (some h) λq=>
 az (some h) λr=>
 dx q 1 λs=>
 bJ r λt=>
 d ((u64.wrap (e.1+(u64.wrap (s-t)))),l,(i64.wrap (e.2.2-1))))<|
 d (e.1,l,(i64.wrap (e.2.2-1))))<|
 R e.1:=bI Tryz.func232 (uz 0x1c00206cb99a44aa59549a481070c60861651819430259c30010400480440440010812010450440030c6080041001001)
instance aaA:bG TM λR=>
 new [aX ⟨none,0,0⟩,zu] λa=>
 R (some ⟨a,0⟩):=bI Tryz.func103 (uz 8)
instance acE(p):bG (L4 p) λR=>
 new (Ks.mk aE p) λa=>
 rE ⟨a,7⟩ λb=>
 ar (!b) (
 rE ⟨a,8⟩ λc=>
 R (!c))<|
 R false:=bI Tryz.func236 (uz 8)
instance acz(sacks p):bG (UL sacks p) λR=>
 new (Ks.mk aE p) λa=>
 cM (Qq sacks (.mk (.func pP) [] [V1.enc (.lf (.ptr (some ⟨a,0⟩)))])) λb=>
 R b:=bI Tryz.func231 (uz 8)
instance adq(r c0):bG (XO r c0) λR=>
 new (Ks.mk cr r) λa=>
 bJ ⟨a,0⟩ λc=>
 bJ c0 λd=>
 ar (decide (c≤d)) (
 bJ ⟨a,1⟩ λe=>
 bJ ⟨c0.b,c0.o+1⟩ λf=>
 R (decide (e≥f)))<|
 R false:=bI Tryz.func283 (uz 8)
instance abv(b upto):bG (Ue b upto) λR=>
 ar b.isNone (
 R 2)<|
 az b λa=>
 dx a 1 λc=>
 ar (decide (upto>c)) (
 R 11)<|
 az b λd=>
 dx d 2 λe=>
 az b λf=>
 so f 2 [aC (if upto>e then upto else e)]<|
 R 0:=bI Tryz.func165 (uz 0x20d081001)
instance acx(b):bG (UJ b) λR=>
 ar b.isNone (
 R 0)<|
 bQ<|
 az b λa=>
 az b λc=>
 bJ a λd=>
 dx c 2 λe=>
 R (u64.wrap (d-e)):=bI Tryz.func229 (uz 0x2034998c208a470c60850401250009440c1241001)
instance abD(b most):bG (Ev b most) λR=>
 new [zu,zu] λa=>
 new [zu,zu] λc=>
 st ⟨c,0⟩ [zu,zu]<|
 join cb (λd=>
 loop cb false λe (f:Bool)=>
 ar (decide (most≥1)) (
 aT (Qg b) λg=>
 ar ((if g<(u64.wrap most)then g else(u64.wrap most))==0) (
 d f)<|
 bQ<|
 az b λh=>
 az b λi=>
 dx h 1 λj=>
 dx i 1 λk=>
 st ⟨c,0⟩ [aC j,aC (u64.wrap (k+(if g<(u64.wrap most)then g else(u64.wrap most))))]<|
 az b λl=>
 dx l 1 λm=>
 az b λn=>
 so n 1 [aC (u64.wrap (m+(if g<(u64.wrap most)then g else(u64.wrap most))))]<|
 d true)<|
 d f) λ(o:Bool)=>
 ld cr ⟨c,0⟩ λ(p:Int×Int)=>
 st ⟨a,0⟩ (Ks.mk cr p)<|
 ld cr ⟨a,0⟩ λ(q:Int×Int)=>
 R (q,o):=bI Tryz.func173 (uz 0x71e03226c62ea6942a96582691c31821412089401250009520c12010010880421c1182087044001001001)
instance acG(b):bG (Qg b) λR=>
 ar b.isNone (
 R 0)<|
 bQ<|
 az b λa=>
 az b λc=>
 bJ a λd=>
 dx c 1 λe=>
 R (u64.wrap (d-e)):=bI Tryz.func238 (uz 0x2034998c208a470c60850401250009440c1241001)
instance abt(b n):bG (Ud b n) λR=>
 ar b.isNone (
 R 2)<|
 ar (decide (n<1)) (
 R 1)<|
 bQ<|
 az b λa=>
 dx a 3 λc=>
 aT (UJ b) λd=>
 lA a 3 c<|
 ar (decide ((u64.wrap n)>(u64.wrap (c-d)))) (
 R 5)<|
 az b λe=>
 bJ e λf=>
 az b λg=>
 st g [aC (u64.wrap (f+(u64.wrap n)))]<|
 R 0:=bI Tryz.func163 (uz 0x832068a999349a58588a571e61440c10069400a504094b0c11c10011c1001081001)
instance aaz(n):bG (TL n) λR=>
 new [zu,zu,zu,aC (u64.wrap (if 1073741824<(if 0>n then 0 else n)then 1073741824 else(if 0>n then 0 else n)))] λa=>
 R (some ⟨a,0⟩):=bI Tryz.func102 (uz 8)
instance ael(v):bG (Mj v) λR=>
 ar (decide (v<10)) (
 new [.int .u8 (IntKind.u8.wrap (u64.wrap (48+v)))] λa=>
 Gh ⟨some ⟨a,0⟩,1,1⟩ λt2=>
 R t2)<|
 bQ<|
 both (
 bC (Mj (u64.wrap (v.tdiv 10))) λ(b:ByteArray)=>
 new [.int .u8 (IntKind.u8.wrap (u64.wrap (48+(v.tmod 10))))] λc=>
 Gh ⟨some ⟨c,0⟩,1,1⟩ λt5=>
 dM (((b.size+t5.size:Nat):Int)≤i64.max)<|
 R (b++t5))<|
 new [.int .u8 (IntKind.u8.wrap (u64.wrap (48+(v.tmod 10))))] λd=>
 both (
 bC (Mj (u64.wrap (v.tdiv 10))) λ(e:ByteArray)=>
 Gh ⟨some ⟨d,0⟩,1,1⟩ λt8=>
 dM (((e.size+t8.size:Nat):Int)≤i64.max)<|
 R (e++t8))<|
 Gh ⟨some ⟨d,0⟩,1,1⟩ λt9=>
 bC (Mj (u64.wrap (v.tdiv 10))) λ(f:ByteArray)=>
 dM (((f.size+t9.size:Nat):Int)≤i64.max)<|
 R (f++t9):=bI Tryz.func37 (uz 0x2068a999309a4b0a66089a068a999309a582262c29d71e681a2a664c2696089971e62c29c61440400e50009490c1241001)
instance adE(l x):bG (Qs l x) λR=>
 loop ci 0 λa (b:Int)=>
 ar (decide (b<((l.len:Nat):Int))) (
 idx l b 1 λc=>
 dN c λd=>
 ar (d==x) (
 R true)<|
 a (i64.wrap (b+1)))<|
 R false:=bI Tryz.func297 (uz 0x7009081201045046080041001)
instance iq4(b):bG (c4 b) λR=>
 ar (decide (((b.len:Nat):Int)>700)) (
 cM Px λa=>
 R a)<|
 bC (YX b) λ(c:Sl)=>
 bC XI λ(d:eN)=>
 bC (c9 d c) λ(e:Sl×Sl)=>
 bC (YY e.1 e.2) λ(f:ByteArray)=>
 bC XJ λ(g:eN)=>
 bC (ZD b) λ(h:Sl)=>
 bC (PT g h) λ(i:Sl×Sl)=>
 loop [.int .i64,.int .i64] (0,0) λj (k:Int×Int)=>
 ar (decide (k.2<((f.size:Nat):Int))) (
 TE f k.2 λl=>
 ar (l==10) (
 j ((i64.wrap (k.1+1)),(i64.wrap (k.2+1))))<|
 j (k.1,(i64.wrap (k.2+1))))<|
 cM Px λm=>
 ar m (
 bC (ZE i.1 i.2) λ(n:ByteArray)=>
 R ((f.toList==n.toList)&&(k.1==((c.len:Nat):Int))))<|
 R false:=bI Tryz.func4 (uz 0x700808120104a049086080041001001001001001241001)
instance ad7:bG Px λR=>
 new [.int .u8 1,.int .u8 2] λa=>
 bC (YX ⟨some ⟨a,0⟩,2,2⟩) λ(b:Sl)=>
 ar (((b.len:Nat):Int)==1) (
 idx b 0 15 λc=>
 dN c λd=>
 ar (d==1) (
 idx b 0 15 λe=>
 gV e 1 λf=>
 ar (f==2) (
 new [aJ 5] λg=>
 bC (YY ⟨none,0,0⟩ ⟨some ⟨g,0⟩,1,1⟩) λ(h:ByteArray)=>
 ar (h.toList==(⟨#[53,10]⟩:ByteArray).toList) (
 bC XI λ(i:eN)=>
 bC XJ λ(j:eN)=>
 R ((i.1==j.1)&&((i.2.1==j.2.1)&&((i.2.2.1==j.2.2.1)&&((i.2.2.2.1==j.2.2.2.1)&&((i.2.2.2.2.1==j.2.2.2.2.1)&&((i.2.2.2.2.2.1==j.2.2.2.2.2.1)&&((i.2.2.2.2.2.2.1==j.2.2.2.2.2.2.1)&&((i.2.2.2.2.2.2.2.1==j.2.2.2.2.2.2.2.1)&&(i.2.2.2.2.2.2.2.2==j.2.2.2.2.2.2.2.2))))))))))<|
 R false)<|
 R false)<|
 R false)<|
 R false:=bI Tryz.func11 (uz 0xb)
instance aa1(a b):bG (qF a b) λR=>
 ar (decide (a>(u64.wrap (18446744073709551615-b)))) (
 R 18446744073709551615)<|
 R (u64.wrap (a+b)):=bI Tryz.func130 (uz 0xa)
instance ac1(bw bX gain):bG (JJ bw bX gain) λR=>
 aT (Bh bw bX 1000000000) λa=>
 aT (Bh a gain 256) λb=>
 R b:=bI Tryz.func259 (uz 8)
instance aa2(size aY):bG (LS size aY) λR=>
 ar ((decide (size<1))||(aY==18446744073709551615)) (
 R 0)<|
 aT (Bh (u64.wrap size) 1000000000 aY) λa=>
 R (if 1000000000<a then 1000000000 else a):=bI Tryz.func131 (uz 0xa)
instance acV(hi lo c):bG (UX hi lo c) λR=>
 ar (c==0) (
 R (0,1))<|
 ar (decide (hi≥c)) (
 R (0,3))<|
 loop Sq (lo,0,hi,0) λa (b:xR)=>
 ar (decide (b.2.2.2<64)) (
 dM (0≤(63:Int))<|
 dM (0≤(1:Int))<|
 dM (0≤(63:Int))<|
 dM (0≤(1:Int))<|
 dM (0≤(1:Int))<|
 ar (((b.2.2.1.fdiv (2^min (63:Int).toNat u64.bits))==1)||(decide ((u64.wrap (BitVec.ofInt u64.bits (u64.wrap (b.2.2.1*2^min (1:Int).toNat u64.bits))|||BitVec.ofInt u64.bits (b.1.fdiv (2^min (63:Int).toNat u64.bits))).toNat)≥c))) (
 a ((u64.wrap (b.1*2^min (1:Int).toNat u64.bits)),(u64.wrap (BitVec.ofInt u64.bits (u64.wrap (b.2.1*2^min (1:Int).toNat u64.bits))|||BitVec.ofInt u64.bits 1).toNat),(u64.wrap ((u64.wrap (BitVec.ofInt u64.bits (u64.wrap (b.2.2.1*2^min (1:Int).toNat u64.bits))|||BitVec.ofInt u64.bits (b.1.fdiv (2^min (63:Int).toNat u64.bits))).toNat)-c)),(i64.wrap (b.2.2.2+1))))<|
 a ((u64.wrap (b.1*2^min (1:Int).toNat u64.bits)),(u64.wrap (b.2.1*2^min (1:Int).toNat u64.bits)),(u64.wrap (BitVec.ofInt u64.bits (u64.wrap (b.2.2.1*2^min (1:Int).toNat u64.bits))|||BitVec.ofInt u64.bits (b.1.fdiv (2^min (63:Int).toNat u64.bits))).toNat),(i64.wrap (b.2.2.2+1))))<|
 R (b.2.1,0):=bI Tryz.func253 (uz 0x702108120104a009008001106080041001241241001)
instance aa3(a b):bG (T2 a b) λR=>
 ar (a==0) (
 ar (b==0) (
 R (if(18446744073709551615:Int)<(18446744073709551615:Int)then(18446744073709551615:Int)else(18446744073709551615:Int)))<|
 R (if b<18446744073709551615 then b else 18446744073709551615))<|
 ar (b==0) (
 R (if 18446744073709551615<a then 18446744073709551615 else a))<|
 R (if b<a then b else a):=bI Tryz.func132 (uz 0x22)
instance ab1(aY tso most):bG (Uy aY tso most) λR=>
 aT (JK 2 (u64.wrap (if tso>0 then tso else 0))) λa=>
 R (if(if(u64.wrap (if most>0 then most else 0))<(u64.wrap (aY.tdiv 1024))then(u64.wrap (if most>0 then most else 0))else(u64.wrap (aY.tdiv 1024)))>a then(if(u64.wrap (if most>0 then most else 0))<(u64.wrap (aY.tdiv 1024))then(u64.wrap (if most>0 then most else 0))else(u64.wrap (aY.tdiv 1024)))else a):=bI Tryz.func197 (uz 8)
instance ac8(a b):bG (JK a b) λR=>
 ar (decide (b>0)) (
 dM (b≠0)<|
 ar (decide (a>(u64.wrap ((18446744073709551615:Int).tdiv b)))) (
 R 18446744073709551615)<|
 R (u64.wrap (a*b)))<|
 R (u64.wrap (a*b)):=bI Tryz.func266 (uz 0xa)
instance abQ(a b c):bG (Bh a b c) λR=>
 bC (UW a b) λ(d:Int×Int)=>
 ar ((d.1==0)&&(d.2==0)) (
 R 0)<|
 bC (UX d.1 d.2 c) λ(e:Int×Int)=>
 ar (e.2 !=0) (
 R 18446744073709551615)<|
 R e.1:=bI Tryz.func186 (uz 0x19)
instance abK(bw gain):bG (P8 bw gain) λR=>
 aT (Bh bw gain 256) λa=>
 R a:=bI Tryz.func180 (uz 8)
instance abY(aY bs):bG (Uv aY bs) λR=>
 dM ((u64.wrap (if(if(9000:Int)<bs then(9000:Int)else bs)>(100:Int)then(if(9000:Int)<bs then(9000:Int)else bs)else(100:Int)))≠0)<|
 dM ((if(if(9000:Int)<bs then(9000:Int)else bs)>(100:Int)then(if(9000:Int)<bs then(9000:Int)else bs)else(100:Int))≠0)<|
 R (i64.wrap ((i64.wrap (if(if(u64.wrap (i64.wrap ((65536:Int).tdiv (if(if 9000<bs then 9000 else bs)>100 then(if 9000<bs then 9000 else bs)else 100))))<(u64.wrap ((u64.wrap (aY.tdiv 1024)).tdiv (u64.wrap (if(if 9000<bs then 9000 else bs)>100 then(if 9000<bs then 9000 else bs)else 100))))then(u64.wrap (i64.wrap ((65536:Int).tdiv (if(if 9000<bs then 9000 else bs)>100 then(if 9000<bs then 9000 else bs)else 100))))else(u64.wrap ((u64.wrap (aY.tdiv 1024)).tdiv (u64.wrap (if(if 9000<bs then 9000 else bs)>100 then(if 9000<bs then 9000 else bs)else 100)))))>2 then(if(u64.wrap (i64.wrap ((65536:Int).tdiv (if(if 9000<bs then 9000 else bs)>100 then(if 9000<bs then 9000 else bs)else 100))))<(u64.wrap ((u64.wrap (aY.tdiv 1024)).tdiv (u64.wrap (if(if 9000<bs then 9000 else bs)>100 then(if 9000<bs then 9000 else bs)else 100))))then(u64.wrap (i64.wrap ((65536:Int).tdiv (if(if 9000<bs then 9000 else bs)>100 then(if 9000<bs then 9000 else bs)else 100))))else(u64.wrap ((u64.wrap (aY.tdiv 1024)).tdiv (u64.wrap (if(if 9000<bs then 9000 else bs)>100 then(if 9000<bs then 9000 else bs)else 100)))))else 2))*(if(if 9000<bs then 9000 else bs)>100 then(if 9000<bs then 9000 else bs)else 100))):=bI Tryz.func194 (uz 0x10)
instance abN(a b):bG (wY a b) λR=>
 ar (decide (a<b)) (
 R 0)<|
 R (u64.wrap (a-b)):=bI Tryz.func183 (uz 0xa)
instance acU(a b):bG (UW a b) λR=>
 dM (0≤(32:Int))<|
 dM (0≤(32:Int))<|
 dM (0≤(32:Int))<|
 dM (0≤(32:Int))<|
 dM (0≤(32:Int))<|
 dM (0≤(32:Int))<|
 dM (0≤(32:Int))<|
 R ((u64.wrap ((u64.wrap ((u64.wrap ((u64.wrap ((a.fdiv (2^min (32:Int).toNat u64.bits))*(b.fdiv (2^min (32:Int).toNat u64.bits))))+((u64.wrap ((a.fdiv (2^min (32:Int).toNat u64.bits))*(u64.wrap (BitVec.ofInt u64.bits b&&&BitVec.ofInt u64.bits 4294967295).toNat))).fdiv (2^min (32:Int).toNat u64.bits))))+((u64.wrap ((u64.wrap (BitVec.ofInt u64.bits a&&&BitVec.ofInt u64.bits 4294967295).toNat)*(b.fdiv (2^min (32:Int).toNat u64.bits)))).fdiv (2^min (32:Int).toNat u64.bits))))+((u64.wrap ((u64.wrap (((u64.wrap ((u64.wrap (BitVec.ofInt u64.bits a&&&BitVec.ofInt u64.bits 4294967295).toNat)*(u64.wrap (BitVec.ofInt u64.bits b&&&BitVec.ofInt u64.bits 4294967295).toNat))).fdiv (2^min (32:Int).toNat u64.bits))+(u64.wrap (BitVec.ofInt u64.bits (u64.wrap ((a.fdiv (2^min (32:Int).toNat u64.bits))*(u64.wrap (BitVec.ofInt u64.bits b&&&BitVec.ofInt u64.bits 4294967295).toNat)))&&&BitVec.ofInt u64.bits 4294967295).toNat)))+(u64.wrap (BitVec.ofInt u64.bits (u64.wrap ((u64.wrap (BitVec.ofInt u64.bits a&&&BitVec.ofInt u64.bits 4294967295).toNat)*(b.fdiv (2^min (32:Int).toNat u64.bits))))&&&BitVec.ofInt u64.bits 4294967295).toNat))).fdiv (2^min (32:Int).toNat u64.bits)))),(u64.wrap (BitVec.ofInt u64.bits (u64.wrap ((u64.wrap ((u64.wrap (((u64.wrap ((u64.wrap (BitVec.ofInt u64.bits a&&&BitVec.ofInt u64.bits 4294967295).toNat)*(u64.wrap (BitVec.ofInt u64.bits b&&&BitVec.ofInt u64.bits 4294967295).toNat))).fdiv (2^min (32:Int).toNat u64.bits))+(u64.wrap (BitVec.ofInt u64.bits (u64.wrap ((a.fdiv (2^min (32:Int).toNat u64.bits))*(u64.wrap (BitVec.ofInt u64.bits b&&&BitVec.ofInt u64.bits 4294967295).toNat)))&&&BitVec.ofInt u64.bits 4294967295).toNat)))+(u64.wrap (BitVec.ofInt u64.bits (u64.wrap ((u64.wrap (BitVec.ofInt u64.bits a&&&BitVec.ofInt u64.bits 4294967295).toNat)*(b.fdiv (2^min (32:Int).toNat u64.bits))))&&&BitVec.ofInt u64.bits 4294967295).toNat)))*2^min (32:Int).toNat u64.bits))|||BitVec.ofInt u64.bits (u64.wrap (BitVec.ofInt u64.bits (u64.wrap ((u64.wrap (BitVec.ofInt u64.bits a&&&BitVec.ofInt u64.bits 4294967295).toNat)*(u64.wrap (BitVec.ofInt u64.bits b&&&BitVec.ofInt u64.bits 4294967295).toNat)))&&&BitVec.ofInt u64.bits 4294967295).toNat)).toNat)):=bI Tryz.func252 (uz 0x14)
instance ac6(bw bX gain tso bs):bG (U5 bw bX gain tso bs) λR=>
 ar (bX==0) (
 aT (JK 10 bs) λa=>
 R a)<|
 aT (JJ bw bX gain) λb=>
 aT (JK 3 tso) λc=>
 aT (qF b c) λd=>
 aT (JK 4 bs) λe=>
 R (if e>d then e else d):=bI Tryz.func264 (uz 0xa)
instance aeU(b sock fate):bG (VD b sock fate) λR=>
 ar ((decide (sock<0))||(decide (sock≥8))) (
 R 8)<|
 ar ((decide (fate<0))||(decide (fate>5))) (
 R 1)<|
 az b λa=>
 dM (0≤sock∧sock<8)<|
 join [] (λc=>
 ar (fate !=0) (
 az (some ⟨a.b,a.o+sock.toNat*8⟩) λd=>
 gV d 7 λe=>
 ar (e==0) (
 R 7)<|
 c ())<|
 c ()) λ(f:Unit)=>
 az (some ⟨a.b,a.o+sock.toNat*8⟩) λg=>
 st g [aJ sock]<|
 bQ<|
 az (some ⟨a.b,a.o+sock.toNat*8⟩) λh=>
 az (some ⟨a.b,a.o+sock.toNat*8⟩) λi=>
 dM (0≤fate∧fate<6)<|
 dN ⟨h.b,h.o+1+fate.toNat*1⟩ λj=>
 dM (0≤fate∧fate<6)<|
 st ⟨i.b,i.o+1+fate.toNat*1⟩ [aJ (i64.wrap (j+1))]<|
 ar (fate==0) (
 az (some ⟨a.b,a.o+sock.toNat*8⟩) λk=>
 gV k 7 λl=>
 az (some ⟨a.b,a.o+sock.toNat*8⟩) λm=>
 so m 7 [aJ (i64.wrap (l+1))]<|
 R 0)<|
 az (some ⟨a.b,a.o+sock.toNat*8⟩) λn=>
 gV n 7 λp=>
 az (some ⟨a.b,a.o+sock.toNat*8⟩) λq=>
 so q 7 [aJ (i64.wrap (p-1))]<|
 R 0:=bI Tryz.func79 (uz 0x4a06972aa6522691855121292034479510a5081947025943040049004001241241001)
instance aaO(b upto):bG (TX b upto) λR=>
 az b λa=>
 dx a 2 λc=>
 ar (decide (upto>c)) (
 R 11)<|
 az b λd=>
 dx d 1 λe=>
 az b λf=>
 so f 1 [aC (if upto>e then upto else e)]<|
 R 0:=bI Tryz.func117 (uz 0x16)
instance ab4(b most):bG (UB b most) λR=>
 new [zu,zu] λa=>
 join [] (λc=>
 bQ<|
 ar (decide (most<1)) (
 st ⟨a,0⟩ [zu,zu]<|
 ld cr ⟨a,0⟩ λ(d:Int×Int)=>
 R (d,false))<|
 az b λe=>
 az b λf=>
 dx e 2 λg=>
 dx f 3 λh=>
 ar (g==h) (
 st ⟨a,0⟩ [zu,zu]<|
 ld cr ⟨a,0⟩ λ(i:Int×Int)=>
 R (i,false))<|
 c ()) λ(j:Unit)=>
 bQ<|
 az b λk=>
 az b λl=>
 az b λm=>
 az b λn=>
 dx k 2 λo=>
 dx l 2 λp=>
 dx m 3 λq=>
 dx n 2 λr=>
 new [zu,zu] λs=>
 lA n 2 r<|
 lA m 3 q<|
 lA l 2 p<|
 lA k 2 o<|
 st ⟨s,0⟩ [aC o,aC (u64.wrap (p+(if(u64.wrap (q-r))<(u64.wrap most)then(u64.wrap (q-r))else(u64.wrap most))))]<|
 bJ ⟨s,1⟩ λt=>
 az b λu=>
 so u 2 [aC t]<|
 ld cr ⟨s,0⟩ λ(v:Int×Int)=>
 st ⟨a,0⟩ (Ks.mk cr v)<|
 ld cr ⟨a,0⟩ λ(w:Int×Int)=>
 R (w,true):=bI Tryz.func200 (uz 0x2209865ea5a29545699185298da4e989e4a944d1c340c1823cb2450403a500a94122500494002550304c81c24ca5b3492ed6892a93091a93c92692c91693892292891292401e92400e90810409460c1004001)
instance aeO(b n):bG (Y3 b n) λR=>
 ar (decide (n<1)) (
 R 1)<|
 bQ<|
 az b λa=>
 az b λc=>
 az b λd=>
 dN a λe=>
 dx c 3 λf=>
 dx d 1 λg=>
 ar (decide ((u64.wrap n)>(u64.wrap ((u64.wrap (if(if 1073741824<e then 1073741824 else e)>0 then(if 1073741824<e then 1073741824 else e)else 0))-(u64.wrap (f-g)))))) (
 R 5)<|
 az b λh=>
 dx h 3 λi=>
 az b λj=>
 so j 3 [aC (u64.wrap (i+(u64.wrap n)))]<|
 R 0:=bI Tryz.func73 (uz 0x1a82146680e4291857db3e910e28334908c20100b9401e50009470c1241001)
instance aa0(l):bG (T1 l) λR=>
 az l λa=>
 fb a λb=>
 ar (decide (((b.len:Nat):Int)>0)) (
 az l λc=>
 fb c λd=>
 idx d 0 1 λe=>
 dN e λf=>
 R (f,true,true))<|
 az l λg=>
 jn g 1 λh=>
 ar (decide (((h.len:Nat):Int)>0)) (
 az l λi=>
 jn i 1 λj=>
 idx j 0 1 λk=>
 dN k λm=>
 R (m,false,true))<|
 R (0,false,false):=bI Tryz.func129 (uz 0x23)
instance acP(l sock):bG (Qi l sock) λR=>
 az l λa=>
 fb a λb=>
 cM (Qs b sock) λc=>
 ar c (
 R 1)<|
 az l λd=>
 jn d 1 λe=>
 cM (Qs e sock) λf=>
 ar f (
 R 2)<|
 R 0:=bI Tryz.func247 (uz 0x1cd081001)
instance ab8(l sock fresh):bG (LZ l sock fresh) λR=>
 ar ((decide (sock<0))||(decide (sock≥8))) (
 R 8)<|
 bo (Qi l sock) λa=>
 ar (a !=0) (
 R 6)<|
 ar fresh (
 az l λb=>
 fb b λc=>
 mi 1 ⟨none,0,0⟩ c λd=>
 new [aJ sock] λe=>
 mi 1 d ⟨some ⟨e,0⟩,1,1⟩ λf=>
 az l λg=>
 st g [aX f]<|
 R 0)<|
 az l λh=>
 jn h 1 λi=>
 mi 1 ⟨none,0,0⟩ i λj=>
 new [aJ sock] λk=>
 mi 1 j ⟨some ⟨k,0⟩,1,1⟩ λm=>
 az l λn=>
 so n 1 [aX m]<|
 R 0:=bI Tryz.func204 (uz 0x24)
instance abL(l sock):bG (P9 l sock) λR=>
 bo (Qi l sock) λa=>
 bQ<|
 az l λb=>
 az l λc=>
 fb b λd=>
 jn c 1 λe=>
 bC (Qj d sock) λ(f:Sl)=>
 sc c 1 e<|
 bC (Qj e sock) λ(g:Sl)=>
 az l λh=>
 st h [aX f]<|
 az l λi=>
 so i 1 [aX g]<|
 R (a !=0):=bI Tryz.func181 (uz 0x7822793aa14a52d1960610a8f28e95d70da973c7a8b14a1090c13250089411a50029400650009490c1001001)
instance acQ(l x):bG (Qj l x) λR=>
 loop [.sl,.int .i64] (⟨none,0,0⟩,0) λa (b:Sl×Int)=>
 ar (decide (b.2<((l.len:Nat):Int))) (
 idx l b.2 1 λc=>
 dN c λd=>
 ar (d !=x) (
 idx l b.2 1 λe=>
 dN e λf=>
 new [aJ f] λg=>
 mi 1 b.1 ⟨some ⟨g,0⟩,1,1⟩ λh=>
 a (h,(i64.wrap (b.2+1))))<|
 a (b.1,(i64.wrap (b.2+1))))<|
 R b.1:=bI Tryz.func248 (uz 0x7008081201046105086080041001001)
instance ac5(c):bG (U3 c) λR=>
 az c λa=>
 dN a λb=>
 ar (b==0) (
 R 320)<|
 ar (b==1) (
 R 192)<|
 R 256:=bI Tryz.func263 (uz 0x1cd080041001)
instance ac3(c af phase):bG (L8 c af phase) λR=>
 az c λa=>
 st a [aJ (phase.tmod 8)]<|
 az c λb=>
 so b 1 [aC af]<|
 az c λd=>
 dN d λe=>
 ar (decide (e<0)) (
 az c λf=>
 dN f λg=>
 az c λh=>
 st h [aJ (i64.wrap (g+8))]<|
 R ())<|
 R ():=bI Tryz.func261 (uz 0xb)
instance ac0(c af bX bn flight up one):bG (UZ c af bX bn flight up one) λR=>
 az c λa=>
 dx a 1 λb=>
 aT (wY af b) λd=>
 join cb (λe=>
 az c λf=>
 dN f λg=>
 ar (g==0) (
 e ((decide (d>bX))&&((decide (bn>0))||(decide (flight≥up)))))<|
 ar (g==1) (
 e ((decide (d>bX))||(decide (flight≤one))))<|
 e (decide (d>bX))) λ(h:Bool)=>
 ar h (
 az c λi=>
 dN i λj=>
 cg (L8 c af (i64.wrap (j+1))) λk=>
 R h)<|
 R h:=bI Tryz.func258 (uz 0x1240200108f044001001)
instance abX(m):bG (Uu m) λR=>
 new [zi,zi,zu,zu,zu,zu,zu,zu,a_ false,a_ false] λa=>
 bQ<|
 az m λb=>
 az m λc=>
 az m λd=>
 az m λe=>
 az m λf=>
 az m λg=>
 az m λh=>
 az m λi=>
 az m λj=>
 gV b 23 λk=>
 dx c 24 λl=>
 dx d 25 λn=>
 dx f 26 λo=>
 dx e 9 λp=>
 dx g 2 λq=>
 gV h 7 λr=>
 oM i 6 λs=>
 oM j 15 λt=>
 aT (CA m) λu=>
 Zd j 15 t<|
 Zd i 6 s<|
 EW h 7 r<|
 lA g 2 q<|
 lA e 9 p<|
 lA f 26 o<|
 lA d 25 n<|
 lA c 24 l<|
 EW b 23 k<|
 st ⟨a,0⟩ [aJ k,aJ r,aC l,aC n,aC u,aC p,aC o,aC q,a_ s,a_ t]<|
 ld eH ⟨a,0⟩ λv=>
 R v:=bI Tryz.func193 (uz 0x83c0acabbdb1b278de38a1ab2bf3cd9baaa5d659708256d2e699749257da5912c70f8a25ce395e65540a182de79728a575850f2450409a50219407250179404e500e9403250089401250009420c1001)
instance aaQ(d o a):bG (PX d o a) λR=>
 new (Ks.mk aW o) λc=>
 new [zi,zi,zu,zu,zu,zu,zu,zu,a_ false,a_ false] λe=>
 bQ<|
 ld aW ⟨c,0⟩ λf=>
 az d λg=>
 cM (Un (some ⟨g.b,g.o+2⟩) f) λh=>
 bQ<|
 ld aW ⟨c,0⟩ λi=>
 az d λj=>
 cg (Uo (some ⟨j.b,j.o+15⟩) h i) λk=>
 join [] (λl=>
 join cb (λm=>
 bJ ⟨c,5⟩ λn=>
 ar (decide (n>0)) (
 bJ ⟨c,3⟩ λp=>
 m (decide (p>0)))<|
 m false) λ(q:Bool)=>
 ar q (
 bQ<|
 bJ ⟨c,1⟩ λr=>
 bJ ⟨c,2⟩ λs=>
 bJ ⟨c,3⟩ λt=>
 aT (wY r s) λu=>
 cw ⟨c,3⟩ (Ks.mk cu t)<|
 aT (Bh u 1000000000 t) λv=>
 join cb (λw=>
 rE ⟨c,8⟩ λx=>
 ar (!x) (
 w true)<|
 az d λy=>
 fZ y 1 λz=>
 az z λA=>
 dM (0≤(0:Int)∧(0:Int)<3)<|
 bJ ⟨A.b,A.o+4+(0:Int).toNat*1⟩ λB=>
 w (decide (v≥B))) λ(C:Bool)=>
 ar C (
 bQ<|
 az d λD=>
 az d λE=>
 fZ D 1 λF=>
 dx E 2 λG=>
 aT (Up F G v) λH=>
 l ())<|
 l ())<|
 l ()) λ(I:Unit)=>
 ld aW ⟨c,0⟩ λJ=>
 cg (Uq d J h) λK=>
 bC (Ur d) λ(L:Int×Int)=>
 az d λM=>
 so M 26 [aC L.1]<|
 join [] (λN=>
 aT (CA d) λO=>
 ar (decide (O>0)) (
 aT (CA d) λQ=>
 aT (P8 Q L.1) λS=>
 join cb (λT=>
 az d λU=>
 oM U 6 λV=>
 ar V (
 T true)<|
 az d λX=>
 dx X 24 λY=>
 T (decide ((if S>1 then S else 1)>Y))) λ(Z:Bool)=>
 ar Z (
 az d λa0=>
 so a0 24 [aC (if S>1 then S else 1)]<|
 N ())<|
 N ())<|
 N ()) λ(a1:Unit)=>
 ld aW ⟨c,0⟩ λa2=>
 cg (Us d a2 h) λa3=>
 ld aW ⟨c,0⟩ λa4=>
 cg (Ut d a4 a L.2) λa5=>
 bC (Uu d) λ(a6:gd)=>
 st ⟨e,0⟩ (Ks.mk eH a6)<|
 ld eH ⟨e,0⟩ λa7=>
 R a7:=bI Tryz.func119 (uz 0x2c01c00a3fc110004100100400100100100081a6542ae2070c6085048265004940025d430400b50448182265d51ea51212a1830441651029440257830410027811001209648c5ba20a58419441c394000306054598f384a820440e500094b0c1001)
instance abU(m):bG (CA m) λR=>
 az m λa=>
 oM a 15 λc=>
 ar c (
 az m λd=>
 dx d 17 λe=>
 R e)<|
 az m λf=>
 fZ f 1 λg=>
 az g λh=>
 dM (0≤(0:Int)∧(0:Int)<3)<|
 bJ ⟨h.b,h.o+4+(0:Int).toNat*1⟩ λi=>
 R i:=bI Tryz.func190 (uz 0xa)
instance abT(m):bG (Ur m) λR=>
 az m λa=>
 gV a 23 λc=>
 ar (c==0) (
 R (739,739))<|
 ar (c==1) (
 R (88,739))<|
 ar (c==2) (
 az m λd=>
 oM d 15 λe=>
 ar e (
 R (256,512))<|
 az m λf=>
 aT (U3 (some ⟨f.b,f.o+7⟩)) λg=>
 R (g,512))<|
 R (256,256):=bI Tryz.func189 (uz 0x1e5080041001)
instance abS(d o a):bG (Uq d o a) λR=>
 new (Ks.mk aW o) λc=>
 az d λe=>
 dx e 9 λf=>
 join [] (λg=>
 join cb (λh=>
 az d λi=>
 gV i 23 λj=>
 ar (j==2) (
 az d λk=>
 oM k 15 λl=>
 h (!l))<|
 h false) λ(m:Bool)=>
 ar m (
 bQ<|
 az d λn=>
 bJ ⟨c,0⟩ λp=>
 bJ ⟨c,6⟩ λq=>
 bJ ⟨c,7⟩ λr=>
 aT (CA d) λs=>
 cw ⟨c,7⟩ (Ks.mk cu r)<|
 cw ⟨c,6⟩ (Ks.mk cu q)<|
 cw ⟨c,0⟩ (Ks.mk cu p)<|
 aT (JJ s f 320) λt=>
 cw ⟨c,7⟩ (Ks.mk cu r)<|
 cw ⟨c,6⟩ (Ks.mk cu q)<|
 cw ⟨c,0⟩ (Ks.mk cu p)<|
 aT (CA d) λu=>
 cw ⟨c,7⟩ (Ks.mk cu r)<|
 cw ⟨c,6⟩ (Ks.mk cu q)<|
 cw ⟨c,0⟩ (Ks.mk cu p)<|
 aT (JJ u f 256) λv=>
 cw ⟨c,7⟩ (Ks.mk cu r)<|
 cw ⟨c,6⟩ (Ks.mk cu q)<|
 cw ⟨c,0⟩ (Ks.mk cu p)<|
 cM (UZ (some ⟨n.b,n.o+7⟩) p f q r t v) λw=>
 g ())<|
 g ()) λ(x:Unit)=>
 bQ<|
 az d λy=>
 rE ⟨c,8⟩ λz=>
 az d λA=>
 fZ A 1 λB=>
 az B λC=>
 dM (0≤(0:Int)∧(0:Int)<3)<|
 bJ ⟨C.b,C.o+4+(0:Int).toNat*1⟩ λD=>
 cM (U0 (some ⟨y.b,y.o+4⟩) a z D) λE=>
 join [] (λF=>
 join cb (λG=>
 az d λH=>
 gV H 23 λI=>
 ar (I==0) (
 az d λJ=>
 oM J 6 λK=>
 G K)<|
 G false) λ(L:Bool)=>
 ar L (
 az d λM=>
 so M 23 [aJ 1]<|
 F ())<|
 F ()) λ(N:Unit)=>
 join [] (λO=>
 join cb (λQ=>
 bQ<|
 az d λS=>
 gV S 23 λT=>
 ar (T==1) (
 ar (decide (f>0)) (
 bJ ⟨c,7⟩ λU=>
 aT (CA d) λV=>
 cw ⟨c,7⟩ (Ks.mk cu U)<|
 aT (JJ V f 256) λX=>
 cw ⟨c,7⟩ (Ks.mk cu U)<|
 Q (decide (U≤X)))<|
 Q false)<|
 Q false) λ(Y:Bool)=>
 ar Y (
 az d λZ=>
 so Z 23 [aJ 2]<|
 bQ<|
 az d λa0=>
 bJ ⟨c,0⟩ λa1=>
 cg (L8 (some ⟨a0.b,a0.o+7⟩) a1 2) λa2=>
 O ())<|
 O ()) λ(a3:Unit)=>
 bQ<|
 az d λa4=>
 bJ ⟨c,0⟩ λa5=>
 bJ ⟨c,4⟩ λa6=>
 bJ ⟨c,7⟩ λa7=>
 az d λa8=>
 bJ a8 λa9=>
 bC (U1 (some ⟨a4.b,a4.o+9⟩) a5 a6 a a7 (u64.wrap (4*a9))) λ(b0:Bool×Bool)=>
 join [] (λb1=>
 ar b0.1 (
 bQ<|
 az d λb2=>
 az d λb3=>
 dx b2 30 λb4=>
 dx b3 25 λb5=>
 az d λb6=>
 so b6 30 [aC (if b5>b4 then b5 else b4)]<|
 az d λb7=>
 so b7 23 [aJ 3]<|
 b1 ())<|
 b1 ()) λ(b8:Unit)=>
 ar b0.2 (
 bQ<|
 az d λb9=>
 az d λc0=>
 dx b9 25 λc1=>
 dx c0 30 λc2=>
 az d λc3=>
 so c3 25 [aC (if c2>c1 then c2 else c1)]<|
 az d λc4=>
 so c4 30 [zu]<|
 az d λc5=>
 so c5 23 [zi]<|
 az d λc6=>
 oM c6 6 λc7=>
 ar c7 (
 az d λc8=>
 so c8 23 [aJ 2]<|
 bQ<|
 az d λc9=>
 bJ ⟨c,0⟩ λd0=>
 cg (L8 (some ⟨c9.b,c9.o+7⟩) d0 2) λd1=>
 R ())<|
 R ())<|
 R ():=bI Tryz.func188 (uz 0x8154c5a821011039400259bffc30010400608949a14e54d29604667d09523e579c3aa3513256d72e92862452040079400e500294006500094cfff0c104004081f42678f9523a575b36a3112e56962a92452041c30069400a5001940025eff0c10010048225268539904a54119507da6175533fa38d3022c91840402a51089421e51059440e5000968fc30408154c5a8210110394002587f0c0041821691a6071a42d7de68fb9d68da9b68ba5a18ea5a00ca5a10aa496162295d61e95861a91440c204002533f0c27bf0440041c0089fc11001207965133b234c2ca248087141006944125083940025b4304082279a6165534be86046a7cf99d70da9b2e60891c404642500e94632500a94422510694616510394002568304009a044004001001)
instance abV(d o a):bG (Us d o a) λR=>
 new (Ks.mk aW o) λb=>
 join cb (λc=>
 bJ ⟨b,6⟩ λe=>
 ar (decide (e>0)) (
 az d λf=>
 oM f 27 λg=>
 c (!g))<|
 c false) λ(h:Bool)=>
 ar h (
 az d λi=>
 so i 27 [a_ true]<|
 az d λj=>
 so j 28 [a_ true]<|
 bQ<|
 bJ ⟨b,1⟩ λk=>
 bJ ⟨b,7⟩ λl=>
 az d λm=>
 az d λn=>
 dx m 30 λp=>
 dx n 25 λq=>
 aT (qF k l) λr=>
 lA n 25 q<|
 lA m 30 p<|
 az d λs=>
 so s 29 [aC r]<|
 az d λt=>
 so t 30 [aC (if q>p then q else p)]<|
 R ())<|
 az d λu=>
 oM u 27 λv=>
 ar (!v) (
 R ())<|
 join [] (λw=>
 ar a (
 az d λx=>
 so x 28 [a_ false]<|
 w ())<|
 w ()) λ(y:Unit)=>
 bQ<|
 bJ ⟨b,1⟩ λz=>
 az d λA=>
 dx A 29 λB=>
 ar (decide (z≥B)) (
 az d λC=>
 so C 27 [a_ false]<|
 az d λD=>
 so D 28 [a_ false]<|
 bQ<|
 az d λE=>
 az d λF=>
 dx E 25 λG=>
 dx F 30 λH=>
 az d λI=>
 so I 25 [aC (if H>G then H else G)]<|
 az d λJ=>
 gV J 23 λK=>
 ar (K !=3) (
 az d λL=>
 so L 30 [zu]<|
 R ())<|
 R ())<|
 R ():=bI Tryz.func191 (uz 0x22071a32a2d12a56552692041c3182005940065000940fc3040041816486a451030400a51009720c120010804002092056a8d49524e58974aa4514255941aa7db3e938a34930814300b9401e51049440a50019400255430400410023c1101001)
instance abW(d o a a'):bG (Ut d o a a') λR=>
 new (Ks.mk aW o) λb=>
 bQ<|
 az d λc=>
 bJ ⟨b,6⟩ λe=>
 az d λf=>
 dx c 25 λg=>
 bJ f λh=>
 aT (wY g e) λi=>
 cw f (Ks.mk cu h)<|
 az d λj=>
 so j 25 [aC (if h>i then h else i)]<|
 bQ<|
 az d λk=>
 az d λl=>
 bJ l λm=>
 dx k 9 λn=>
 aT (CA d) λp=>
 lA k 9 n<|
 cw l (Ks.mk cu m)<|
 aT (U5 p n a' a m) λq=>
 join [] (λr=>
 az d λs=>
 oM s 28 λt=>
 ar t (
 bQ<|
 az d λu=>
 bJ ⟨b,7⟩ λv=>
 bJ ⟨b,5⟩ λw=>
 dx u 25 λx=>
 aT (qF v w) λy=>
 lA u 25 x<|
 az d λz=>
 so z 25 [aC (if y>x then y else x)]<|
 r ())<|
 bJ ⟨b,5⟩ λA=>
 ar (A==0) (
 r ())<|
 az d λB=>
 oM B 6 λC=>
 ar C (
 bQ<|
 az d λD=>
 bJ ⟨b,5⟩ λE=>
 dx D 25 λF=>
 aT (qF F E) λG=>
 az d λH=>
 so H 25 [aC (if q<G then q else G)]<|
 r ())<|
 join cb (λI=>
 bQ<|
 az d λJ=>
 dx J 25 λK=>
 ar (decide (K<q)) (
 I true)<|
 bJ ⟨b,1⟩ λL=>
 az d λM=>
 bJ M λN=>
 I (decide (L<(u64.wrap (10*N))))) λ(O:Bool)=>
 ar O (
 bQ<|
 az d λQ=>
 bJ ⟨b,5⟩ λS=>
 dx Q 25 λT=>
 aT (qF T S) λU=>
 az d λV=>
 so V 25 [aC U]<|
 r ())<|
 r ()) λ(X:Unit)=>
 bQ<|
 az d λY=>
 az d λZ=>
 dx Y 25 λa0=>
 bJ Z λa1=>
 az d λa2=>
 so a2 25 [aC (if(u64.wrap (4*a1))>a0 then(u64.wrap (4*a1))else a0)]<|
 az d λa3=>
 gV a3 23 λa4=>
 ar (a4==3) (
 az d λa5=>
 bJ a5 λa6=>
 az d λa7=>
 so a7 25 [aC (u64.wrap (4*a6))]<|
 R ())<|
 R ():=bI Tryz.func192 (uz 0x881d6cda8c44b95a54aa492041c3182005940065000969fc304081a60aa89448957547a840c60851650019400257ff0c18204267d73e97995ceb5d5cda5c5cca5b5cba5a5caa585c8a57009a57147a465541690c204812500094ffc308ffc112071a32a2d12a56582695d51ea1031822089451650019400250bf0c100100100181d6cda8c44b95a54aa595c9a840c8182147945165001940025a8304004200481e3a675961748dd9106618c14b10a0c02650889431e50029400255c30607dd3ea3893657183293cd1ea2c42832460802251459400650009480c1001)
instance aaL(bs):bG (TU bs) λR=>
 lU (Ul 10 false) λa=>
 new [aC (if(if 9000<bs then 9000 else bs)>100 then(if 9000<bs then 9000 else bs)else 100),.ptr a,zu,zu,zu,zi,a_ false,zi,zu,zu,zu,a_ false,a_ false,a_ false,zu,a_ false,a_ false,zu,zi,zu,zu,zu,zu,zi,zu,zu,aC 739,a_ false,a_ false,zu,zu] λb=>
 az (some ⟨b,0⟩) λc=>
 so c 25 [aC (u64.wrap (10*(if(if 9000<bs then 9000 else bs)>100 then(if 9000<bs then 9000 else bs)else 100)))]<|
 az (some ⟨b,0⟩) λd=>
 dx d 25 λe=>
 aT (P8 (u64.wrap (e*1000)) 739) λf=>
 az (some ⟨b,0⟩) λg=>
 so g 24 [aC f]<|
 R (some ⟨b,0⟩):=bI Tryz.func114 (uz 0x14)
end Go.X
