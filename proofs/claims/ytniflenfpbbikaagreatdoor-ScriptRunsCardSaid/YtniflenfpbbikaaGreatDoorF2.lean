/- Readings of functions. -/
import Derived.Test.YtniflenfpbbikaaGreatDoorG
set_option linter.all false
namespace Go.X
open IntKind (u64 i64)
open Go.Proofs
def vr(x y c:Int)(R:Rs.T [qu,qu]→WP):WP:=
 eA ((0≤x∧0≤y)∧0≤c∧c≤1)<|
 R ((x+y+c)%18446744073709551616,(x+y+c)/18446744073709551616)
theorem rY(x y c:Int)(R:Rs.T [qu,qu]→WP)(w:World)(h:vr x y c R w):
   kD Tryz.prog lO ([vu x,vu y,vu c].map V1.enc) w λv w'=>∃x,v=(nf (Rs.mk [qu,qu] x)).enc∧R x w':=by
 obtain⟨hp,h⟩:=h;exact CH Tryz.func219 (by kernel_rfl) (by kernel_rfl) (by kernel_rfl) (x:=add64Entry) (by kernel_rfl) (run_add64 x y c hp.1.1 hp.1.2 hp.2.1 hp.2.2 w) ⟨_,rfl,h⟩
instance aaT(d o):bF (Qa d o) λR=>
 new [zi,zu,zi,zu,bc false] λa=>
 aC d λc=>
 bQ (Uz (some ⟨c.b,c.o+7⟩)) λ(e:(Int×Int)×Bool)=>
 new [zu,zu] λf=>
 st ⟨f,0⟩ (Ks.mk cr e.1)<|
 aC d λg=>
 aU (JT (some ⟨g.b,g.o+7⟩)) λh=>
 join cb (λi=>
 bR<|
 aq (!e.2) (
 aC d λj=>
 aC d λk=>
 dD j 5 λl=>
 dD k 6 λm=>
 i (l==m))<|
 i false) λ(n:Bool)=>
 aq n (
 aC d λp=>
 ga p 20 λq=>
 aC q λr=>
 dD r 25 λs=>
 aq (decide (h<s)) (
 aC d λt=>
 cj (UA (some ⟨t.b,t.o+9⟩) h) λu=>
 st ⟨a,0⟩ [zi,zu,zi,zu,bc false]<|
 ld aX ⟨a,0⟩ λv=>
 R (v,7))<|
 st ⟨a,0⟩ [zi,zu,zi,zu,bc false]<|
 ld aX ⟨a,0⟩ λw=>
 R (w,7))<|
 join cb (λx=>
 bR<|
 aC d λy=>
 ga y 20 λz=>
 aC z λA=>
 dD A 25 λB=>
 aq (decide (h≥B)) (
 x true)<|
 aC d λC=>
 aC d λD=>
 aC d λE=>
 dD C 21 λF=>
 ga D 20 λG=>
 gY E 2 λH=>
 aC G λI=>
 dD I 24 λJ=>
 bq (JU d) λK=>
 lJ I 24 J<|
 GS E 2 H<|
 lI D 20 G<|
 lJ C 21 F<|
 aU (UB J K H) λL=>
 lJ C 21 F<|
 aq (decide (F≥L)) (
 x true)<|
 aq (!e.2) (
 aC d λM=>
 jn M 7 λN=>
 x (decide (((N.len:Nat):Int)≥4096)))<|
 x false) λ(O:Bool)=>
 aq O (
 st ⟨a,0⟩ [zi,zu,zi,zu,bc false]<|
 ld aX ⟨a,0⟩ λQ=>
 R (Q,5))<|
 aC d λS=>
 bQ (UC (some ⟨S.b,S.o+9⟩) o h) λ(T:pY)=>
 new [zu,zu,zu,zu,bc false] λU=>
 st ⟨U,0⟩ (Ks.mk cw T)<|
 join [] (λV=>
 aq e.2 (
 bR<|
 ld cw ⟨U,0⟩ λX=>
 aC d λY=>
 bQ (UD (some ⟨Y.b,Y.o+7⟩) X) λ(Z:(Int×Int)×Bool)=>
 V ())<|
 bR<|
 aC d λa0=>
 bq (JU d) λa1=>
 bQ (UE (some ⟨a0.b,a0.o+3⟩) a1) λ(a2:(Int×Int)×Bool)=>
 st ⟨f,0⟩ (Ks.mk cr a2.1)<|
 bR<|
 ld cw ⟨U,0⟩ λa3=>
 aC d λa4=>
 bI ⟨f,0⟩ λa5=>
 bI ⟨f,1⟩ λa6=>
 bq (UF (some ⟨a4.b,a4.o+7⟩) a5 a6 a3) λa7=>
 V ()) λ(a8:Unit)=>
 bI ⟨f,1⟩ λa9=>
 bI ⟨f,0⟩ λb0=>
 bR<|
 aC d λb1=>
 bI ⟨f,0⟩ λb2=>
 aC d λb3=>
 dn b1 λb4=>
 dD b3 22 λb5=>
 new [zi,zu,zi,zu,bc false] λb6=>
 lJ b3 22 b5<|
 ct b1 (Ks.mk ci b4)<|
 ct ⟨f,0⟩ (Ks.mk cu b2)<|
 st ⟨b6,0⟩ [aE b4,aB b2,aE (i64.wrap (u64.wrap (a9-b0))),aB (if b5>o then b5 else o),bc e.2]<|
 bR<|
 bI ⟨b6,3⟩ λb7=>
 aC d λb8=>
 ga b8 20 λb9=>
 aC b9 λc0=>
 dD c0 24 λc1=>
 aU (L4 (i64.wrap (u64.wrap (a9-b0))) c1) λc2=>
 ct ⟨b6,3⟩ (Ks.mk cu b7)<|
 aU (qH b7 c2) λc3=>
 aC d λc4=>
 so c4 22 [aB c3]<|
 aC d λc5=>
 dD c5 21 λc6=>
 aU (qH c6 (u64.wrap (i64.wrap (u64.wrap (a9-b0))))) λc7=>
 aC d λc8=>
 so c8 21 [aB c7]<|
 ld aX ⟨b6,0⟩ λc9=>
 st ⟨a,0⟩ (Ks.mk aX c9)<|
 ld aX ⟨a,0⟩ λd0=>
 R (d0,0):=bG Tryz.func124 (uz 0x881f74fa8e44d95c4cca9b50ba8a2481c614200494a0e52c194002557ffc30607cb42a3e279d5d650ed5c60ca4b0ca0891411cd94022504794a1a51849400251bffc3040060617553232086101247946165183940025dbf0e05c626a4089501e51954c5a94126081003940025bbf0c18144c4a820490e5000968fc304004010004c83abeaa79cafa6de32a29df29e9db29a9d72969d32929cf28e9c808a9c6f869c2f829bc77e97ad69da6c79a72dae795a6f299a5aa91a5298da4e989a4a9a9a6a985a46975a369a5a66981a42971a329a1a6297da3e96da2e96805e96805696803a96802a9258448a471851030800652009740c283f04406c81e4cea5d61336d7133295d31e96d32e95931a96932a95531696532695131294c02294c00e90811c09560c2941101001001001)
instance aeV(s aj):bF (Z2 s aj) λR=>
 aC s λa=>
 aU (T2 (some ⟨a.b,a.o+7⟩)) λc=>
 bR<|
 aC s λd=>
 aC s λe=>
 aC s λf=>
 ga d 20 λg=>
 aU (JT (some ⟨f.b,f.o+7⟩)) λh=>
 lI d 20 g<|
 bQ (P_ (some ⟨e.b,e.o+9⟩) aj c h) λ(i:jT)=>
 lI d 20 g<|
 bq (JU s) λj=>
 lI d 20 g<|
 bQ (P9 g i (u64.wrap j)) λ(k:gd)=>
 R ():=bG Tryz.func75 (uz 0x82178c46e41f3e675960f37270c9832c608a14100e9402651089411e5004940025203001)
instance aaR(s):bF (JU s) λR=>
 bR<|
 aC s λa=>
 aC s λb=>
 ga a 20 λc=>
 gY b 1 λd=>
 aC c λe=>
 dD e 24 λf=>
 bq (Uy f d) λg=>
 R g:=bG Tryz.func122 (uz 0x80e3263492ea18510a0c90880401e50009420c1001)
instance aaW(f):bF (Gn f) λR=>
 new (Ks.mk oK f) λa=>
 bR<|
 bI ⟨a,3⟩ λb=>
 eP ⟨a,5⟩ λc=>
 idx c 0 5 λd=>
 dD d 3 λe=>
 R (if e>b then e else b):=bG Tryz.func127 (uz 0x80a2262441e91851030410a50409420c1001)
instance aa2(rates i):bF (T6 rates i) λR=>
 aq (decide (i<((rates.len:Nat):Int))) (
 idx rates i 1 λa=>
 bI a λb=>
 R b)<|
 R 18446744073709551615:=bG Tryz.func133 (uz 0xa)
instance abK(p l):bF (Up p l) λR=>
 new (Ks.mk aF p) λa=>
 loop ci 0 λb (c:Int)=>
 aq (decide (c<((l.len:Nat):Int))) (
 bR<|
 idx l c 2 λd=>
 bI ⟨a,0⟩ λe=>
 bI d λf=>
 aq (decide (f≤e)) (
 idx l c 2 λg=>
 bI ⟨a,1⟩ λh=>
 dD g 1 λi=>
 aq (decide (i≥h)) (
 R true)<|
 b (i64.wrap (c+1)))<|
 b (i64.wrap (c+1)))<|
 R false:=bG Tryz.func182 (uz 0x1c032085946981e650b5d64da5c64ca5f64fa5b6992ed6423a96452a9641269217547a440c634c0a908594506504094b0c1081201045046080041001)
instance aer(c to'):bF (ZI c to') λR=>
 aq c.isNone (
 R 2)<|
 aq (decide (to'>4611686018427387904)) (
 R 3)<|
 aC c λa=>
 bI a λb=>
 aq (decide (to'<b)) (
 R 4)<|
 aC c λd=>
 st d [aB to']<|
 R 0:=bG Tryz.func42 (uz 0x215081001)
instance afb(c):bF (Z9 c) λR=>
 aq c.isNone (
 R 0)<|
 aC c λa=>
 bI a λb=>
 R b:=bG Tryz.func98 (uz 0xa)
instance aep(lg):bF (ZG lg) λR=>
 new [aB lg] λa=>
 aU (ZS ⟨some ⟨a,0⟩,1,1⟩) λb=>
 new [aB b] λc=>
 R (some ⟨c,0⟩):=bG Tryz.func40 (uz 8)
instance aeF(l):bF (ZS l) λR=>
 loop [.int .u64,.int .i64] (4611686018427387904,0) λa (b:Int×Int)=>
 aq (decide (b.2<((l.len:Nat):Int))) (
 idx l b.2 1 λc=>
 bI c λd=>
 aq (decide (d≥b.1)) (
 a (b.1,(i64.wrap (b.2+1))))<|
 a (d,(i64.wrap (b.2+1))))<|
 R b.1:=bG Tryz.func59 (uz 0x70110811c1001048003086080041001001001)
instance ada(x y):bF (QA x y) λR=>
 cg (QF x) λa=>
 cg (QF y) λb=>
 aq a (
 aq b (
 R 0)<|
 R (-1))<|
 aq b (
 R 1)<|
 aq (decide (x<y)) (
 R (-1))<|
 aq (decide (x>y)) (
 R 1)<|
 R 0:=bG Tryz.func271 (uz 0x2d)
instance ac_(vals):bF (Vc vals) λR=>
 loop ci 0 λa (b:Int)=>
 aq (decide (b<((vals.len:Nat):Int))) (
 idx vals b 1 λc=>
 dn c λd=>
 aq (d !=0) (
 R d)<|
 a (i64.wrap (b+1)))<|
 R 0:=bG Tryz.func270 (uz 0x700f0811c1001048046080041001001)
instance adE(x):bF (QF x) λR=>
 R (x !=x):=bG Tryz.func299 (uz 8)
instance adl(c):bF (Vf c) λR=>
 aq (!c.isNone) (
 aC c λa=>
 dn a λb=>
 aq (b==0) (
 R 320)<|
 aq (b==1) (
 R 192)<|
 R 256)<|
 R 256:=bG Tryz.func280 (uz 0x1c0342001040041001)
instance acq(c):bF (UL c) λR=>
 aq c.isNone (
 R 0)<|
 aC c λa=>
 dn a λb=>
 R b:=bG Tryz.func225 (uz 0xa)
instance adN(c aj phase):bF (QI c aj phase) λR=>
 aq (!c.isNone) (
 aC c λa=>
 st a [aE ((i64.wrap ((phase.tmod 8)+8)).tmod 8)]<|
 aC c λb=>
 so b 1 [aB aj]<|
 R ())<|
 R ():=bG Tryz.func308 (uz 8)
instance ads(c aj bT bo flight up one):bF (Vj c aj bT bo flight up one) λR=>
 loop cb false λa (b:Bool)=>
 join [] (λd=>
 aq (!c.isNone) (
 aC c λe=>
 dD e 1 λf=>
 aU (y_ aj f) λg=>
 cg (Vv c (decide (g>bT)) bo flight up one) λh=>
 aq h (
 d ())<|
 R b)<|
 R b) λ(i:Unit)=>
 aC c λj=>
 dn j λk=>
 cj (QI c aj (i64.wrap (k+1))) λl=>
 R true:=bG Tryz.func287 (uz 0x1c808800408f046081001001001)
instance adM(c over bo flight up one):bF (Vv c over bo flight up one) λR=>
 aC c λa=>
 dn a λb=>
 aq (b==0) (
 R (over&&((decide (bo>0))||(decide (flight≥up)))))<|
 aq (b==1) (
 R (over||(decide (flight≤one))))<|
 R over:=bG Tryz.func307 (uz 0x1cd080041001)
instance abj:bF Ub λR=>
 new [zi,zu] λa=>
 R (some ⟨a,0⟩):=bG Tryz.func156 (uz 8)
instance abd(a b):bF (T8 a b) λR=>
 loop [.int .u64,.int .i64] (18446744073709551615,0) λc (d:Int×Int)=>
 aq (decide (d.2<2)) (
 X3 [.int .u64] [aB a,aB b] d.2 2 1 λ(e:Int)=>
 aq (e==0) (
 c (d.1,(i64.wrap (d.2+1))))<|
 c ((if e<d.1 then e else d.1),(i64.wrap (d.2+1))))<|
 R d.1:=bG Tryz.func151 (uz 0x70110811c100104b005086080041001001001)
instance abc(size ba):bF (Bm size ba) λR=>
 aq ((decide (size<1))||(ba==18446744073709551615)) (
 R 0)<|
 aU (EC (u64.wrap size) 1000000000 ba) λa=>
 R (if 1000000000<a then 1000000000 else a):=bG Tryz.func150 (uz 0xa)
instance aee(m d):bF (Zz m d) λR=>
 new (Ks.mk a_ d) λa=>
 new [aY ⟨none,0,0⟩,aY ⟨none,0,0⟩,aY ⟨none,0,0⟩,zu] λb=>
 aq m.isNone (
 st ⟨b,0⟩ [aY ⟨none,0,0⟩,aY ⟨none,0,0⟩,aY ⟨none,0,0⟩,zu]<|
 ld dO ⟨b,0⟩ λc=>
 R (c,2))<|
 new [aY ⟨none,0,0⟩,aY ⟨none,0,0⟩,aY ⟨none,0,0⟩,zu] λe=>
 join ci (λf=>
 dn ⟨a,0⟩ λg=>
 aq (g==5) (
 bR<|
 aC m λh=>
 bI ⟨a,4⟩ λi=>
 ga h 9 λj=>
 bq (ZI j i) λk=>
 f k)<|
 aq (g==6) (
 cj (ZJ m (some ⟨e,0⟩)) λl=>
 f 0)<|
 aq (g==8) (
 ld aZ ⟨a,6⟩ λn=>
 bq (ZK m n) λo=>
 f o)<|
 join cb (λp=>
 aq (g==1) (
 p (g==1))<|
 aq (g==2) (
 p (g==2))<|
 aq (g==3) (
 p (g==3))<|
 aq (g==4) (
 p (g==4))<|
 aq (g==7) (
 p (g==7))<|
 p (g==9)) λ(q:Bool)=>
 aq q (
 ld a_ ⟨a,0⟩ λr=>
 bq (ZL m r (some ⟨e,0⟩)) λs=>
 f s)<|
 f 12) λ(t:Int)=>
 aq (t !=0) (
 st ⟨b,0⟩ [aY ⟨none,0,0⟩,aY ⟨none,0,0⟩,aY ⟨none,0,0⟩,zu]<|
 ld dO ⟨b,0⟩ λu=>
 R (u,t))<|
 ld dO ⟨e,0⟩ λv=>
 st ⟨b,0⟩ (Ks.mk dO v)<|
 ld dO ⟨b,0⟩ λw=>
 R (w,0):=bG Tryz.func23 (uz 0x1d1dc0a00440010010010018171e65941aa0c21410c4940025383040042001047044001001241001)
instance aeH(m):bF (VE m) λR=>
 aq m.isNone (
 R 0)<|
 aC m λa=>
 ga a 9 λb=>
 aU (Z9 b) λc=>
 R c:=bG Tryz.func61 (uz 0xa)
instance aaC(m o s fate):bF (P6 m o s fate) λR=>
 new (Ks.mk aX s) λa=>
 bR<|
 aC m λb=>
 dn ⟨a,0⟩ λc=>
 ga b 19 λd=>
 bq (SR d c fate) λe=>
 bR<|
 ld aX ⟨a,0⟩ λf=>
 aC o λg=>
 aC o λh=>
 jn g 1 λi=>
 jn h 2 λj=>
 both (
 new [aE f.1,aB f.2.1,aE f.2.2.1,aB f.2.2.2.1,bc f.2.2.2.2] λk=>
 td h 2 j<|
 td g 1 i<|
 both (
 mj 5 i ⟨some ⟨k,0⟩,1,1⟩ λl=>
 td h 2 j<|
 new [aE fate] λn=>
 td h 2 j<|
 td g 1 i<|
 ct ⟨a,0⟩ (Ks.mk aX f)<|
 mj 1 j ⟨some ⟨n,0⟩,1,1⟩ λp=>
 aC o λq=>
 so q 1 [aY l]<|
 aC o λr=>
 so r 2 [aY p]<|
 R ())<|
 new [aE fate] λt=>
 td h 2 j<|
 td g 1 i<|
 ct ⟨a,0⟩ (Ks.mk aX f)<|
 mj 5 i ⟨some ⟨k,0⟩,1,1⟩ λu=>
 td h 2 j<|
 mj 1 j ⟨some ⟨t,0⟩,1,1⟩ λv=>
 aC o λw=>
 so w 1 [aY u]<|
 aC o λx=>
 so x 2 [aY v]<|
 R ())<|
 new [aE fate] λy=>
 td h 2 j<|
 td g 1 i<|
 ct ⟨a,0⟩ (Ks.mk aX f)<|
 new [aE f.1,aB f.2.1,aE f.2.2.1,aB f.2.2.2.1,bc f.2.2.2.2] λz=>
 td h 2 j<|
 td g 1 i<|
 mj 5 i ⟨some ⟨z,0⟩,1,1⟩ λA=>
 td h 2 j<|
 mj 1 j ⟨some ⟨y,0⟩,1,1⟩ λB=>
 aC o λC=>
 so C 1 [aY A]<|
 aC o λD=>
 so D 2 [aY B]<|
 R ():=bG Tryz.func107 (uz 0x824815aa3525493962652a9145095f74fa98588a971e678e9a092056a8d49524e58994aa4514257dd3ea61622a78e9a092056a8d49524e58994aa4514257dd3ea78e998588ad71e73052c42830cd9412651869410a50419410253c380e34b1ee0c21410c69461250009470c1001)
instance aeu(d o a):bF (ZL d o a) λR=>
 new (Ks.mk a_ o) λc=>
 dn ⟨c,1⟩ λe=>
 cg (ZU e) λf=>
 aq (!f) (
 R 8)<|
 bR<|
 dn ⟨c,1⟩ λg=>
 aC d λh=>
 eA (0≤g∧g<8)<|
 te ⟨h.b,h.o+10+g.toNat*1⟩ λi=>
 dn ⟨c,0⟩ λj=>
 aq ((j==1)&&(!i.isNone)) (
 R 9)<|
 dn ⟨c,0⟩ λk=>
 aq (k==1) (
 bR<|
 dn ⟨c,1⟩ λl=>
 dn ⟨c,1⟩ λm=>
 aC d λn=>
 aC d λp=>
 ld aZ n λq=>
 lY (ZV m q) λr=>
 ct ⟨c,1⟩ (Ks.mk ci l)<|
 eA (0≤l∧l<8)<|
 st ⟨p.b,p.o+10+l.toNat*1⟩ [.ptr r]<|
 R 0)<|
 aq i.isNone (
 R 10)<|
 dn ⟨c,0⟩ λs=>
 aq (s==9) (
 dn ⟨c,1⟩ λt=>
 cj (ZW d t a) λu=>
 R 0)<|
 bR<|
 ld a_ ⟨c,0⟩ λv=>
 aU (VE d) λw=>
 ct ⟨c,0⟩ (Ks.mk a_ v)<|
 bq (ZX i v w) λx=>
 aq (x==0) (
 dn ⟨c,1⟩ λy=>
 cj (ZY d y a) λz=>
 R x)<|
 R x:=bG Tryz.func45 (uz 0x4a054599449112e4c39800a5101947025e0306e1e075a36a71332965526a20b1d12a518408016510394406500095f0c10400470400420605c798654f16910d0e508406500094c0c1241001)
instance aes(m o):bF (ZJ m o) λR=>
 bR<|
 aC m λa=>
 ga a 18 λb=>
 both (
 aU (VE m) λc=>
 lI a 18 b<|
 both (
 bQ (XN m) λ(d:Sl)=>
 lI a 18 b<|
 both (
 bQ (W4 b c d) λ(e:km×Bool)=>
 new [zi,zu,zi,zu,bc false] λf=>
 lI a 18 b<|
 st ⟨f,0⟩ (Ks.mk aX e.1)<|
 aq e.2 (
 bR<|
 aC m λg=>
 dn ⟨f,0⟩ λh=>
 ga g 19 λi=>
 bq (SR i h 1) λj=>
 ld aX ⟨f,0⟩ λk=>
 new [aE k.1,aB k.2.1,aE k.2.2.1,aB k.2.2.2.1,bc k.2.2.2.2] λl=>
 aC o λn=>
 st n [aY ⟨some ⟨l,0⟩,1,1⟩]<|
 R ())<|
 aC m λp=>
 ga p 18 λq=>
 bQ (W5 q) λ(r:Int×Bool)=>
 aq r.2 (
 aC o λs=>
 so s 3 [aB (if 1>r.1 then 1 else r.1)]<|
 R ())<|
 R ())<|
 new [zi,zu,zi,zu,bc false] λt=>
 lI a 18 b<|
 bQ (W4 b c d) λ(u:km×Bool)=>
 st ⟨t,0⟩ (Ks.mk aX u.1)<|
 aq u.2 (
 bR<|
 aC m λv=>
 dn ⟨t,0⟩ λw=>
 ga v 19 λx=>
 bq (SR x w 1) λy=>
 ld aX ⟨t,0⟩ λz=>
 new [aE z.1,aB z.2.1,aE z.2.2.1,aB z.2.2.2.1,bc z.2.2.2.2] λA=>
 aC o λB=>
 st B [aY ⟨some ⟨A,0⟩,1,1⟩]<|
 R ())<|
 aC m λC=>
 ga C 18 λD=>
 bQ (W5 D) λ(E:Int×Bool)=>
 aq E.2 (
 aC o λF=>
 so F 3 [aB (if 1>E.1 then 1 else E.1)]<|
 R ())<|
 R ())<|
 new [zi,zu,zi,zu,bc false] λG=>
 lI a 18 b<|
 bQ (XN m) λ(H:Sl)=>
 lI a 18 b<|
 bQ (W4 b c H) λ(I:km×Bool)=>
 st ⟨G,0⟩ (Ks.mk aX I.1)<|
 aq I.2 (
 bR<|
 aC m λJ=>
 dn ⟨G,0⟩ λK=>
 ga J 19 λL=>
 bq (SR L K 1) λM=>
 ld aX ⟨G,0⟩ λN=>
 new [aE N.1,aB N.2.1,aE N.2.2.1,aB N.2.2.2.1,bc N.2.2.2.2] λO=>
 aC o λQ=>
 st Q [aY ⟨some ⟨O,0⟩,1,1⟩]<|
 R ())<|
 aC m λS=>
 ga S 18 λT=>
 bQ (W5 T) λ(U:Int×Bool)=>
 aq U.2 (
 aC o λV=>
 so V 3 [aB (if 1>U.1 then 1 else U.1)]<|
 R ())<|
 R ())<|
 new [zi,zu,zi,zu,bc false] λX=>
 lI a 18 b<|
 aU (VE m) λY=>
 lI a 18 b<|
 bQ (XN m) λ(Z:Sl)=>
 lI a 18 b<|
 bQ (W4 b Y Z) λ(a0:km×Bool)=>
 st ⟨X,0⟩ (Ks.mk aX a0.1)<|
 aq a0.2 (
 bR<|
 aC m λa1=>
 dn ⟨X,0⟩ λa2=>
 ga a1 19 λa3=>
 bq (SR a3 a2 1) λa4=>
 ld aX ⟨X,0⟩ λa5=>
 new [aE a5.1,aB a5.2.1,aE a5.2.2.1,aB a5.2.2.2.1,bc a5.2.2.2.2] λa6=>
 aC o λa7=>
 st a7 [aY ⟨some ⟨a6,0⟩,1,1⟩]<|
 R ())<|
 aC m λa8=>
 ga a8 18 λa9=>
 bQ (W5 a9) λ(b0:Int×Bool)=>
 aq b0.2 (
 aC o λb1=>
 so b1 3 [aB (if 1>b0.1 then 1 else b0.1)]<|
 R ())<|
 R ():=bG Tryz.func43 (uz 0xb007816506a830850441250009540c104004181b3a668436a20b9482a525838c22e3c798d16632281b3a668436a20b9482a525838c22e3c798c8a06ce99a10da882e520a94960e308b8c8a06ce99a10da8c8882e520a94960e308bcf1e73459c30810069401250009480c1)
instance aeQ(m i o):bF (ZY m i o) λR=>
 aC m λa=>
 eA (0≤i∧i<8)<|
 te ⟨a.b,a.o+10+i.toNat*1⟩ λc=>
 loop [] () λd (e:Unit)=>
 aU (VE m) λf=>
 bQ (TW c f) λ(g:km×Int)=>
 new [zi,zu,zi,zu,bc false] λh=>
 st ⟨h,0⟩ (Ks.mk aX g.1)<|
 aq (g.2 !=0) (
 R ())<|
 aC m λj=>
 ga j 19 λk=>
 bq (SR k i 0) λl=>
 bR<|
 ld aX ⟨h,0⟩ λn=>
 aC m λp=>
 ga p 18 λq=>
 aU (VE m) λr=>
 lI p 18 q<|
 ct ⟨h,0⟩ (Ks.mk aX n)<|
 bQ (TX q n r) λ(s:Int×Int)=>
 aq (s.1==0) (
 d ())<|
 ld aX ⟨h,0⟩ λt=>
 cj (P6 m o t s.1) λu=>
 dn ⟨h,2⟩ λv=>
 bq (P8 c v) λw=>
 R ():=bG Tryz.func70 (uz 0xbe068c9992e640a9502652175541ee5869830810059471250009600c1001201001080182001001)
instance aeI(m):bF (XN m) λR=>
 aC m λa=>
 lo Xn a 10 λ(b:Zl)=>
 loop [.sl,.int .i64] (⟨none,0,0⟩,0) λc (d:Sl×Int)=>
 aq (decide (d.2<8)) (
 X3 [.ptr] (Ks.mk Xn b) d.2 8 1 λ(e:bO)=>
 join cu (λf=>
 aq (!e.isNone) (
 bQ (Z_ e) λ(g:gd)=>
 f g.2.2.1)<|
 f 18446744073709551615) λ(h:Int)=>
 new [aB h] λi=>
 mj 1 d.1 ⟨some ⟨i,0⟩,1,1⟩ λj=>
 c (j,(i64.wrap (d.2+1))))<|
 R d.1:=bG Tryz.func62 (uz 0x1c00080060440010010811c100104b103086080041001001)
instance aet(m c):bF (ZK m c) λR=>
 new (Ks.mk aZ c) λa=>
 bR<|
 ld aZ ⟨a,0⟩ λb=>
 aC m λd=>
 ga d 18 λe=>
 bq (ZT e b) λf=>
 aq (f==0) (
 ld aZ ⟨a,0⟩ λg=>
 aC m λh=>
 st h (Ks.mk aZ g)<|
 R f)<|
 R f:=bG Tryz.func44 (uz 0x1280b1a628916a0c20431250009450c1001)
instance aeO(m i o):bF (ZW m i o) λR=>
 aC m λa=>
 eA (0≤i∧i<8)<|
 st ⟨a.b,a.o+10+i.toNat*1⟩ [.ptr none]<|
 aC m λc=>
 ga c 18 λd=>
 bQ (TR d i) λ(e:Sl)=>
 loop ci 0 λf (g:Int)=>
 aq (decide (g<((e.len:Nat):Int))) (
 idx e g 5 λh=>
 ld aX h λj=>
 new [zi,zu,zi,zu,bc false] λk=>
 st ⟨k,0⟩ (Ks.mk aX j)<|
 ld aX ⟨k,0⟩ λl=>
 cj (P6 m o l 5) λn=>
 f (i64.wrap (g+1)))<|
 R ():=bG Tryz.func68 (uz 0x1c2047040041501182001001)
instance aed(c):bF (Zy c) λR=>
 new (Ks.mk aZ c) λa=>
 ld aZ ⟨a,0⟩ λb=>
 bQ (ZF b) λ(d:bO×Int)=>
 aq (d.2 !=0) (
 R (none,d.2))<|
 bR<|
 ld aZ ⟨a,0⟩ λe=>
 lY (ZG 0) λf=>
 ct ⟨a,0⟩ (Ks.mk aZ e)<|
 lY ZH λg=>
 ct ⟨a,0⟩ (Ks.mk aZ e)<|
 new [aE e.1,aE e.2.1,aE e.2.2.1,aE e.2.2.2.1,aB e.2.2.2.2.1,aB e.2.2.2.2.2.1,bc e.2.2.2.2.2.2.1,aE e.2.2.2.2.2.2.2.1,aE e.2.2.2.2.2.2.2.2,.ptr f,.ptr none,.ptr none,.ptr none,.ptr none,.ptr none,.ptr none,.ptr none,.ptr none,.ptr d.1,.ptr g] λh=>
 R ((some ⟨h,0⟩),0):=bG Tryz.func22 (uz 0x8078a21a68459a07cf384c438818840a50010c1241001001)
instance aeM(i):bF (ZU i) λR=>
 R ((decide (i≥0))&&(decide (i<8))):=bG Tryz.func66 (uz 8)
instance aeP(s d aj):bF (ZX s d aj) λR=>
 new (Ks.mk a_ d) λa=>
 dn ⟨a,0⟩ λb=>
 aq (b==2) (
 dn ⟨a,2⟩ λc=>
 bq (TS s c) λe=>
 R e)<|
 aq (b==3) (
 bI ⟨a,3⟩ λf=>
 eP ⟨a,5⟩ λg=>
 bq (TT s aj f g) λh=>
 R h)<|
 aq (b==4) (
 bq (TU s aj) λi=>
 R i)<|
 dn ⟨a,2⟩ λj=>
 bq (P8 s j) λk=>
 R k:=bG Tryz.func69 (uz 0x1d5080041001)
instance aeC(c):bF (YR c) λR=>
 new (Ks.mk aZ c) λa=>
 dn ⟨a,0⟩ λb=>
 cg (Mt b 100 65536) λd=>
 aq d (
 dn ⟨a,1⟩ λe=>
 cg (Mt e 100 65536) λf=>
 aq f (
 dn ⟨a,2⟩ λg=>
 cg (Mt g 1 512) λh=>
 aq h (
 dn ⟨a,3⟩ λi=>
 cg (Mt i 1 512) λj=>
 aq j (
 bI ⟨a,4⟩ λk=>
 aq (decide (k≤4611686018427387904)) (
 dn ⟨a,7⟩ λl=>
 cg (Mt l 1 1073741824) λm=>
 aq m (
 dn ⟨a,8⟩ λn=>
 cg (Mt n 100 9000) λo=>
 R o)<|
 R false)<|
 R false)<|
 R false)<|
 R false)<|
 R false)<|
 R false:=bG Tryz.func56 (uz 8)
instance aeo(c):bF (ZF c) λR=>
 new (Ks.mk aZ c) λa=>
 ld aZ ⟨a,0⟩ λb=>
 cg (YR b) λd=>
 aq (!d) (
 R (none,13))<|
 bR<|
 ld aZ ⟨a,0⟩ λe=>
 lY ZQ λf=>
 ct ⟨a,0⟩ (Ks.mk aZ e)<|
 lY (ZR 8) λg=>
 ct ⟨a,0⟩ (Ks.mk aZ e)<|
 new [aE e.1,aE e.2.1,aE e.2.2.1,aE e.2.2.2.1,aB e.2.2.2.2.1,aB e.2.2.2.2.2.1,bc e.2.2.2.2.2.2.1,aE e.2.2.2.2.2.2.2.1,aE e.2.2.2.2.2.2.2.2,.ptr none,.ptr none,.ptr none,.ptr none,.ptr none,.ptr none,.ptr none,.ptr none,.ptr f,.ptr g,zi] λh=>
 R ((some ⟨h,0⟩),0):=bG Tryz.func39 (uz 0x80688b1662849892070ed0a20620010c1241001)
instance aaB(q sock):bF (TR q sock) λR=>
 cg (Ue q sock) λa=>
 aq (!a) (
 R ⟨none,0,0⟩)<|
 aC q λc=>
 eA (0≤sock∧sock<8)<|
 te ⟨c.b,c.o+9+sock.toNat*1⟩ λd=>
 join [] (λe=>
 bq (JV q sock) λf=>
 aq (f==3) (
 bR<|
 aC q λg=>
 ga g 18 λh=>
 bQ (YY d sock) λ(i:(Int×Int))=>
 lI g 18 h<|
 bq (Qc h i) λj=>
 e ())<|
 e ()) λ(k:Unit)=>
 aC q λl=>
 ga l 17 λm=>
 cg (L7 m sock) λn=>
 aC q λp=>
 eA (0≤sock∧sock<8)<|
 st ⟨p.b,p.o+9+sock.toNat*1⟩ [.ptr none]<|
 bR<|
 aC q λr=>
 aC d λs=>
 gY r 19 λt=>
 jn s 3 λu=>
 aC q λv=>
 so v 19 [aE (i64.wrap (t-((u.len:Nat):Int)))]<|
 aC d λw=>
 jn w 3 λx=>
 bQ (Uf x) λ(y:Sl)=>
 R y:=bG Tryz.func106 (uz 0x781c68ca8b44a959509a481c3182141144940025983040040040817507a96546a830810459451250009530c1001004001241001)
instance aeG(d o a):bF (W4 d o a) λR=>
 new [zi,zu,zi,zu,bc false] λc=>
 aq d.isNone (
 st ⟨c,0⟩ [zi,zu,zi,zu,bc false]<|
 ld aX ⟨c,0⟩ λe=>
 R (e,false))<|
 cj (Z5 d o) λf=>
 loop [] () λg (h:Unit)=>
 aC d λi=>
 ga i 17 λj=>
 bQ (XO j) λ(k:Int×Bool×Bool)=>
 aq (!k.2.2) (
 st ⟨c,0⟩ [zi,zu,zi,zu,bc false]<|
 ld aX ⟨c,0⟩ λl=>
 R (l,false))<|
 aC d λm=>
 eA (0≤k.1∧k.1<8)<|
 te ⟨m.b,m.o+9+k.1.toNat*1⟩ λn=>
 aC n λp=>
 dn p λq=>
 aq (decide (q≤0)) (
 bR<|
 aC n λr=>
 aC d λs=>
 dn r λt=>
 dn s λu=>
 aC n λv=>
 st v [aE (i64.wrap (t+u))]<|
 aC d λw=>
 ga w 17 λx=>
 cg (YV x) λy=>
 g ())<|
 join cb (λz=>
 aC n λA=>
 jn A 3 λB=>
 aq ((((B.len:Nat):Int)==0)&&k.2.1) (
 cg (Z6 d) λC=>
 z C)<|
 z false) λ(D:Bool)=>
 aq D (
 aC d λE=>
 ga E 17 λF=>
 cg (YV F) λG=>
 g ())<|
 aC n λH=>
 jn H 3 λI=>
 aq (((I.len:Nat):Int)==0) (
 aC d λJ=>
 ga J 17 λK=>
 cg (YW K) λL=>
 aC n λM=>
 so M 2 [aB o]<|
 g ())<|
 aU (YX n) λN=>
 aq (decide (N>o)) (
 aC d λO=>
 ga O 17 λQ=>
 cg (YW Q) λS=>
 bR<|
 aC d λT=>
 ga T 18 λU=>
 bQ (YY n k.1) λ(V:(Int×Int))=>
 lI T 18 U<|
 bq (Z7 U V) λX=>
 g ())<|
 join cu (λY=>
 aq (decide (k.1<((a.len:Nat):Int))) (
 idx a k.1 1 λZ=>
 bI Z λa0=>
 Y a0)<|
 Y 18446744073709551615) λ(a1:Int)=>
 bQ (Z8 d n o a1) λ(a2:km)=>
 st ⟨c,0⟩ (Ks.mk aX a2)<|
 ld aX ⟨c,0⟩ λa3=>
 R (a3,true):=bG Tryz.func60 (uz 0x71c800c044001817507a96546a8308120594b125000975fc3001040047040040040089fc110081c68ca8b44a959509a481c318214100494b025d83041001080048040042006081001001241001)
instance aaI(q s aj):bF (TX q s aj) λR=>
 new (Ks.mk aX s) λa=>
 aq q.isNone (
 R (0,2))<|
 dn ⟨a,0⟩ λc=>
 cg (Mt c 0 7) λd=>
 aq (!d) (
 R (0,8))<|
 dn ⟨a,2⟩ λe=>
 cg (Mt e 1 65536) λf=>
 aq (!f) (
 R (0,1))<|
 cj (Ul q aj) λg=>
 bq (Um q (some ⟨a,0⟩) aj) λh=>
 aq (h==0) (
 dn ⟨a,0⟩ λi=>
 cj (Un q i aj) λj=>
 bR<|
 dn ⟨a,0⟩ λk=>
 aC q λl=>
 eA (0≤k∧k<8)<|
 te ⟨l.b,l.o+9+k.toNat*1⟩ λm=>
 bR<|
 ld aX ⟨a,0⟩ λn=>
 aC m λp=>
 jn p 3 λr=>
 new [aE n.1,aB n.2.1,aE n.2.2.1,aB n.2.2.2.1,bc n.2.2.2.2] λt=>
 td p 3 r<|
 mj 5 r ⟨some ⟨t,0⟩,1,1⟩ λu=>
 aC m λv=>
 so v 3 [aY u]<|
 aC q λw=>
 gY w 19 λx=>
 aC q λy=>
 so y 19 [aE (i64.wrap (x+1))]<|
 R (h,0))<|
 R (h,0):=bG Tryz.func113 (uz 0x1c00206982aa2512255d51ea5869840c210594906524096a0c18171e61954c5a444439421019400258c3040041001040040055081001)
instance aeL(q c):bF (ZT q c) λR=>
 new (Ks.mk aZ c) λa=>
 aq q.isNone (
 R 2)<|
 ld aZ ⟨a,0⟩ λb=>
 cg (YR b) λd=>
 aq (!d) (
 R 13)<|
 ld aZ ⟨a,0⟩ λe=>
 aC q λf=>
 st f (Ks.mk aZ e)<|
 R 0:=bG Tryz.func65 (uz 0x20d081001)
instance aeK(q):bF (W5 q) λR=>
 aq q.isNone (
 R (0,false))<|
 aC q λa=>
 ga a 18 λb=>
 bQ (TN b) λ(c:(Int×Int)×Bool)=>
 new [zu,zu] λd=>
 st ⟨d,0⟩ (Ks.mk cr c.1)<|
 bI ⟨d,0⟩ λe=>
 R (e,c.2):=bG Tryz.func64 (uz 0x16)
instance abE(q aj):bF (Ul q aj) λR=>
 loop ci 0 λa (c:Int)=>
 aq (decide (c<8)) (
 cg (Qu q c 3000000000 aj) λd=>
 aq d (
 aC q λe=>
 eA (0≤c∧c<8)<|
 st ⟨e.b,e.o+9+c.toNat*1⟩ [.ptr none]<|
 a (i64.wrap (c+1)))<|
 a (i64.wrap (c+1)))<|
 R ():=bG Tryz.func176 (uz 0x2c2047040041141182001)
instance ae3(q aj):PJ (Z5 q aj) λn0 R=>
 new [aB aj] λa=>
 new [aY ⟨none,0,0⟩] λb=>
 join [] (λc=>
 aC q λd=>
 ga d 18 λe=>
 bQ (Qb e) λ(f:Fv)=>
 qU Tryz.prog f [.agg [.int .u64,.int .u64]] (λ(g:(Int×Int)) h i j=>
 new [zu,zu] λk=>
 st ⟨k,0⟩ (Ks.mk cr g)<|
 h<|
 bI ⟨k,0⟩ λl=>
 bI ⟨a,0⟩ λm=>
 aq (decide (l>m)) (
 j 2)<|
 eP ⟨b,0⟩ λn=>
 ld cr ⟨k,0⟩ λ(o:Int×Int)=>
 new [aB o.1,aB o.2] λp=>
 mj 2 n ⟨some ⟨p,0⟩,1,1⟩ λr=>
 st ⟨b,0⟩ [aY r]<|
 i) λs=>pJ 0 s (c ())<|
 pJ 2 s (c ())<|
 gX) λ(t:Unit)=>
 eP ⟨b,0⟩ λu=>
 loop ci 0 λv (w:Int)=>
 aq (decide (w<((u.len:Nat):Int))) (
 idx u w 2 λx=>
 ld cr x λ(y:Int×Int)=>
 new [zu,zu] λz=>
 st ⟨z,0⟩ (Ks.mk cr y)<|
 bR<|
 ld cr ⟨z,0⟩ λ(A:Int×Int)=>
 aC q λB=>
 ga B 18 λC=>
 bq (Qc C A) λD=>
 bR<|
 aC q λE=>
 bI ⟨z,1⟩ λF=>
 ga E 17 λG=>
 bq (L5 G (i64.wrap F) false) λH=>
 v (i64.wrap (w+1)))<|
 lZ n0<|R ():=VK Tryz.func89 (.s .o (.s .o (.j [] (.s .o (.b (.r [.agg [.int .u64,.int .u64]] .o (.b (.s (.s .o (.s .o .o)) .o))))) (.s .o (.b (.l [(24,qi)] (.s .o (.s (.s .o .o) (.s (.b (.s .o (.s (.d (.f 0 [0] (.f 4 [7] (.f 1 [28] (.f 2 [29] (.f 3 [30] (.w 5 [31,32] .aI))))))) (.d (.f 0 [0] (.f 4 [7] (.f 1 [34] (.f 5 [38] (.f 2 [35] (.f 6 [39] (.f 3 [36] (.w 7 [37,40] .aI)))))))))))) .o)))))))))
instance abF(d o a):bF (Um d o a) λR=>
 bR<|
 aC o λc=>
 aC d λe=>
 dn c λf=>
 eA (0≤f∧f<8)<|
 te ⟨e.b,e.o+9+f.toNat*1⟩ λg=>
 aC d λh=>
 dD h 4 λi=>
 aU (oH a i) λj=>
 join [] (λk=>
 bR<|
 aC d λl=>
 aC d λm=>
 gY l 19 λn=>
 gY m 2 λp=>
 aq (decide (n≥p)) (
 R 2)<|
 join cb (λq=>
 bR<|
 aq (!g.isNone) (
 aC g λr=>
 aC d λs=>
 jn r 3 λt=>
 gY s 3 λu=>
 q (decide (((t.len:Nat):Int)≥u)))<|
 q false) λ(v:Bool)=>
 aq v (
 R 3)<|
 aC o λw=>
 dD w 3 λx=>
 aq (decide (x>j)) (
 aC d λy=>
 oI y 6 λz=>
 aq z (
 R 4)<|
 k ())<|
 k ()) λ(A:Unit)=>
 aC o λB=>
 dD B 3 λC=>
 aC o λD=>
 so D 3 [aB (if j<C then j else C)]<|
 R 0:=bG Tryz.func177 (uz 0x21381f3e67933a97584cdb5c4cca574c7a5b4cba564c6a5a4caa554c5a594c9a544c4a53008a531c3a420470259030a40441c181a2a66542692070c60850401250009590c10801000606499883cd1e91060c91650810650009480c1001)
instance abn(q sock):bF (Ue q sock) λR=>
 aq (!q.isNone) (
 cg (Mt sock 0 7) λa=>
 aq a (
 aC q λc=>
 eA (0≤sock∧sock<8)<|
 te ⟨c.b,c.o+9+sock.toNat*1⟩ λd=>
 R (!d.isNone))<|
 R false)<|
 R false:=bG Tryz.func160 (uz 8)
instance acM(q sock qM aj):bF (Qu q sock qM aj) λR=>
 aC q λa=>
 eA (0≤sock∧sock<8)<|
 te ⟨a.b,a.o+9+sock.toNat*1⟩ λc=>
 aq (!c.isNone) (
 bq (JV q sock) λd=>
 aq (d==0) (
 aC c λe=>
 dD e 2 λf=>
 aU (oH f qM) λg=>
 R (decide (g≤aj)))<|
 R false)<|
 R false:=bG Tryz.func246 (uz 0xb)
instance ae6(q):PJ (Z6 q) λn0 R=>
 new [bc false] λa=>
 aC q λb=>
 ga b 17 λc=>
 bQ (L6 c) λ(d:Fv)=>
 qU Tryz.prog d [qi,qb] (λ(e:Int×Bool) f g h=>
 f<|
 aq (!e.2) (
 st ⟨a,0⟩ [bc true]<|
 h 1)<|
 g) λi=>pJ 0 i (st ⟨a,0⟩ [bc false]<|
 rC ⟨a,0⟩ λj=>
 lZ n0<|R j)<|
 pJ 1 i (rC ⟨a,0⟩ λk=>
 lZ n0<|R k)<|
 gX:=VK Tryz.func92 (.s .o (.s (.s .o (.b (.r [qi,qb] .o (.b (.s .o (.s (.s .o .o) .o)))))) (.s .o .o)))
instance abo(q sock):bF (JV q sock) λR=>
 aC q λa=>
 ga a 17 λc=>
 bq (Mb c sock) λd=>
 aq (d !=0) (
 R d)<|
 aC q λe=>
 eA (0≤sock∧sock<8)<|
 te ⟨e.b,e.o+9+sock.toNat*1⟩ λf=>
 aq (!f.isNone) (
 aC f λg=>
 jn g 3 λh=>
 aq (decide (((h.len:Nat):Int)>0)) (
 R 3)<|
 R 0)<|
 R 0:=bG Tryz.func161 (uz 0x30)
instance afa(q f aj ba):bF (Z8 q f aj ba) λR=>
 new [zi,zu,zi,zu,bc false] λa=>
 aC f λb=>
 jn b 3 λc=>
 idx c 0 5 λd=>
 ld aX d λe=>
 new [zi,zu,zi,zu,bc false] λg=>
 st ⟨g,0⟩ (Ks.mk aX e)<|
 aC f λh=>
 jn h 3 λi=>
 DV i (some 1) none none 5 λj=>
 aC f λk=>
 so k 3 [aY j]<|
 aC q λl=>
 gY l 19 λm=>
 aC q λn=>
 so n 19 [aE (i64.wrap (m-1))]<|
 bR<|
 aC f λo=>
 dn ⟨g,2⟩ λp=>
 dn o λr=>
 aC f λs=>
 st s [aE (i64.wrap (r-p))]<|
 bR<|
 dn ⟨g,2⟩ λt=>
 aC q λu=>
 dD u 5 λv=>
 aU (T8 ba v) λw=>
 ct ⟨g,2⟩ (Ks.mk ci t)<|
 aU (Bm t w) λx=>
 aU (oH aj x) λy=>
 aC f λz=>
 so z 1 [aB y]<|
 ld aX ⟨g,0⟩ λA=>
 st ⟨a,0⟩ (Ks.mk aX A)<|
 ld aX ⟨a,0⟩ λB=>
 R B:=bG Tryz.func97 (uz 0x781f74fa8e44d95c48ca9b50ba9a54aa892071830059431252429420650409670c18195c9a88447956506a4308504912504095e0c1001001001001)
instance abG(d o a):bF (Un d o a) λR=>
 aC d λc=>
 eA (0≤o∧o<8)<|
 te ⟨c.b,c.o+9+o.toNat*1⟩ λe=>
 join [] (λf=>
 aq e.isNone (
 bR<|
 aC d λg=>
 aC d λh=>
 gY g 1 λi=>
 new [aE i,zu,zu,aY ⟨none,0,0⟩] λj=>
 eA (0≤o∧o<8)<|
 st ⟨h.b,h.o+9+o.toNat*1⟩ [.ptr (some ⟨j,0⟩)]<|
 f ())<|
 bq (JV d o) λk=>
 aq (k !=0) (
 R ())<|
 cg (Qu d o 40000000 a) λl=>
 aq l (
 bR<|
 aC e λm=>
 aC d λn=>
 dn m λp=>
 dn n λq=>
 aC e λr=>
 st r [aE (if q>p then q else p)]<|
 f ())<|
 f ()) λ(s:Unit)=>
 aC d λt=>
 eA (0≤o∧o<8)<|
 te ⟨t.b,t.o+9+o.toNat*1⟩ λu=>
 aC u λv=>
 so v 2 [zu]<|
 aC d λw=>
 ga w 17 λx=>
 bq (L5 x o true) λy=>
 R ():=bG Tryz.func178 (uz 0x1c081d6cda8c44b95a54aa492041c31820059460651809650c100100100181c64ca9b48ba582261c614a1112650c00a50419400253c3040042004001)
instance ae8(f):bF (YX f) λR=>
 bR<|
 aC f λa=>
 aC f λb=>
 dD a 1 λc=>
 jn b 3 λd=>
 idx d 0 5 λe=>
 dD e 3 λg=>
 R (if g>c then g else c):=bG Tryz.func94 (uz 0x80e3263462e92892070c60850401250009420c1001)
instance ae_(f sock):bF (YY f sock) λR=>
 new [zu,zu] λa=>
 aU (YX f) λb=>
 st ⟨a,0⟩ [aB b,aB (u64.wrap sock)]<|
 ld cr ⟨a,0⟩ λ(c:Int×Int)=>
 R c:=bG Tryz.func96 (uz 8)
instance ae1(v lo hi):bF (Mt v lo hi) λR=>
 R ((decide (v≥lo))&&(decide (v≤hi))):=bG Tryz.func87 (uz 8)
instance aeJ(l sock fate):bF (SR l sock fate) λR=>
 bq (TM l sock) λa=>
 aq (a !=0) (
 R a)<|
 aC l λc=>
 eA (0≤sock∧sock<8)<|
 join [] (λd=>
 aq ((decide (fate<0))||(decide (fate≥6))) (
 R 1)<|
 aq (fate==0) (
 aC (some ⟨c.b,c.o+sock.toNat*8⟩) λe=>
 gY e 7 λf=>
 aC (some ⟨c.b,c.o+sock.toNat*8⟩) λg=>
 so g 7 [aE (i64.wrap (f+1))]<|
 d ())<|
 aC (some ⟨c.b,c.o+sock.toNat*8⟩) λh=>
 gY h 7 λi=>
 aq (i==0) (
 R 7)<|
 aC (some ⟨c.b,c.o+sock.toNat*8⟩) λj=>
 gY j 7 λk=>
 aC (some ⟨c.b,c.o+sock.toNat*8⟩) λm=>
 so m 7 [aE (i64.wrap (k-1))]<|
 d ()) λ(n:Unit)=>
 bR<|
 aC (some ⟨c.b,c.o+sock.toNat*8⟩) λp=>
 aC (some ⟨c.b,c.o+sock.toNat*8⟩) λq=>
 eA (0≤fate∧fate<6)<|
 dn ⟨p.b,p.o+1+fate.toNat*1⟩ λr=>
 eA (0≤fate∧fate<6)<|
 st ⟨q.b,q.o+1+fate.toNat*1⟩ [aE (i64.wrap (r+1))]<|
 R 0:=bG Tryz.func63 (uz 0x781a5caa99489a46154484a480d11e54429420652009710c1c420040013c1001)
instance aav(l sock):bF (TM l sock) λR=>
 aq l.isNone (
 R 2)<|
 aq ((decide (sock<0))||(decide (sock≥8))) (
 R 8)<|
 R 0:=bG Tryz.func100 (uz 0x1cd081001)
instance aeq:bF ZH λR=>
 new [zi,zi,zi,zi,zi,zi,zi,zi,zi,zi,zi,zi,zi,zi,zi,zi,zi,zi,zi,zi,zi,zi,zi,zi,zi,zi,zi,zi,zi,zi,zi,zi,zi,zi,zi,zi,zi,zi,zi,zi,zi,zi,zi,zi,zi,zi,zi,zi,zi,zi,zi,zi,zi,zi,zi,zi,zi,zi,zi,zi,zi,zi,zi,zi] λa=>
 R (some ⟨a,0⟩):=bG Tryz.func41 (uz 8)
instance aa6(l):bF (L6 l) λR=>
 new [.ptr l] λa=>
 R (.mk (.func jP) [] [V1.enc (.lf (.ptr (some ⟨a,0⟩)))]):=bG Tryz.func143 (uz 8)
instance acd(yield c0):bF (XI yield c0) λR=>
 te c0 λa=>
 aq a.isNone (
 R ())<|
 te c0 λb=>
 aC b λc=>
 eP c λd=>
 bR<|
 te c0 λe=>
 te c0 λf=>
 aC e λg=>
 aC f λh=>
 eP g λi=>
 jn h 1 λj=>
 new [aY i,aY j] λk=>
 bQ (UK ⟨some ⟨k,0⟩,2,2⟩) λ(l:Sl)=>
 loop ci 0 λm (n:Int)=>
 aq (decide (n<((l.len:Nat):Int))) (
 idx l n 1 λo=>
 dn o λp=>
 qa Tryz.prog yield [vi p,.lf (.bool (decide (n<((d.len:Nat):Int))))] [qb] λ(q:Bool)=>
 aq (!q) (
 R ())<|
 m (i64.wrap (n+1)))<|
 R ():=bG Tryz.func213 (uz 0x2c204704004160118280a649998508a870c608504b84112504094c0c1001201)
instance ae5(l):bF (YV l) λR=>
 bQ (XO l) λ(a:Int×Bool×Bool)=>
 aq a.2.2 (
 cg (L7 l a.1) λb=>
 aq b (
 bq (L5 l a.1 false) λc=>
 R (c==0))<|
 R false)<|
 R false:=bG Tryz.func91 (uz 0xb)
instance ae7(l):bF (YW l) λR=>
 bQ (XO l) λ(a:Int×Bool×Bool)=>
 aq a.2.2 (
 cg (L7 l a.1) λb=>
 R b)<|
 R false:=bG Tryz.func93 (uz 0xb)
instance ae4(l):PJ (XO l) λn0 R=>
 new [zi] λa=>
 new [bc false] λb=>
 new [bc false] λc=>
 join [] (λd=>
 bQ (L6 l) λ(e:Fv)=>
 qU Tryz.prog e [qi,qb] (λ(f:Int×Bool) g h i=>
 g<|
 st ⟨a,0⟩ [aE f.1]<|
 st ⟨b,0⟩ [bc f.2]<|
 st ⟨c,0⟩ [bc true]<|
 i 1) λj=>pJ 0 j (d ())<|
 pJ 1 j (dn ⟨a,0⟩ λk=>
 rC ⟨b,0⟩ λm=>
 rC ⟨c,0⟩ λn=>
 lZ n0<|R (k,m,n))<|
 gX) λ(o:Unit)=>
 st ⟨a,0⟩ [zi]<|
 st ⟨b,0⟩ [bc false]<|
 st ⟨c,0⟩ [bc false]<|
 dn ⟨a,0⟩ λp=>
 rC ⟨b,0⟩ λq=>
 rC ⟨c,0⟩ λr=>
 lZ n0<|R (p,q,r):=VK Tryz.func90 (.s .o (.j [] (.s .o (.b (.r [qi,qb] (.s .o .o) (.b (.s .o .o))))) (.s .o .o)))
instance acb(l sock):PJ (Mb l sock) λn0 R=>
 new [aE sock] λa=>
 new [zi] λb=>
 bQ (L6 l) λ(c:Fv)=>
 qU Tryz.prog c [qi,qb] (λ(d:Int×Bool) e f g=>
 e<|
 dn ⟨a,0⟩ λh=>
 aq (d.1 !=h) (
 f)<|
 aq d.2 (
 st ⟨b,0⟩ [aE 1]<|
 g 1)<|
 st ⟨b,0⟩ [aE 2]<|
 g 1) λi=>pJ 0 i (st ⟨b,0⟩ [zi]<|
 dn ⟨b,0⟩ λj=>
 lZ n0<|R j)<|
 pJ 1 i (dn ⟨b,0⟩ λk=>
 lZ n0<|R k)<|
 gX:=VK Tryz.func212 (.s .o (.s (.s .o (.b (.r [qi,qb] (.s .o .o) (.b (.s (.s .o (.s .o .o)) (.s (.s .o (.s (.s .o .o) .o)) (.s .o .o))))))) (.s .o .o)))
instance aa5(l sock fresh):bF (L5 l sock fresh) λR=>
 aq l.isNone (
 R 2)<|
 aq ((decide (sock<0))||(decide (sock≥8))) (
 R 8)<|
 bq (Mb l sock) λa=>
 aq (a !=0) (
 R 6)<|
 aq fresh (
 aC l λb=>
 eP b λc=>
 new [aE sock] λd=>
 mj 1 c ⟨some ⟨d,0⟩,1,1⟩ λe=>
 aC l λf=>
 st f [aY e]<|
 R 0)<|
 aC l λg=>
 jn g 1 λh=>
 new [aE sock] λi=>
 mj 1 h ⟨some ⟨i,0⟩,1,1⟩ λj=>
 aC l λk=>
 so k 1 [aY j]<|
 R 0:=bG Tryz.func142 (uz 0x1f3081001)
instance aa7(l sock):bF (L7 l sock) λR=>
 new [aE sock] λa=>
 dn ⟨a,0⟩ λb=>
 bq (Mb l b) λc=>
 aq (c==0) (
 R false)<|
 bR<|
 aC l λd=>
 aC l λe=>
 eP d λf=>
 jn e 1 λg=>
 bQ (Ql f (.mk (.func fU) [] [V1.enc (.lf (.ptr (some ⟨a,0⟩)))])) λ(h:Sl)=>
 td e 1 g<|
 bQ (Ql g (.mk (.func fU) [] [V1.enc (.lf (.ptr (some ⟨a,0⟩)))])) λ(i:Sl)=>
 aC l λj=>
 st j [aY h]<|
 aC l λk=>
 so k 1 [aY i]<|
 R true:=bG Tryz.func144 (uz 0x7822793aa14a5311960610a8f2ce95d70da97587a8b14a1090c53250089451a500294006500094a0c1001241001)
instance acf(s c0):bF (XJ s c0) λR=>
 dn c0 λa=>
 R (s==a):=bG Tryz.func215 (uz 8)
instance aeD:bF ZQ λR=>
 new [aY ⟨none,0,0⟩,aY ⟨none,0,0⟩] λa=>
 R (some ⟨a,0⟩):=bG Tryz.func57 (uz 8)
instance adG(x y):bF (QG x y) λR=>
 eA (0≤(32:Int))<|
 eA (0≤(32:Int))<|
 eA (0≤(32:Int))<|
 eA (0≤(32:Int))<|
 eA (0≤(32:Int))<|
 R ((u64.wrap ((u64.wrap ((u64.wrap ((x.fdiv (2^min (32:Int).toNat u64.bits))*(y.fdiv (2^min (32:Int).toNat u64.bits))))+((u64.wrap ((u64.wrap ((x.fdiv (2^min (32:Int).toNat u64.bits))*(u64.wrap (BitVec.ofInt u64.bits y&&&BitVec.ofInt u64.bits 4294967295).toNat)))+((u64.wrap ((u64.wrap (BitVec.ofInt u64.bits x&&&BitVec.ofInt u64.bits 4294967295).toNat)*(u64.wrap (BitVec.ofInt u64.bits y&&&BitVec.ofInt u64.bits 4294967295).toNat))).fdiv (2^min (32:Int).toNat u64.bits)))).fdiv (2^min (32:Int).toNat u64.bits))))+((u64.wrap ((u64.wrap (BitVec.ofInt u64.bits (u64.wrap ((u64.wrap ((x.fdiv (2^min (32:Int).toNat u64.bits))*(u64.wrap (BitVec.ofInt u64.bits y&&&BitVec.ofInt u64.bits 4294967295).toNat)))+((u64.wrap ((u64.wrap (BitVec.ofInt u64.bits x&&&BitVec.ofInt u64.bits 4294967295).toNat)*(u64.wrap (BitVec.ofInt u64.bits y&&&BitVec.ofInt u64.bits 4294967295).toNat))).fdiv (2^min (32:Int).toNat u64.bits))))&&&BitVec.ofInt u64.bits 4294967295).toNat)+(u64.wrap ((u64.wrap (BitVec.ofInt u64.bits x&&&BitVec.ofInt u64.bits 4294967295).toNat)*(y.fdiv (2^min (32:Int).toNat u64.bits)))))).fdiv (2^min (32:Int).toNat u64.bits)))),(u64.wrap (x*y))):=bG Tryz.func301 (uz 0x34)
instance abh:bF Ua λR=>
 new [zu,zi,bc false] λa=>
 R (some ⟨a,0⟩):=bG Tryz.func155 (uz 8)
instance acr(p):bF (ED p) λR=>
 aq (!p.isNone) (
 aC p λa=>
 oI a 2 λb=>
 R b)<|
 R false:=bG Tryz.func226 (uz 8)
instance adu(p start limited bw):bF (Vk p start limited bw) λR=>
 join [] (λa=>
 loop [] () λb (c:Unit)=>
 join [] (λd=>
 aq (!p.isNone) (
 aC p λe=>
 oI e 2 λf=>
 aq (((!f)&&start)&&(!limited)) (
 d ())<|
 a ())<|
 a ()) λ(g:Unit)=>
 aC p λh=>
 bI h λi=>
 aU (EC i 320 256) λj=>
 aq (decide (bw≥j)) (
 aC p λk=>
 st k [aB bw]<|
 aC p λl=>
 so l 1 [zi]<|
 a ())<|
 aC p λm=>
 gY m 1 λn=>
 aC p λo=>
 so o 1 [aE (i64.wrap (n+1))]<|
 aC p λq=>
 gY q 1 λr=>
 aC p λs=>
 so s 2 [bc (r==3)]<|
 a ()) λ(t:Unit)=>
 cg (ED p) λu=>
 R u:=bG Tryz.func289 (uz 0x7682200100182004001001)
instance abl:bF Ud λR=>
 new [bc false,bc false,zu,zi,zu,zu,zu,zu] λa=>
 R (some ⟨a,0⟩):=bG Tryz.func158 (uz 8)
instance adq(d o a):bF (Vh d o a) λR=>
 new (Ks.mk aW a) λb=>
 loop [] () λc (e:Unit)=>
 aq (!d.isNone) (
 bR<|
 aC d λf=>
 bI ⟨b,6⟩ λg=>
 dD f 4 λh=>
 aU (oH h g) λi=>
 aC d λj=>
 so j 4 [aB i]<|
 join cb (λk=>
 aC d λl=>
 rC l λm=>
 aq (!m) (
 aC d λn=>
 oI n 1 λp=>
 k (!p))<|
 k false) λ(q:Bool)=>
 aq q (
 bI ⟨b,6⟩ λr=>
 aq (decide (r>0)) (
 ld aW ⟨b,0⟩ λs=>
 cj (QH d s) λt=>
 R ())<|
 R ())<|
 join [] (λu=>
 aC d λv=>
 rC v λw=>
 aq (!w) (
 rC ⟨b,8⟩ λx=>
 aq x (
 cj (Mp d) λy=>
 R ())<|
 u ())<|
 u ()) λ(z:Unit)=>
 join [] (λA=>
 aq o (
 aC d λB=>
 gY B 3 λC=>
 aC d λD=>
 so D 3 [aE (i64.wrap (C+1))]<|
 A ())<|
 A ()) λ(E:Unit)=>
 aC d λF=>
 rC F λG=>
 aq G (
 join cb (λH=>
 aq o (
 aC d λI=>
 gY I 3 λJ=>
 H (J==48))<|
 H false) λ(K:Bool)=>
 aq K (
 cj (Mp d) λL=>
 aC d λM=>
 so M 3 [zi]<|
 R ())<|
 R ())<|
 aC d λN=>
 gY N 3 λO=>
 aq (decide (O>16)) (
 cj (Mp d) λQ=>
 R ())<|
 join cb (λS=>
 aC d λT=>
 gY T 3 λU=>
 aq (decide (U≥4)) (
 bI ⟨b,6⟩ λV=>
 S (decide (V>0)))<|
 S false) λ(X:Bool)=>
 aq X (
 ld aW ⟨b,0⟩ λY=>
 cj (Vt d Y) λZ=>
 R ())<|
 R ())<|
 R ():=bG Tryz.func285 (uz 0x70024bf044001001300084fc1101001081200109004d4009d04406068f2aa24822538c1ea1031821459400650009470c1088040182001001)
instance adj(p):bF (QB p) λR=>
 join [] (λa=>
 aq p.isNone (
 R (0,false))<|
 aC p λb=>
 rC b λc=>
 aq (!c) (
 R (0,false))<|
 a ()) λ(d:Unit)=>
 aC p λe=>
 dD e 2 λf=>
 R (f,true):=bG Tryz.func278 (uz 0x1c9004001)
instance adI(p s):bF (QH p s) λR=>
 new (Ks.mk aW s) λa=>
 bR<|
 bI ⟨a,0⟩ λb=>
 bI ⟨a,1⟩ λc=>
 aC p λd=>
 dD d 4 λe=>
 aC p λf=>
 so f 1 [bc true]<|
 ct ⟨a,1⟩ (Ks.mk cu c)<|
 ct ⟨a,0⟩ (Ks.mk cu b)<|
 aC p λg=>
 so g 3 [zi]<|
 ct ⟨a,1⟩ (Ks.mk cu c)<|
 ct ⟨a,0⟩ (Ks.mk cu b)<|
 aC p λh=>
 so h 5 [aB b,aB c,aB e]<|
 R ():=bG Tryz.func303 (uz 0x2088f52a8539464a581199f42514f95e3a634432538a20bb4a2481840079431650c39400a50019400250c3001)
instance adK(d o):bF (Vt d o) λR=>
 new (Ks.mk aW o) λa=>
 ld aW ⟨a,0⟩ λb=>
 bQ (VA d b) λ(c:Int×Bool)=>
 aq (!c.2) (
 R ())<|
 join cb (λe=>
 bR<|
 aC d λf=>
 dD f 2 λg=>
 aq (decide (g>0)) (
 aC d λh=>
 aC d λi=>
 dD h 2 λj=>
 dD i 2 λk=>
 aU (VB j c.1) λl=>
 lJ i 2 k<|
 e (decide (l≤(u64.wrap (k.tdiv 8)))))<|
 e false) λ(m:Bool)=>
 aq m (
 bR<|
 aC d λn=>
 aC d λp=>
 dD n 2 λq=>
 dD p 2 λr=>
 aC d λs=>
 so s 2 [aB (u64.wrap ((u64.wrap ((u64.wrap (q.tdiv 2))+(u64.wrap (c.1.tdiv 2))))+(u64.wrap (BitVec.ofInt u64.bits (u64.wrap (BitVec.ofInt u64.bits r&&&BitVec.ofInt u64.bits c.1).toNat)&&&BitVec.ofInt u64.bits 1).toNat)))]<|
 aC d λt=>
 st t [bc true]<|
 aC d λu=>
 so u 3 [zi]<|
 R ())<|
 aC d λv=>
 so v 2 [aB c.1]<|
 ld aW ⟨a,0⟩ λw=>
 cj (QH d w) λx=>
 R ():=bG Tryz.func305 (uz 0x1c0823853a92451960650a4f61622979d3a914c10b0ca1c210d9402651069400650009690c10608d39a2592a6171646d6da58bba0590a5f58fa59589a5e58ea58588a5d58da57587a5600ca5610aa56006a451030810009560c2581100040042001001)
instance adJ(p):bF (Mp p) λR=>
 aC p λa=>
 st a [bc false]<|
 aC p λb=>
 so b 1 [bc false]<|
 aC p λc=>
 so c 2 [zu]<|
 R ():=bG Tryz.func304 .o
instance adW(p s):bF (VA p s) λR=>
 new (Ks.mk aW s) λa=>
 bR<|
 bI ⟨a,1⟩ λb=>
 aC p λc=>
 aC p λd=>
 aC p λe=>
 bI ⟨a,0⟩ λf=>
 aC p λg=>
 dD d 4 λh=>
 dD c 6 λi=>
 dD e 7 λj=>
 dD g 5 λk=>
 aU (y_ b i) λl=>
 lJ g 5 k<|
 lJ e 7 j<|
 lJ d 4 h<|
 ct ⟨a,0⟩ (Ks.mk cu f)<|
 aU (y_ h j) λm=>
 lJ g 5 k<|
 ct ⟨a,0⟩ (Ks.mk cu f)<|
 aU (y_ f k) λn=>
 aq ((l==0)||(n==0)) (
 R (0,false))<|
 aU (EC l 50 256) λo=>
 aq (decide (m<o)) (
 R (0,false))<|
 aU (EC l 1000000000 n) λq=>
 R (q,true):=bG Tryz.func317 (uz 0x1d82a72689b9986a6a6466a85c46a3ca1ea6101973cb15638a1154cd2430405250d29403250089400a50c09480c1001)
instance adX(a b):bF (VB a b) λR=>
 R (u64.wrap ((if b>a then b else a)-(if b<a then b else a))):=bG Tryz.func318 (uz 8)
instance abk:bF Uc λR=>
 new [zu,zu,bc false,zu,bc false] λa=>
 R (some ⟨a,0⟩):=bG Tryz.func157 (uz 8)
instance acn(p):bF (Gs p) λR=>
 aq p.isNone (
 R 0)<|
 aC p λa=>
 bI a λb=>
 R b:=bG Tryz.func222 (uz 0xa)
instance adQ(d o a a' a'' a'''):bF (Vw d o a a' a'' a''') λR=>
 loop [.bool,.bool] (false,false) λb (c:Bool×Bool)=>
 aq (!d.isNone) (
 join cb (λe=>
 aC d λf=>
 bI f λg=>
 aq (decide (g>0)) (
 aC d λh=>
 dD h 1 λi=>
 aU (oH i 10000000000) λj=>
 e (decide (o>j)))<|
 e false) λ(k:Bool)=>
 join [] (λl=>
 join cb (λm=>
 aq (decide (a>0)) (
 aC d λn=>
 bI n λp=>
 aq (p==0) (
 m true)<|
 aC d λq=>
 bI q λr=>
 m ((decide (a≤r))||k))<|
 m false) λ(s:Bool)=>
 aq s (
 aC d λt=>
 st t [aB a]<|
 aC d λu=>
 so u 1 [aB o]<|
 l ())<|
 l ()) λ(v:Unit)=>
 join cb (λw=>
 aq k (
 aC d λx=>
 oI x 2 λy=>
 w (!y))<|
 w false) λ(z:Bool)=>
 aq z (
 aC d λA=>
 so A 2 [bc true]<|
 aC d λB=>
 so B 3 [zu]<|
 aC d λC=>
 so C 4 [bc false]<|
 R (true,c.2))<|
 aC d λD=>
 oI D 2 λE=>
 aq E (
 cg (VD d o a' a'' a''') λF=>
 R (c.1,F))<|
 R (c.1,false))<|
 R (c.1,c.2):=bG Tryz.func311 (uz 0x1c7380085fc11011c00b404400400240110220108f08e086081001001001)
instance ad2(p aj start flight floor):bF (VD p aj start flight floor) λR=>
 aC p λa=>
 dD a 3 λb=>
 aq (b==0) (
 aq (decide (flight≤floor)) (
 aU (oH aj 200000000) λc=>
 aC p λd=>
 so d 3 [aB c]<|
 aC p λe=>
 so e 4 [bc false]<|
 R false)<|
 R false)<|
 aC p λf=>
 oI f 4 λg=>
 aC p λh=>
 so h 4 [bc (g||start)]<|
 join [] (λi=>
 aC p λj=>
 oI j 4 λk=>
 aq (!k) (
 R false)<|
 aC p λl=>
 dD l 3 λm=>
 aq (decide (aj≤m)) (
 R false)<|
 i ()) λ(n:Unit)=>
 aC p λo=>
 so o 1 [aB aj]<|
 aC p λq=>
 so q 2 [bc false]<|
 R true:=bG Tryz.func323 (uz 0x2090040016c1001)
instance aeE(n):bF (ZR n) λR=>
 lY (Z4 (if 4096<(if 0>n then 0 else n)then 4096 else(if 0>n then 0 else n))) λa=>
 new [.ptr a,aY ⟨none,0,0⟩,zi,zi,aE (if 4096<(if 0>n then 0 else n)then 4096 else(if 0>n then 0 else n))] λb=>
 R (some ⟨b,0⟩):=bG Tryz.func58 (uz 0xb)
instance aa3(t):bF (Qb t) λR=>
 new [.ptr t] λa=>
 R (.mk (.func jQ) [] [V1.enc (.lf (.ptr (some ⟨a,0⟩)))]):=bG Tryz.func140 (uz 8)
instance ab7(yield c0):bF (XH yield c0) λR=>
 te c0 λa=>
 bq (L_ a) λb=>
 aq (b==(-1)) (
 R ())<|
 bR<|
 te c0 λc=>
 te c0 λd=>
 bq (L_ d) λe=>
 ct c0 (Ks.mk cp c)<|
 bQ (Ma c e) λ(f:Sl)=>
 loop cl f λg (h:Sl)=>
 aq (decide (((h.len:Nat):Int)>0)) (
 idx h (i64.wrap (((h.len:Nat):Int)-1)) 1 λi=>
 dn i λj=>
 DV h none (some (i64.wrap (((h.len:Nat):Int)-1))) none 1 λk=>
 te c0 λl=>
 aC l λm=>
 jn m 1 λn=>
 idx n j 5 λo=>
 ld cr o λ(p:Int×Int)=>
 qa Tryz.prog yield [.agg (Ks.mk cr p)] [qb] λ(q:Bool)=>
 aq (!q) (
 R ())<|
 bR<|
 te c0 λr=>
 te c0 λs=>
 aC s λt=>
 jn t 1 λu=>
 idx u j 5 λv=>
 gY v 3 λw=>
 bQ (Ma r w) λ(x:Sl)=>
 mj 1 k x λy=>
 g y)<|
 R ():=bG Tryz.func207 (uz 0x2070c99b44ba9a48aa89217587a451031069410a50419430259032010010010880440c118280b1262880ea2429810409400c1201)
instance aa4(d o):bF (Qc d o) λR=>
 new (Ks.mk cr o) λa=>
 aq d.isNone (
 R 2)<|
 ld cr ⟨a,0⟩ λ(b:Int×Int)=>
 bQ (Qd d b) λ(c:Sl)=>
 ld cr ⟨a,0⟩ λ(e:Int×Int)=>
 bq (Qe d c e) λf=>
 aq (f==(-1)) (
 R 7)<|
 join [.sl,.int .i64] (λg=>
 join cb (λh=>
 aC d λi=>
 jn i 1 λj=>
 idx j f 5 λk=>
 gY k 2 λl=>
 aq (l !=(-1)) (
 aC d λm=>
 jn m 1 λn=>
 idx n f 5 λp=>
 gY p 3 λq=>
 h (q !=(-1)))<|
 h false) λ(r:Bool)=>
 aq r (
 aC d λs=>
 jn s 1 λt=>
 idx t f 5 λu=>
 gY u 3 λv=>
 bQ (Ma d v) λ(w:Sl)=>
 idx w (i64.wrap (((w.len:Nat):Int)-1)) 1 λx=>
 dn x λy=>
 bR<|
 aC d λz=>
 aC d λA=>
 jn z 1 λB=>
 jn A 1 λC=>
 idx C y 5 λD=>
 ld cr D λ(E:Int×Int)=>
 idx B f 5 λF=>
 st F (Ks.mk cr E)<|
 mj 1 c w λG=>
 g (G,y))<|
 g (c,f)) λ(H:Sl×Int)=>
 aC d λI=>
 jn I 1 λJ=>
 idx J H.2 5 λK=>
 gY K 2 λL=>
 join ci (λM=>
 aq (L==(-1)) (
 aC d λN=>
 jn N 1 λO=>
 idx O H.2 5 λQ=>
 gY Q 3 λS=>
 M S)<|
 M L) λ(T:Int)=>
 DV H.1 none (some (i64.wrap (((H.1.len:Nat):Int)-1))) none 1 λU=>
 cj (UI d U H.2 T) λV=>
 aC d λX=>
 gY X 3 λY=>
 aC d λZ=>
 so Z 3 [aE (i64.wrap (Y-1))]<|
 aC d λa0=>
 te a0 λa1=>
 bq (UJ a1 H.2) λa2=>
 R a2:=bG Tryz.func141 (uz 0xb2012411000400207dd3ea39550da4c2da64aa480c70860482650059461250009780c10010010400a8044046105084241001001241001)
instance ae9(d o):bF (Z7 d o) λR=>
 new (Ks.mk cr o) λa=>
 aq d.isNone (
 R 2)<|
 ld cr ⟨a,0⟩ λ(b:Int×Int)=>
 bQ (Qd d b) λ(c:Sl)=>
 ld cr ⟨a,0⟩ λ(e:Int×Int)=>
 bq (Qe d c e) λf=>
 aq (f !=(-1)) (
 R 6)<|
 bR<|
 aC d λg=>
 aC d λh=>
 gY g 3 λi=>
 gY h 4 λj=>
 aq (decide (i≥j)) (
 R 5)<|
 aC d λk=>
 te k λl=>
 bQ (Qf l) λ(m:Int×Int)=>
 aq (m.2 !=0) (
 R m.2)<|
 join [] (λn=>
 aC d λp=>
 jn p 1 λq=>
 aq (m.1==((q.len:Nat):Int)) (
 aC d λr=>
 jn r 1 λs=>
 new [zu,zu,zi,zi,zi] λt=>
 mj 5 s ⟨some ⟨t,0⟩,1,1⟩ λu=>
 aC d λv=>
 so v 1 [aY u]<|
 n ())<|
 n ()) λ(w:Unit)=>
 bR<|
 ld cr ⟨a,0⟩ λ(x:Int×Int)=>
 aC d λy=>
 jn y 1 λz=>
 idx z m.1 5 λA=>
 st A [aB x.1,aB x.2,aE (-1),aE (-1),aE 1]<|
 aC d λB=>
 gY B 3 λC=>
 aC d λD=>
 so D 3 [aE (i64.wrap (C+1))]<|
 cj (T7 d c (-1) m.1) λE=>
 R 0:=bG Tryz.func95 (uz 0xb8185c8a95507a43086043165184940025e03048004241001320649998508a470c60850401250009530c11c1001081001241001)
instance aaw(t):PJ (TN t) λn0 R=>
 new [zu,zu] λa=>
 new [bc false] λb=>
 join [] (λc=>
 bQ (Qb t) λ(d:Fv)=>
 qU Tryz.prog d [.agg [.int .u64,.int .u64]] (λ(e:(Int×Int)) f g h=>
 new [zu,zu] λi=>
 st ⟨i,0⟩ (Ks.mk cr e)<|
 f<|
 ld cr ⟨i,0⟩ λ(j:Int×Int)=>
 st ⟨a,0⟩ (Ks.mk cr j)<|
 st ⟨b,0⟩ [bc true]<|
 h 1) λk=>pJ 0 k (c ())<|
 pJ 1 k (ld cr ⟨a,0⟩ λ(l:Int×Int)=>
 rC ⟨b,0⟩ λm=>
 lZ n0<|R (l,m))<|
 gX) λ(n:Unit)=>
 st ⟨a,0⟩ [zu,zu]<|
 st ⟨b,0⟩ [bc false]<|
 ld cr ⟨a,0⟩ λ(o:Int×Int)=>
 rC ⟨b,0⟩ λp=>
 lZ n0<|R (o,p):=VK Tryz.func101 (.s .o (.j [] (.s .o (.b (.r [.agg [.int .u64,.int .u64]] .o (.b (.s .o .o))))) (.s .o .o)))
instance ab_(t g_ was i):bF (UI t g_ was i) λR=>
 loop Xm (was,i,(i64.wrap (((g_.len:Nat):Int)-1))) λa (b:Bj)=>
 aq (decide (b.2.2≥0)) (
 idx g_ b.2.2 1 λc=>
 dn c λd=>
 aC t λe=>
 jn e 1 λf=>
 idx f d 5 λg=>
 gY g 2 λh=>
 aq (h==b.1) (
 aC t λj=>
 jn j 1 λk=>
 idx k d 5 λl=>
 so l 2 [aE b.2.1]<|
 bq (JW t d) λm=>
 a (d,m,(i64.wrap (b.2.2-1))))<|
 aC t λn=>
 jn n 1 λo=>
 idx o d 5 λp=>
 so p 3 [aE b.2.1]<|
 bq (JW t d) λq=>
 a (d,q,(i64.wrap (b.2.2-1))))<|
 aC t λr=>
 so r 2 [aE (i64.wrap (b.2.1+1))]<|
 R ():=bG Tryz.func210 (uz 0x110812010480430420c6080041)
end Go.X
