/- Readings of functions. -/
import Derived.Test.YtniflenfpbbikaaGreatDoorG
set_option linter.all false
namespace Go.X
open IntKind (u64 i64)
open Go.Proofs
instance aci(d o):bF (JW d o) λR=>
 cj (Gt d o) λa=>
 bq (Mk d o) λb=>
 aq (decide (b>1)) (
 aC d λc=>
 jn c 1 λe=>
 idx e o 5 λf=>
 gY f 2 λg=>
 bq (Mk d g) λh=>
 aq (decide (h<0)) (
 bR<|
 aC d λi=>
 aC d λj=>
 jn i 1 λk=>
 jn j 1 λl=>
 idx l o 5 λm=>
 gY m 2 λn=>
 bq (Ml d n) λp=>
 td i 1 k<|
 idx k o 5 λq=>
 so q 2 [aE p]<|
 bq (Mm d o) λr=>
 R r)<|
 bq (Mm d o) λs=>
 R s)<|
 aq (decide (b<(-1))) (
 aC d λt=>
 jn t 1 λu=>
 idx u o 5 λv=>
 gY v 3 λw=>
 bq (Mk d w) λx=>
 aq (decide (x>0)) (
 bR<|
 aC d λy=>
 aC d λz=>
 jn y 1 λA=>
 jn z 1 λB=>
 idx B o 5 λC=>
 gY C 3 λD=>
 bq (Mm d D) λE=>
 td y 1 A<|
 idx A o 5 λF=>
 so F 3 [aE E]<|
 bq (Ml d o) λG=>
 R G)<|
 bq (Ml d o) λH=>
 R H)<|
 R o:=bG Tryz.func218 (uz 0x1c01c08217d1a905543e97963aa34c6da2e92432021c104a9401a500594112500097b0c10010410011c08217d1a905543e97963aa34c6da2e92432021c104a9401a50059411250009590c1001041001080041001001)
instance aa9(t g_ k):bF (Qe t g_ k) λR=>
 new (Ks.mk cr k) λa=>
 join cb (λb=>
 bR<|
 aq (decide (((g_.len:Nat):Int)>0)) (
 ld cr ⟨a,0⟩ λ(c:Int×Int)=>
 aC t λd=>
 idx g_ (i64.wrap (((g_.len:Nat):Int)-1)) 1 λe=>
 jn d 1 λf=>
 dn e λg=>
 idx f g 5 λh=>
 ld cr h λ(i:Int×Int)=>
 b ((i.1==c.1)&&(i.2==c.2)))<|
 b false) λ(j:Bool)=>
 aq j (
 idx g_ (i64.wrap (((g_.len:Nat):Int)-1)) 1 λl=>
 dn l λm=>
 R m)<|
 R (-1):=bG Tryz.func146 (uz 0x1cc821311a607cc42d78c3a974c36971730cb5b30ba4f306a5a60c2ad38c16964c26934c1293053e93072293011e93000e90811c09490c26c1100041001)
instance aba(d o a a'):bF (T7 d o a a') λR=>
 loop Xm (a,a',(i64.wrap (((o.len:Nat):Int)-1))) λb (c:Bj)=>
 aq (decide (c.2.2≥0)) (
 idx o c.2.2 1 λe=>
 dn e λf=>
 join cb (λg=>
 bR<|
 aC d λh=>
 jn h 1 λi=>
 idx i f 5 λj=>
 gY j 2 λk=>
 aq (k==c.1) (
 aq (c.1 !=(-1)) (
 g true)<|
 aC d λl=>
 aC d λm=>
 jn l 1 λn=>
 jn m 1 λp=>
 idx n c.2.1 5 λq=>
 idx p f 5 λr=>
 ld cr q λ(s:Int×Int)=>
 ld cr r λ(t:Int×Int)=>
 bq (Qn s t) λu=>
 g (decide (u<0)))<|
 g false) λ(v:Bool)=>
 aq v (
 aC d λw=>
 jn w 1 λx=>
 idx x f 5 λy=>
 so y 2 [aE c.2.1]<|
 bq (JW d f) λz=>
 b (f,z,(i64.wrap (c.2.2-1))))<|
 aC d λA=>
 jn A 1 λB=>
 idx B f 5 λC=>
 so C 3 [aE c.2.1]<|
 bq (JW d f) λD=>
 b (f,D,(i64.wrap (c.2.2-1))))<|
 aC d λE=>
 so E 2 [aE (i64.wrap (c.2.1+1))]<|
 R ():=bG Tryz.func148 (uz 0x1e0c5b869c1e6e0b6f79fa6e99e7aeb5e76995e569b1e72991e529aea79bb6389e4eda5e66985e469a1e62981e4299de5e97de3e97896a97805a97834a97803a975b36971b3296c22e9299609a47195505a430810889491250009540c2d811010010812010480430420c6080041)
instance adF(t i):bF (JZ t i) λR=>
 aq (i==(-1)) (
 R 0)<|
 aC t λa=>
 jn a 1 λb=>
 idx b i 5 λc=>
 gY c 4 λd=>
 R d:=bG Tryz.func300 (uz 0xa)
instance ade(t i):bF (Mk t i) λR=>
 bR<|
 aC t λa=>
 aC t λb=>
 jn a 1 λc=>
 jn b 1 λd=>
 idx c i 5 λe=>
 idx d i 5 λf=>
 gY e 2 λg=>
 gY f 3 λh=>
 bq (JZ t g) λj=>
 GS f 3 h<|
 td b 1 d<|
 bq (JZ t h) λk=>
 R (i64.wrap (j-k)):=bG Tryz.func273 (uz 0x209559a4394a633d3a8d149a922111e07d0a4a246a4e10d0cc0813e500b9402a50459400650009440c1001)
instance ab9(t i):bF (Ma t i) λR=>
 loop [.int .i64,.sl] (i,⟨none,0,0⟩) λa (b:Int×Sl)=>
 aq (b.1 !=(-1)) (
 new [aE b.1] λc=>
 mj 1 b.2 ⟨some ⟨c,0⟩,1,1⟩ λd=>
 aC t λe=>
 jn e 1 λf=>
 idx f b.1 5 λg=>
 gY g 2 λh=>
 a (h,d))<|
 R b.2:=bG Tryz.func209 (uz 0x7000081201105041086081001001)
instance adb(t i):bF (Gt t i) λR=>
 aC t λa=>
 jn a 1 λb=>
 idx b i 5 λc=>
 bR<|
 aC (some c) λd=>
 aC (some c) λe=>
 gY d 2 λf=>
 gY e 3 λg=>
 bq (JZ t f) λh=>
 GS e 3 g<|
 bq (JZ t g) λj=>
 aC (some c) λk=>
 so k 4 [aE (i64.wrap ((if j>h then j else h)+1))]<|
 R ():=bG Tryz.func272 (uz 0x2085f46a40b3e539d5cda5c60ca96306a8b14a1090c42250079440a5001944025283001)
instance ab8(t):bF (L_ t) λR=>
 aq t.isNone (
 R (-1))<|
 aC t λa=>
 gY a 2 λb=>
 R (i64.wrap (b-1)):=bG Tryz.func208 (uz 0xa)
instance adf(t i):bF (Ml t i) λR=>
 aC t λa=>
 jn a 1 λb=>
 idx b i 5 λc=>
 gY c 3 λd=>
 bR<|
 aC t λe=>
 aC t λf=>
 aC t λg=>
 jn e 1 λh=>
 jn f 1 λj=>
 jn g 1 λk=>
 idx k d 5 λl=>
 gY l 2 λm=>
 idx h i 5 λn=>
 so n 3 [aE m]<|
 idx j d 5 λo=>
 so o 2 [aE i]<|
 cj (Gt t i) λp=>
 cj (Gt t d) λq=>
 R d:=bG Tryz.func274 (uz 0xb8278d8aa65e56995a996256a515513a5141f78fa4d20330708b1810529453a500a94526500594112500094d0c1001001)
instance adg(t i):bF (Mm t i) λR=>
 aC t λa=>
 jn a 1 λb=>
 idx b i 5 λc=>
 gY c 2 λd=>
 bR<|
 aC t λe=>
 aC t λf=>
 aC t λg=>
 jn e 1 λh=>
 jn f 1 λj=>
 jn g 1 λk=>
 idx k d 5 λl=>
 gY l 3 λm=>
 idx h i 5 λn=>
 so n 2 [aE m]<|
 idx j d 5 λo=>
 so o 3 [aE i]<|
 cj (Gt t i) λp=>
 cj (Gt t d) λq=>
 R d:=bG Tryz.func275 (uz 0xb8278d8aa65e56995a996256a515513a5141f78fa4d20330708b1810529453a500a94526500594112500094d0c1001001)
instance aa8(t k):bF (Qd t k) λR=>
 new (Ks.mk cr k) λa=>
 bq (L_ t) λb=>
 loop [.sl,.int .i64] (⟨none,0,0⟩,b) λc (d:Sl×Int)=>
 aq (d.2 !=(-1)) (
 new [aE d.2] λe=>
 mj 1 d.1 ⟨some ⟨e,0⟩,1,1⟩ λf=>
 bR<|
 ld cr ⟨a,0⟩ λ(g:Int×Int)=>
 aC t λh=>
 jn h 1 λi=>
 idx i d.2 5 λj=>
 ld cr j λ(l:Int×Int)=>
 bq (Qn g l) λm=>
 aq (decide (m<0)) (
 aC t λn=>
 jn n 1 λo=>
 idx o d.2 5 λp=>
 gY p 2 λq=>
 c (f,q))<|
 aq (decide (m>0)) (
 aC t λr=>
 jn r 1 λs=>
 idx s d.2 5 λu=>
 gY u 3 λv=>
 c (f,v))<|
 R f)<|
 R d.1:=bG Tryz.func145 (uz 0x740281a2a665126a2075951a91030861650019430253c3040042201046105086081001001001001)
instance ach(a b):bF (Qn a b) λR=>
 new (Ks.mk cr a) λc=>
 new (Ks.mk cr b) λd=>
 bR<|
 bI ⟨c,0⟩ λe=>
 bI ⟨d,0⟩ λf=>
 bI ⟨c,1⟩ λg=>
 bI ⟨d,1⟩ λh=>
 bq (QA e f) λi=>
 ct ⟨d,1⟩ (Ks.mk cu h)<|
 ct ⟨c,1⟩ (Ks.mk cu g)<|
 bq (QA g h) λj=>
 new [aE i,aE j] λk=>
 bq (Vc ⟨some ⟨k,0⟩,2,2⟩) λl=>
 R l:=bG Tryz.func217 (uz 0x81c3263cb98e24aa8d2c9a88184a881830431e50859430a50809440c1001)
instance abg:bF T_ λR=>
 new [zu,zu] λa=>
 R (some ⟨a,0⟩):=bG Tryz.func154 (uz 8)
instance acp(r):bF (Qp r) λR=>
 aq r.isNone (
 R 0)<|
 aC r λa=>
 bI a λb=>
 R b:=bG Tryz.func224 (uz 0xa)
instance adp(r s):bF (Vg r s) λR=>
 new (Ks.mk aW s) λa=>
 loop cb false λb (c:Bool)=>
 join [] (λd=>
 aq (!r.isNone) (
 bI ⟨a,5⟩ λe=>
 aq (decide (e>0)) (
 d ())<|
 R c)<|
 R c) λ(f:Unit)=>
 bR<|
 bI ⟨a,2⟩ λg=>
 aC r λh=>
 dD h 1 λi=>
 aq (decide (g<i)) (
 R c)<|
 bI ⟨a,1⟩ λj=>
 aC r λk=>
 so k 1 [aB j]<|
 aC r λl=>
 bI l λm=>
 aC r λn=>
 st n [aB (u64.wrap (m+1))]<|
 R true:=bG Tryz.func284 (uz 0x1c81e058e1a91440c1002943025303041088004085046081001001001)
instance aaz:bF TQ λR=>
 new [zu,zu,zu,zu,bc false,zu,zu,zu,bc false,zu,zu] λa=>
 R (some ⟨a,0⟩):=bG Tryz.func104 (uz 8)
instance abu(d o a a'):bF (Ui d o a a') λR=>
 new (Ks.mk cw a') λb=>
 aq d.isNone (
 R ())<|
 aC d λc=>
 bI c λe=>
 aU (oH e a) λf=>
 aC d λg=>
 st g [aB f]<|
 aC d λh=>
 so h 1 [aB o]<|
 join [] (λi=>
 bR<|
 aC d λj=>
 aC d λk=>
 bI j λl=>
 dD k 3 λm=>
 aq (decide (l>m)) (
 aC d λn=>
 so n 3 [zu]<|
 i ())<|
 i ()) λ(p:Unit)=>
 aC d λq=>
 dD q 5 λr=>
 aU (oH r a) λs=>
 aC d λt=>
 so t 5 [aB s]<|
 join [] (λu=>
 join cb (λv=>
 bR<|
 aC d λw=>
 oI w 4 λx=>
 aq (!x) (
 v true)<|
 bI ⟨b,1⟩ λy=>
 aC d λz=>
 dD z 6 λA=>
 v (decide (y≥A))) λ(B:Bool)=>
 aq B (
 bR<|
 bI ⟨b,1⟩ λC=>
 bI ⟨b,2⟩ λD=>
 rC ⟨b,4⟩ λE=>
 aC d λF=>
 so F 6 [aB C]<|
 ct ⟨b,4⟩ (Ks.mk cb E)<|
 ct ⟨b,2⟩ (Ks.mk cu D)<|
 aC d λG=>
 so G 7 [aB D]<|
 ct ⟨b,4⟩ (Ks.mk cb E)<|
 aC d λH=>
 so H 8 [bc E]<|
 bR<|
 bI ⟨b,0⟩ λI=>
 bI ⟨b,3⟩ λJ=>
 bI ⟨b,0⟩ λK=>
 aU (y_ I J) λL=>
 ct ⟨b,0⟩ (Ks.mk cu K)<|
 aU (y_ o K) λM=>
 aC d λN=>
 so N 9 [aB L]<|
 aC d λO=>
 so O 10 [aB M]<|
 bI ⟨b,0⟩ λQ=>
 aC d λS=>
 so S 2 [aB Q]<|
 u ())<|
 u ()) λ(T:Unit)=>
 aC d λU=>
 so U 4 [bc true]<|
 R ():=bG Tryz.func166 (uz 0x2085b4aa81195f42548f95e5cea8d3112e56982aa5941aa2450c72250479471251c2940065000950fc306089952a8539604a54d195f5d0a9e3e574e95236571532a2ca4499481841c79471651c39400a5001940025f4304181f5cfa5e6573ad7573697173296d72e96972a96172295c02695c71e918510308100096d0c2f41100100047818508a470c60850401250009560c1004001201001)
instance acF(s flight):bF (UR s flight) λR=>
 aq (!s.isNone) (
 aC s λa=>
 bI a λb=>
 aU (oH b flight) λc=>
 aC s λd=>
 so d 3 [aB (if c>1 then c else 1)]<|
 R ())<|
 R ():=bG Tryz.func239 (uz 8)
instance aby(s aj flight):bF (L8 s aj flight) λR=>
 new [zu,zu,zu,zu,bc false] λa=>
 aq s.isNone (
 st ⟨a,0⟩ [zu,zu,zu,zu,bc false]<|
 ld cw ⟨a,0⟩ λb=>
 R b)<|
 join [] (λc=>
 aq (flight==0) (
 aC s λd=>
 so d 2 [aB aj]<|
 aC s λe=>
 so e 1 [aB aj]<|
 c ())<|
 c ()) λ(f:Unit)=>
 bR<|
 aC s λg=>
 aC s λh=>
 aC s λi=>
 aC s λj=>
 bI g λk=>
 dD h 1 λl=>
 dD i 2 λm=>
 dD j 3 λn=>
 st ⟨a,0⟩ [aB aj,aB k,aB l,aB m,bc (n !=0)]<|
 ld cw ⟨a,0⟩ λo=>
 R o:=bG Tryz.func170 (uz 0x823193aa27595514b545030810f2c70ce2860803650099401650019410254c3048004241001)
instance acB(s aj bo flight):bF (UQ s aj bo flight) λR=>
 new [zu,zu,zu,zu,zu,zu,zu,zu,bc false] λa=>
 aq s.isNone (
 st ⟨a,0⟩ [zu,zu,zu,zu,zu,zu,zu,zu,bc false]<|
 ld aW ⟨a,0⟩ λb=>
 R b)<|
 aC s λc=>
 bI c λd=>
 new [zu,zu,zu,zu,zu,zu,zu,zu,bc false] λe=>
 st ⟨e,0⟩ [aB aj,aB d,zu,zu,zu,zu,aB bo,aB flight,bc false]<|
 join [] (λf=>
 aC s λg=>
 lo Ek g 4 λ(h:LI)=>
 new [bc false,zu,zu,zu,bc false,zu,zu] λi=>
 st ⟨i,0⟩ (Ks.mk Ek h)<|
 rC ⟨i,0⟩ λj=>
 aq j (
 bR<|
 bI ⟨i,1⟩ λk=>
 bI ⟨i,2⟩ λl=>
 rC ⟨i,4⟩ λm=>
 bI ⟨i,6⟩ λn=>
 st ⟨e,5⟩ [aB k]<|
 ct ⟨i,6⟩ (Ks.mk cu n)<|
 ct ⟨i,4⟩ (Ks.mk cb m)<|
 ct ⟨i,2⟩ (Ks.mk cu l)<|
 st ⟨e,2⟩ [aB l]<|
 ct ⟨i,6⟩ (Ks.mk cu n)<|
 ct ⟨i,4⟩ (Ks.mk cb m)<|
 st ⟨e,8⟩ [bc m]<|
 ct ⟨i,6⟩ (Ks.mk cu n)<|
 st ⟨e,4⟩ [aB n]<|
 bR<|
 bI ⟨i,5⟩ λo=>
 bI ⟨i,3⟩ λp=>
 aU (y_ aj p) λq=>
 ct ⟨i,5⟩ (Ks.mk cu o)<|
 new [aB o,aB q] λr=>
 aU (Vq ⟨some ⟨r,0⟩,2,2⟩) λt=>
 st ⟨e,3⟩ [aB t]<|
 f ())<|
 f ()) λ(u:Unit)=>
 aC s λv=>
 so v 4 [bc false,zu,zu,zu,bc false,zu,zu]<|
 ld aW ⟨e,0⟩ λw=>
 st ⟨a,0⟩ (Ks.mk aW w)<|
 ld aW ⟨a,0⟩ λx=>
 R x:=bG Tryz.func235 (uz 0x802065826a2489571e65921aa55316a1012839410a52809670e07183ea24e95b58da893256942ea24a959489a892251c50c128694a12528294a0256c3041001001004001241001)
instance adA(l):bF (Vq l) λR=>
 loop [.int .u64,.int .i64] (0,0) λa (b:Int×Int)=>
 aq (decide (b.2<((l.len:Nat):Int))) (
 idx l b.2 1 λc=>
 bI c λd=>
 aq (decide (d≤b.1)) (
 a (b.1,(i64.wrap (b.2+1))))<|
 a (d,(i64.wrap (b.2+1))))<|
 R b.1:=bG Tryz.func295 (uz 0x70110811c1001048003086080041001001001)
instance abb(a b):bF (oH a b) λR=>
 call A_ lO [vu a,vu b,.lf (zu)] [qu,qu] λ(c:Int×Int)=>
 aq (decide (c.2>0)) (
 R 18446744073709551615)<|
 R c.1:=bG Tryz.func149 (uz 0x17)
instance ad3(a b):bF (Ms a b) λR=>
 bQ (QG a b) λ(c:Int×Int)=>
 aq (decide (c.1>0)) (
 R 18446744073709551615)<|
 R c.2:=bG Tryz.func324 (uz 0x17)
instance acz(a b):bF (y_ a b) λR=>
 R (u64.wrap (a-(if b<a then b else a))):=bG Tryz.func233 (uz 8)
instance ad9(b):bF (Zv b) λR=>
 loop [.sl,.sl] (b,⟨none,0,0⟩) λa (c:Sl×Sl)=>
 aq (decide (((c.1.len:Nat):Int)>0)) (
 aq (((c.2.len:Nat):Int)==300) (
 R c.2)<|
 new [zi,zi,zi,zi,zi,zi] λd=>
 DV c.1 none (some (if 6<((c.1.len:Nat):Int)then 6 else((c.1.len:Nat):Int))) none 1 λe=>
 loop ci 0 λf (g:Int)=>
 aq (decide (g<((e.len:Nat):Int))) (
 idx e g 1 λh=>
 ld [.int .u8] h λ(i:Int)=>
 eA (0≤g∧g<6)<|
 st ⟨d,0+g.toNat*1⟩ [aE (i64.wrap i)]<|
 f (i64.wrap (g+1)))<|
 DV c.1 (some (if 6<((c.1.len:Nat):Int)then 6 else((c.1.len:Nat):Int))) none none 1 λj=>
 ld Tx ⟨d,0⟩ λk=>
 bQ (ZE k) λ(l:fM)=>
 new [aE l.1,aE l.2.1,aE l.2.2.1,aB l.2.2.2.1,aB l.2.2.2.2.1,aY l.2.2.2.2.2.1,aE l.2.2.2.2.2.2.1,aE l.2.2.2.2.2.2.2.1,aE l.2.2.2.2.2.2.2.2.1,aE l.2.2.2.2.2.2.2.2.2.1,aB l.2.2.2.2.2.2.2.2.2.2.1,aB l.2.2.2.2.2.2.2.2.2.2.2.1,bc l.2.2.2.2.2.2.2.2.2.2.2.2.1,aE l.2.2.2.2.2.2.2.2.2.2.2.2.2.1,aE l.2.2.2.2.2.2.2.2.2.2.2.2.2.2] λm=>
 mj 15 c.2 ⟨some ⟨m,0⟩,1,1⟩ λn=>
 a (j,n))<|
 R c.2:=bG Tryz.func15 (uz 0x71c01c2047040041541182001040040048042201103100086081001001001)
instance ad_:bF YN λR=>
 new [zi,zi,zi,zi,zu,zu,bc false,zi,zi] λa=>
 st ⟨a,0⟩ [aE 3000,aE 15000,aE 100,aE 50,aB 10000000000,zu,bc false,aE 100000,aE 1000]<|
 ld aZ ⟨a,0⟩ λb=>
 R b:=bG Tryz.func16 (uz 8)
instance iq9(c l):bF (c9 c l) λR=>
 new (Ks.mk aZ c) λa=>
 ld aZ ⟨a,0⟩ λb=>
 bQ (Zy b) λ(d:bO×Int)=>
 aq (d.2 !=0) (
 new [aE d.2] λe=>
 R (⟨none,0,0⟩,⟨some ⟨e,0⟩,1,1⟩))<|
 loop Ii (⟨none,0,0⟩,⟨none,0,0⟩,0) λf (g:Il)=>
 aq (decide (g.2.2<((l.len:Nat):Int))) (
 idx l g.2.2 15 λh=>
 ld a_ h λi=>
 new [zi,zi,zi,zu,zu,aY ⟨none,0,0⟩,zi,zi,zi,zi,zu,zu,bc false,zi,zi] λj=>
 st ⟨j,0⟩ (Ks.mk a_ i)<|
 ld a_ ⟨j,0⟩ λk=>
 bQ (Zz d.1 k) λ(m:BH×Int)=>
 new [aY ⟨none,0,0⟩,aY ⟨none,0,0⟩,aY ⟨none,0,0⟩,zu] λn=>
 st ⟨n,0⟩ (Ks.mk dO m.1)<|
 ld dO ⟨n,0⟩ λo=>
 new [aY o.1,aY o.2.1,aY o.2.2.1,aB o.2.2.2] λp=>
 mj 4 g.1 ⟨some ⟨p,0⟩,1,1⟩ λq=>
 new [aE m.2] λr=>
 mj 1 g.2.1 ⟨some ⟨r,0⟩,1,1⟩ λs=>
 f (q,s,(i64.wrap (g.2.2+1))))<|
 R (g.1,g.2.1):=bG Tryz.func9 (uz 0x70080811c10010591091080c6080041001001241001001)
instance aea(outs errs):bF (Zw outs errs) λR=>
 Rv 72 [.ptr none,aY ⟨none,0,0⟩] λa=>
 loop ci 0 λb (c:Int)=>
 aq (decide (c<((errs.len:Nat):Int))) (
 idx errs c 1 λd=>
 dn d λe=>
 bQ (XM e) λ(f:ByteArray)=>
 call A_ de [.lf (.ptr (some ⟨a,0⟩)),.lf (.str f)] [qi,.lf .PG] λ(g:Int×Unit)=>
 join [] (λh=>
 aq (decide (c<((outs.len:Nat):Int))) (
 idx outs c 4 λi=>
 ld dO i λj=>
 new [aY ⟨none,0,0⟩,aY ⟨none,0,0⟩,aY ⟨none,0,0⟩,zu] λk=>
 st ⟨k,0⟩ (Ks.mk dO j)<|
 bR<|
 eP ⟨k,0⟩ λl=>
 eP ⟨k,1⟩ λm=>
 bQ (YP (⟨#[43]⟩:ByteArray) l) λ(n:ByteArray)=>
 ct ⟨k,1⟩ (Ks.mk cl m)<|
 bQ (YP (⟨#[45]⟩:ByteArray) m) λ(o:ByteArray)=>
 eA (((n.size+o.size:Nat):Int)≤i64.max)<|
 call A_ de [.lf (.ptr (some ⟨a,0⟩)),.lf (.str (n++o))] [qi,.lf .PG] λ(p:Int×Unit)=>
 bI ⟨k,3⟩ λq=>
 aq (q !=0) (
 bI ⟨k,3⟩ λr=>
 call A_ jR [vu r,.lf (.int .i64 10)] [.lf .str] λ(s:ByteArray)=>
 eA ((((⟨#[32,64]⟩:ByteArray).size+s.size:Nat):Int)≤i64.max)<|
 call A_ de [.lf (.ptr (some ⟨a,0⟩)),.lf (.str ((⟨#[32,64]⟩:ByteArray)++s))] [qi,.lf .PG] λ(t:Int×Unit)=>
 h ())<|
 h ())<|
 h ()) λ(u:Unit)=>
 call A_ de [.lf (.ptr (some ⟨a,0⟩)),.lf (.str (⟨#[10]⟩:ByteArray))] [qi,.lf .PG] λ(v:Int×Unit)=>
 b (i64.wrap (c+1)))<|
 call A_ ii [.lf (.ptr (some ⟨a,0⟩))] [.lf .str] λ(w:ByteArray)=>
 R w:=bG Tryz.func17 (uz 0x1c00002205c51ea5931a95459920a61012039480256830400410010040010010811c100104b046080041001001)
instance ael(d):bF (ZE d) λR=>
 new (Ks.mk Tx d) λa=>
 new [zi,zi,zi,zu,zu,aY ⟨none,0,0⟩,zi,zi,zi,zi,zu,zu,bc false,zi,zi] λb=>
 bR<|
 eA (0≤(0:Int)∧(0:Int)<6)<|
 eA (0≤(1:Int)∧(1:Int)<6)<|
 eA (0≤(2:Int)∧(2:Int)<6)<|
 eA (0≤(3:Int)∧(3:Int)<6)<|
 eA (0≤(4:Int)∧(4:Int)<6)<|
 eA (0≤(5:Int)∧(5:Int)<6)<|
 dn ⟨a,0+(0:Int).toNat*1⟩ λc=>
 dn ⟨a,0+(1:Int).toNat*1⟩ λe=>
 dn ⟨a,0+(2:Int).toNat*1⟩ λf=>
 dn ⟨a,0+(3:Int).toNat*1⟩ λg=>
 dn ⟨a,0+(4:Int).toNat*1⟩ λh=>
 dn ⟨a,0+(5:Int).toNat*1⟩ λi=>
 ct ⟨a,0+(5:Int).toNat*1⟩ (Ks.mk ci i)<|
 ct ⟨a,0+(4:Int).toNat*1⟩ (Ks.mk ci h)<|
 ct ⟨a,0+(3:Int).toNat*1⟩ (Ks.mk ci g)<|
 ct ⟨a,0+(2:Int).toNat*1⟩ (Ks.mk ci f)<|
 ct ⟨a,0+(1:Int).toNat*1⟩ (Ks.mk ci e)<|
 ct ⟨a,0+(5:Int).toNat*1⟩ (Ks.mk ci i)<|
 ct ⟨a,0+(4:Int).toNat*1⟩ (Ks.mk ci h)<|
 ct ⟨a,0+(3:Int).toNat*1⟩ (Ks.mk ci g)<|
 ct ⟨a,0+(2:Int).toNat*1⟩ (Ks.mk ci f)<|
 ct ⟨a,0+(5:Int).toNat*1⟩ (Ks.mk ci i)<|
 ct ⟨a,0+(4:Int).toNat*1⟩ (Ks.mk ci h)<|
 ct ⟨a,0+(3:Int).toNat*1⟩ (Ks.mk ci g)<|
 ct ⟨a,0+(5:Int).toNat*1⟩ (Ks.mk ci i)<|
 ct ⟨a,0+(4:Int).toNat*1⟩ (Ks.mk ci h)<|
 ct ⟨a,0+(5:Int).toNat*1⟩ (Ks.mk ci i)<|
 bQ YN λ(j:eF)=>
 new [zi,zi,zi,zu,zu,aY ⟨none,0,0⟩,zi,zi,zi,zi,zu,zu,bc false,zi,zi] λk=>
 st ⟨k,0⟩ [aE (c.tmod 10),aE (e.tmod 9),aE (i64.wrap (f*100)),aB (u64.wrap (i64.wrap ((i64.wrap (g*1000))+h))),aB (u64.wrap (i64.wrap ((i64.wrap (g*100000000))+(i64.wrap (h*1000000))))),aY ⟨none,0,0⟩,aE j.1,aE j.2.1,aE j.2.2.1,aE j.2.2.2.1,aB j.2.2.2.2.1,aB j.2.2.2.2.2.1,bc j.2.2.2.2.2.2.1,aE j.2.2.2.2.2.2.2.1,aE j.2.2.2.2.2.2.2.2]<|
 join [] (λl=>
 aq ((i.tmod 2)==1) (
 new [aB (u64.wrap (i64.wrap (h*100))),aB (u64.wrap (i64.wrap ((i64.wrap (h*100))+(i64.wrap (i*100)))))] λm=>
 st ⟨k,5⟩ [aY ⟨some ⟨m,0⟩,1,1⟩]<|
 l ())<|
 l ()) λ(n:Unit)=>
 st ⟨k,6⟩ [aE (i64.wrap (f*100))]<|
 st ⟨k,11⟩ [aB (u64.wrap (i64.wrap (g*10000)))]<|
 st ⟨k,8⟩ [aE h]<|
 st ⟨k,12⟩ [bc ((i.tmod 2)==1)]<|
 ld a_ ⟨k,0⟩ λo=>
 st ⟨b,0⟩ (Ks.mk a_ o)<|
 ld a_ ⟨b,0⟩ λp=>
 R p:=bG Tryz.func30 (uz 0x20800400181c4666909983e63ce98d3662cc98b2471430412a50489411a50449410a50409490c1001)
instance aem(v):bF (XM v) λR=>
 call A_ rQ [.lf (.int .i64 (if 0>v then 0 else v))] [.lf .str] λ(a:ByteArray)=>
 R a:=bG Tryz.func32 (uz 8)
instance aen(sign l):bF (YP sign l) λR=>
 Rv 72 [.ptr none,aY ⟨none,0,0⟩] λa=>
 loop ci 0 λb (c:Int)=>
 aq (decide (c<((l.len:Nat):Int))) (
 idx l c 5 λd=>
 ld aX d λe=>
 new [zi,zu,zi,zu,bc false] λf=>
 st ⟨f,0⟩ (Ks.mk aX e)<|
 bR<|
 eA ((((⟨#[32]⟩:ByteArray).size+sign.size:Nat):Int)≤i64.max)<|
 dn ⟨f,0⟩ λg=>
 bI ⟨f,1⟩ λh=>
 dn ⟨f,2⟩ λi=>
 bQ (XM g) λ(j:ByteArray)=>
 ct ⟨f,2⟩ (Ks.mk ci i)<|
 ct ⟨f,1⟩ (Ks.mk cu h)<|
 eA (((((⟨#[32]⟩:ByteArray)++sign).size+j.size:Nat):Int)≤i64.max)<|
 eA ((((((⟨#[32]⟩:ByteArray)++sign)++j).size+(⟨#[58]⟩:ByteArray).size:Nat):Int)≤i64.max)<|
 call A_ jR [vu h,.lf (.int .i64 10)] [.lf .str] λ(k:ByteArray)=>
 ct ⟨f,2⟩ (Ks.mk ci i)<|
 eA (((((((⟨#[32]⟩:ByteArray)++sign)++j)++(⟨#[58]⟩:ByteArray)).size+k.size:Nat):Int)≤i64.max)<|
 eA ((((((((⟨#[32]⟩:ByteArray)++sign)++j)++(⟨#[58]⟩:ByteArray))++k).size+(⟨#[58]⟩:ByteArray).size:Nat):Int)≤i64.max)<|
 bQ (XM i) λ(m:ByteArray)=>
 eA (((((((((⟨#[32]⟩:ByteArray)++sign)++j)++(⟨#[58]⟩:ByteArray))++k)++(⟨#[58]⟩:ByteArray)).size+m.size:Nat):Int)≤i64.max)<|
 call A_ de [.lf (.ptr (some ⟨a,0⟩)),.lf (.str (((((((⟨#[32]⟩:ByteArray)++sign)++j)++(⟨#[58]⟩:ByteArray))++k)++(⟨#[58]⟩:ByteArray))++m))] [qi,.lf .PG] λ(n:Int×Unit)=>
 b (i64.wrap (c+1)))<|
 call A_ ii [.lf (.ptr (some ⟨a,0⟩))] [.lf .str] λ(o:ByteArray)=>
 R o:=bG Tryz.func33 (uz 0x1c0820150a9f70fa5e3a62da5caa592661953c5a541263480c11cc9471e51c29400253430010811c100104a046080041001001)
instance abp(s):bF (Uf s) λR=>
 aq (Sl.isNil s) (
 R ⟨none,0,0⟩)<|
 new [] λa=>
 mj 5 ⟨some ⟨a,0⟩,0,0⟩ s λb=>
 R b:=bG Tryz.func162 (uz 0xa)
instance ace(slices):bF (UK slices) λR=>
 loop [.int .i64,.int .i64] (0,0) λa (b:Int×Int)=>
 aq (decide (b.2<((slices.len:Nat):Int))) (
 idx slices b.2 1 λc=>
 eP c λd=>
 aq (decide ((i64.wrap (b.1+((d.len:Nat):Int)))<0)) (
 gX)<|
 a ((i64.wrap (b.1+((d.len:Nat):Int))),(i64.wrap (b.2+1))))<|
 bQ (Va ⟨none,0,0⟩ b.1) λ(e:Sl)=>
 loop [.sl,.int .i64] (e,0) λf (g:Sl×Int)=>
 aq (decide (g.2<((slices.len:Nat):Int))) (
 idx slices g.2 1 λh=>
 eP h λi=>
 mj 1 g.1 i λj=>
 f (j,(i64.wrap (g.2+1))))<|
 R g.1:=bG Tryz.func214 (uz 0x70070811c100105b1060860800410010100811c100104b043086080041001001)
instance adm(s f):bF (QC s f) λR=>
 bq (Vs s f) λa=>
 R (decide (a≥0)):=bG Tryz.func281 (uz 8)
instance acg(s del):bF (Ql s del) λR=>
 bq (Vb s del) λa=>
 aq (a==(-1)) (
 R s)<|
 loop [.int .i64,.int .i64] (a,(i64.wrap (a+1))) λb (c:Int×Int)=>
 aq (decide (c.2<((s.len:Nat):Int))) (
 idx s c.2 1 λd=>
 dn d λe=>
 qa Tryz.prog del [vi e] [qb] λ(f:Bool)=>
 aq (!f) (
 idx s c.1 1 λg=>
 st g [aE e]<|
 b ((i64.wrap (c.1+1)),(i64.wrap (c.2+1))))<|
 b (c.1,(i64.wrap (c.2+1))))<|
 DV s (some c.1) none none 1 λh=>
 Y0 [zi] h<|
 DV s none (some c.1) none 1 λi=>
 R i:=bG Tryz.func216 (uz 0x800f081201046045086080041241001001)
instance ac8(s n):bF (Va s n) λR=>
 join [] (λa=>
 aq (decide (n<0)) (
 gX)<|
 a ()) λ(b:Unit)=>
 aq (decide ((i64.wrap (n-(i64.wrap (((s.cp:Nat):Int)-((s.len:Nat):Int)))))>0)) (
 DV s none (some ((s.cp:Nat):Int)) none 1 λc=>
 PX [zi] 1 c (i64.wrap (n-(i64.wrap (((s.cp:Nat):Int)-((s.len:Nat):Int))))) λd=>
 DV d none (some ((s.len:Nat):Int)) none 1 λe=>
 R e)<|
 R s:=bG Tryz.func268 (uz 0xd88004001)
instance adH(s f):bF (Vs s f) λR=>
 loop ci 0 λa (b:Int)=>
 aq (decide (b<((s.len:Nat):Int))) (
 idx s b 2 λc=>
 ld cr c λ(d:Int×Int)=>
 qa Tryz.prog f [.agg (Ks.mk cr d)] [qb] λ(e:Bool)=>
 aq e (
 R b)<|
 a (i64.wrap (b+1)))<|
 R (-1):=bG Tryz.func302 (uz 0x700f0811c1001048046080041001)
instance ac9(s f):bF (Vb s f) λR=>
 loop ci 0 λa (b:Int)=>
 aq (decide (b<((s.len:Nat):Int))) (
 idx s b 1 λc=>
 dn c λd=>
 qa Tryz.prog f [vi d] [qb] λ(e:Bool)=>
 aq e (
 R b)<|
 a (i64.wrap (b+1)))<|
 R (-1):=bG Tryz.func269 (uz 0x700f0811c1001048046080041001)
instance aeN(id c):bF (ZV id c) λR=>
 new (Ks.mk aZ c) λa=>
 dn ⟨a,8⟩ λb=>
 bR<|
 dn ⟨a,7⟩ λd=>
 lY (TO 1073741824) λe=>
 ct ⟨a,7⟩ (Ks.mk ci d)<|
 lY TP λf=>
 ct ⟨a,7⟩ (Ks.mk ci d)<|
 lY TQ λg=>
 ct ⟨a,7⟩ (Ks.mk ci d)<|
 lY (P5 (u64.wrap (if 9000<(if 100>b then 100 else b)then 9000 else(if 100>b then 100 else b)))) λh=>
 ct ⟨a,7⟩ (Ks.mk ci d)<|
 new [aE id,aE (if 9000<(if 100>b then 100 else b)then 9000 else(if 100>b then 100 else b)),aE d,.ptr e,.ptr f,.ptr g,.ptr h,zu,zu] λi=>
 R (some ⟨i,0⟩):=bG Tryz.func67 (uz 0x81c3266cb99a5cf38d2ca2bd6499868858848880c51e50c29450650009490c1001001)
instance aaE(s aj upto sacks):bF (TT s aj upto sacks) λR=>
 aq s.isNone (
 R 2)<|
 aC s λa=>
 ga a 4 λb=>
 bQ (Qh b upto sacks) λ(c:Sl×Int×Int)=>
 aq (c.2.2 !=0) (
 R c.2.2)<|
 aC s λd=>
 ga d 3 λe=>
 bq (Uh e upto) λf=>
 loop cl c.1 λg (h:Sl)=>
 aq (((h.len:Nat):Int)==0) (
 cj (Qi s aj c.2.1) λi=>
 R 0)<|
 idx h 0 9 λj=>
 ld aF j λk=>
 new [zu,zu,zu,zu,zu,zu,bc false,bc false,bc false] λl=>
 st ⟨l,0⟩ (Ks.mk aF k)<|
 DV h (some 1) none none 9 λm=>
 bR<|
 aC s λn=>
 bI ⟨l,1⟩ λo=>
 bI ⟨l,0⟩ λp=>
 ld cw ⟨l,2⟩ λq=>
 ga n 5 λr=>
 cj (Ui r aj (u64.wrap (o-p)) q) λt=>
 g m:=bG Tryz.func109 (uz 0x22071a5543320d95c9a422c818130a94c1e530594112500096a0c0040048042109046081001001241001241001)
instance aaG(s n):bF (P8 s n) λR=>
 join [] (λa=>
 aq s.isNone (
 R 2)<|
 aq (decide (n<1)) (
 R 1)<|
 aC s λb=>
 dD b 7 λc=>
 aq (decide ((u64.wrap n)>c)) (
 R 1)<|
 a ()) λ(d:Unit)=>
 aC s λe=>
 dD e 7 λf=>
 aC s λg=>
 so g 7 [aB (u64.wrap (f-(u64.wrap n)))]<|
 R 0:=bG Tryz.func111 (uz 0x8342004001)
instance aaH(d o):bF (TW d o) λR=>
 new [zi,zu,zi,zu,bc false] λa=>
 aq d.isNone (
 st ⟨a,0⟩ [zi,zu,zi,zu,bc false]<|
 ld aX ⟨a,0⟩ λb=>
 R (b,2))<|
 bq (Uk d) λc=>
 aq (c !=0) (
 st ⟨a,0⟩ [zi,zu,zi,zu,bc false]<|
 ld aX ⟨a,0⟩ λe=>
 R (e,c))<|
 bR<|
 aC d λf=>
 ga f 5 λg=>
 both (
 aU (Gq d) λh=>
 lI f 5 g<|
 both (
 bQ (L8 g o h) λ(i:pY)=>
 new [zu,zu,zu,zu,bc false] λj=>
 lI f 5 g<|
 st ⟨j,0⟩ (Ks.mk cw i)<|
 bR<|
 ld cw ⟨j,0⟩ λk=>
 aC d λl=>
 ga l 4 λm=>
 both (
 bQ (Ez m k) λ(n:(Int×Int)×Bool)=>
 new [zu,zu] λp=>
 lI l 4 m<|
 ct ⟨j,0⟩ (Ks.mk cw k)<|
 st ⟨p,0⟩ (Ks.mk cr n.1)<|
 join [] (λq=>
 aq (!n.2) (
 bR<|
 aC d λr=>
 ga r 3 λs=>
 bq (Bn d) λt=>
 lI r 3 s<|
 bQ (EA s t) λ(u:(Int×Int)×Bool)=>
 st ⟨p,0⟩ (Ks.mk cr u.1)<|
 bR<|
 ld cw ⟨j,0⟩ λv=>
 aC d λw=>
 bI ⟨p,0⟩ λx=>
 bI ⟨p,1⟩ λy=>
 ga w 4 λz=>
 bq (EB z x y v) λA=>
 q ())<|
 q ()) λ(B:Unit)=>
 bR<|
 aC d λC=>
 bI ⟨p,0⟩ λD=>
 bI ⟨p,1⟩ λE=>
 bI ⟨p,0⟩ λF=>
 aC d λG=>
 dn C λH=>
 dD G 8 λI=>
 new [zi,zu,zi,zu,bc false] λJ=>
 lJ G 8 I<|
 ct C (Ks.mk ci H)<|
 ct ⟨p,0⟩ (Ks.mk cu F)<|
 ct ⟨p,1⟩ (Ks.mk cu E)<|
 ct ⟨p,0⟩ (Ks.mk cu D)<|
 st ⟨J,0⟩ [aE H,aB D,aE (i64.wrap (u64.wrap (E-F))),aB (if I>o then I else o),bc n.2]<|
 bR<|
 bI ⟨J,3⟩ λK=>
 dn ⟨J,2⟩ λL=>
 aC d λM=>
 ga M 6 λN=>
 bQ (wP N) λ(O:gd)=>
 ct ⟨J,2⟩ (Ks.mk ci L)<|
 ct ⟨J,3⟩ (Ks.mk cu K)<|
 aU (Bm L O.2.2.1) λQ=>
 ct ⟨J,3⟩ (Ks.mk cu K)<|
 aU (oH K Q) λS=>
 aC d λT=>
 so T 8 [aB S]<|
 bR<|
 aC d λU=>
 dn ⟨J,2⟩ λV=>
 dD U 7 λX=>
 aC d λY=>
 so Y 7 [aB (u64.wrap (X+(u64.wrap V)))]<|
 ld aX ⟨J,0⟩ λZ=>
 st ⟨a,0⟩ (Ks.mk aX Z)<|
 ld aX ⟨a,0⟩ λa0=>
 R (a0,0))<|
 new [zu,zu] λa1=>
 lI l 4 m<|
 ct ⟨j,0⟩ (Ks.mk cw k)<|
 bQ (Ez m k) λ(a2:(Int×Int)×Bool)=>
 st ⟨a1,0⟩ (Ks.mk cr a2.1)<|
 join [] (λa3=>
 aq (!a2.2) (
 bR<|
 aC d λa4=>
 ga a4 3 λa5=>
 bq (Bn d) λa6=>
 lI a4 3 a5<|
 bQ (EA a5 a6) λ(a7:(Int×Int)×Bool)=>
 st ⟨a1,0⟩ (Ks.mk cr a7.1)<|
 bR<|
 ld cw ⟨j,0⟩ λa8=>
 aC d λa9=>
 bI ⟨a1,0⟩ λb0=>
 bI ⟨a1,1⟩ λb1=>
 ga a9 4 λb2=>
 bq (EB b2 b0 b1 a8) λb3=>
 a3 ())<|
 a3 ()) λ(b4:Unit)=>
 bR<|
 aC d λb5=>
 bI ⟨a1,0⟩ λb6=>
 bI ⟨a1,1⟩ λb7=>
 bI ⟨a1,0⟩ λb8=>
 aC d λb9=>
 dn b5 λc0=>
 dD b9 8 λc1=>
 new [zi,zu,zi,zu,bc false] λc2=>
 lJ b9 8 c1<|
 ct b5 (Ks.mk ci c0)<|
 ct ⟨a1,0⟩ (Ks.mk cu b8)<|
 ct ⟨a1,1⟩ (Ks.mk cu b7)<|
 ct ⟨a1,0⟩ (Ks.mk cu b6)<|
 st ⟨c2,0⟩ [aE c0,aB b6,aE (i64.wrap (u64.wrap (b7-b8))),aB (if c1>o then c1 else o),bc a2.2]<|
 bR<|
 bI ⟨c2,3⟩ λc3=>
 dn ⟨c2,2⟩ λc4=>
 aC d λc5=>
 ga c5 6 λc6=>
 bQ (wP c6) λ(c7:gd)=>
 ct ⟨c2,2⟩ (Ks.mk ci c4)<|
 ct ⟨c2,3⟩ (Ks.mk cu c3)<|
 aU (Bm c4 c7.2.2.1) λc8=>
 ct ⟨c2,3⟩ (Ks.mk cu c3)<|
 aU (oH c3 c8) λc9=>
 aC d λd0=>
 so d0 8 [aB c9]<|
 bR<|
 aC d λd1=>
 dn ⟨c2,2⟩ λd2=>
 dD d1 7 λd3=>
 aC d λd4=>
 so d4 7 [aB (u64.wrap (d3+(u64.wrap d2)))]<|
 ld aX ⟨c2,0⟩ λd5=>
 st ⟨a,0⟩ (Ks.mk aX d5)<|
 ld aX ⟨a,0⟩ λd6=>
 R (d6,0))<|
 new [zu,zu,zu,zu,bc false] λd7=>
 lI f 5 g<|
 bQ (L8 g o h) λ(d8:pY)=>
 st ⟨d7,0⟩ (Ks.mk cw d8)<|
 bR<|
 ld cw ⟨d7,0⟩ λd9=>
 aC d λe0=>
 ga e0 4 λe1=>
 both (
 bQ (Ez e1 d9) λ(e2:(Int×Int)×Bool)=>
 new [zu,zu] λe3=>
 lI e0 4 e1<|
 ct ⟨d7,0⟩ (Ks.mk cw d9)<|
 st ⟨e3,0⟩ (Ks.mk cr e2.1)<|
 join [] (λe4=>
 aq (!e2.2) (
 bR<|
 aC d λe5=>
 ga e5 3 λe6=>
 bq (Bn d) λe7=>
 lI e5 3 e6<|
 bQ (EA e6 e7) λ(e8:(Int×Int)×Bool)=>
 st ⟨e3,0⟩ (Ks.mk cr e8.1)<|
 bR<|
 ld cw ⟨d7,0⟩ λe9=>
 aC d λf0=>
 bI ⟨e3,0⟩ λf1=>
 bI ⟨e3,1⟩ λf2=>
 ga f0 4 λf3=>
 bq (EB f3 f1 f2 e9) λf4=>
 e4 ())<|
 e4 ()) λ(f5:Unit)=>
 bR<|
 aC d λf6=>
 bI ⟨e3,0⟩ λf7=>
 bI ⟨e3,1⟩ λf8=>
 bI ⟨e3,0⟩ λf9=>
 aC d λg0=>
 dn f6 λg1=>
 dD g0 8 λg2=>
 new [zi,zu,zi,zu,bc false] λg3=>
 lJ g0 8 g2<|
 ct f6 (Ks.mk ci g1)<|
 ct ⟨e3,0⟩ (Ks.mk cu f9)<|
 ct ⟨e3,1⟩ (Ks.mk cu f8)<|
 ct ⟨e3,0⟩ (Ks.mk cu f7)<|
 st ⟨g3,0⟩ [aE g1,aB f7,aE (i64.wrap (u64.wrap (f8-f9))),aB (if g2>o then g2 else o),bc e2.2]<|
 bR<|
 bI ⟨g3,3⟩ λg4=>
 dn ⟨g3,2⟩ λg5=>
 aC d λg6=>
 ga g6 6 λg7=>
 bQ (wP g7) λ(g8:gd)=>
 ct ⟨g3,2⟩ (Ks.mk ci g5)<|
 ct ⟨g3,3⟩ (Ks.mk cu g4)<|
 aU (Bm g5 g8.2.2.1) λg9=>
 ct ⟨g3,3⟩ (Ks.mk cu g4)<|
 aU (oH g4 g9) λh0=>
 aC d λh1=>
 so h1 8 [aB h0]<|
 bR<|
 aC d λh2=>
 dn ⟨g3,2⟩ λh3=>
 dD h2 7 λh4=>
 aC d λh5=>
 so h5 7 [aB (u64.wrap (h4+(u64.wrap h3)))]<|
 ld aX ⟨g3,0⟩ λh6=>
 st ⟨a,0⟩ (Ks.mk aX h6)<|
 ld aX ⟨a,0⟩ λh7=>
 R (h7,0))<|
 new [zu,zu] λh8=>
 lI e0 4 e1<|
 ct ⟨d7,0⟩ (Ks.mk cw d9)<|
 bQ (Ez e1 d9) λ(h9:(Int×Int)×Bool)=>
 st ⟨h8,0⟩ (Ks.mk cr h9.1)<|
 join [] (λi0=>
 aq (!h9.2) (
 bR<|
 aC d λi1=>
 ga i1 3 λi2=>
 bq (Bn d) λi3=>
 lI i1 3 i2<|
 bQ (EA i2 i3) λ(i4:(Int×Int)×Bool)=>
 st ⟨h8,0⟩ (Ks.mk cr i4.1)<|
 bR<|
 ld cw ⟨d7,0⟩ λi5=>
 aC d λi6=>
 bI ⟨h8,0⟩ λi7=>
 bI ⟨h8,1⟩ λi8=>
 ga i6 4 λi9=>
 bq (EB i9 i7 i8 i5) λj0=>
 i0 ())<|
 i0 ()) λ(j1:Unit)=>
 bR<|
 aC d λj2=>
 bI ⟨h8,0⟩ λj3=>
 bI ⟨h8,1⟩ λj4=>
 bI ⟨h8,0⟩ λj5=>
 aC d λj6=>
 dn j2 λj7=>
 dD j6 8 λj8=>
 new [zi,zu,zi,zu,bc false] λj9=>
 lJ j6 8 j8<|
 ct j2 (Ks.mk ci j7)<|
 ct ⟨h8,0⟩ (Ks.mk cu j5)<|
 ct ⟨h8,1⟩ (Ks.mk cu j4)<|
 ct ⟨h8,0⟩ (Ks.mk cu j3)<|
 st ⟨j9,0⟩ [aE j7,aB j3,aE (i64.wrap (u64.wrap (j4-j5))),aB (if j8>o then j8 else o),bc h9.2]<|
 bR<|
 bI ⟨j9,3⟩ λk0=>
 dn ⟨j9,2⟩ λk1=>
 aC d λk2=>
 ga k2 6 λk3=>
 bQ (wP k3) λ(k4:gd)=>
 ct ⟨j9,2⟩ (Ks.mk ci k1)<|
 ct ⟨j9,3⟩ (Ks.mk cu k0)<|
 aU (Bm k1 k4.2.2.1) λk5=>
 ct ⟨j9,3⟩ (Ks.mk cu k0)<|
 aU (oH k0 k5) λk6=>
 aC d λk7=>
 so k7 8 [aB k6]<|
 bR<|
 aC d λk8=>
 dn ⟨j9,2⟩ λk9=>
 dD k8 7 λl0=>
 aC d λl1=>
 so l1 7 [aB (u64.wrap (l0+(u64.wrap k9)))]<|
 ld aX ⟨j9,0⟩ λl2=>
 st ⟨a,0⟩ (Ks.mk aX l2)<|
 ld aX ⟨a,0⟩ λl3=>
 R (l3,0))<|
 new [zu,zu,zu,zu,bc false] λl4=>
 lI f 5 g<|
 aU (Gq d) λl5=>
 lI f 5 g<|
 bQ (L8 g o l5) λ(l6:pY)=>
 st ⟨l4,0⟩ (Ks.mk cw l6)<|
 bR<|
 ld cw ⟨l4,0⟩ λl7=>
 aC d λl8=>
 ga l8 4 λl9=>
 both (
 bQ (Ez l9 l7) λ(m0:(Int×Int)×Bool)=>
 new [zu,zu] λm1=>
 lI l8 4 l9<|
 ct ⟨l4,0⟩ (Ks.mk cw l7)<|
 st ⟨m1,0⟩ (Ks.mk cr m0.1)<|
 join [] (λm2=>
 aq (!m0.2) (
 bR<|
 aC d λm3=>
 ga m3 3 λm4=>
 bq (Bn d) λm5=>
 lI m3 3 m4<|
 bQ (EA m4 m5) λ(m6:(Int×Int)×Bool)=>
 st ⟨m1,0⟩ (Ks.mk cr m6.1)<|
 bR<|
 ld cw ⟨l4,0⟩ λm7=>
 aC d λm8=>
 bI ⟨m1,0⟩ λm9=>
 bI ⟨m1,1⟩ λn0=>
 ga m8 4 λn2=>
 bq (EB n2 m9 n0 m7) λn3=>
 m2 ())<|
 m2 ()) λ(n4:Unit)=>
 bR<|
 aC d λn5=>
 bI ⟨m1,0⟩ λn6=>
 bI ⟨m1,1⟩ λn7=>
 bI ⟨m1,0⟩ λn8=>
 aC d λo0=>
 dn n5 λo1=>
 dD o0 8 λo2=>
 new [zi,zu,zi,zu,bc false] λo3=>
 lJ o0 8 o2<|
 ct n5 (Ks.mk ci o1)<|
 ct ⟨m1,0⟩ (Ks.mk cu n8)<|
 ct ⟨m1,1⟩ (Ks.mk cu n7)<|
 ct ⟨m1,0⟩ (Ks.mk cu n6)<|
 st ⟨o3,0⟩ [aE o1,aB n6,aE (i64.wrap (u64.wrap (n7-n8))),aB (if o2>o then o2 else o),bc m0.2]<|
 bR<|
 bI ⟨o3,3⟩ λo4=>
 dn ⟨o3,2⟩ λo5=>
 aC d λo6=>
 ga o6 6 λo7=>
 bQ (wP o7) λ(o8:gd)=>
 ct ⟨o3,2⟩ (Ks.mk ci o5)<|
 ct ⟨o3,3⟩ (Ks.mk cu o4)<|
 aU (Bm o5 o8.2.2.1) λo9=>
 ct ⟨o3,3⟩ (Ks.mk cu o4)<|
 aU (oH o4 o9) λp0=>
 aC d λp1=>
 so p1 8 [aB p0]<|
 bR<|
 aC d λp2=>
 dn ⟨o3,2⟩ λp3=>
 dD p2 7 λp4=>
 aC d λp5=>
 so p5 7 [aB (u64.wrap (p4+(u64.wrap p3)))]<|
 ld aX ⟨o3,0⟩ λp6=>
 st ⟨a,0⟩ (Ks.mk aX p6)<|
 ld aX ⟨a,0⟩ λp7=>
 R (p7,0))<|
 new [zu,zu] λp8=>
 lI l8 4 l9<|
 ct ⟨l4,0⟩ (Ks.mk cw l7)<|
 bQ (Ez l9 l7) λ(p9:(Int×Int)×Bool)=>
 st ⟨p8,0⟩ (Ks.mk cr p9.1)<|
 join [] (λq0=>
 aq (!p9.2) (
 bR<|
 aC d λq1=>
 ga q1 3 λq2=>
 bq (Bn d) λq3=>
 lI q1 3 q2<|
 bQ (EA q2 q3) λ(q4:(Int×Int)×Bool)=>
 st ⟨p8,0⟩ (Ks.mk cr q4.1)<|
 bR<|
 ld cw ⟨l4,0⟩ λq6=>
 aC d λq7=>
 bI ⟨p8,0⟩ λq8=>
 bI ⟨p8,1⟩ λq9=>
 ga q7 4 λr0=>
 bq (EB r0 q8 q9 q6) λr1=>
 q0 ())<|
 q0 ()) λ(r2:Unit)=>
 bR<|
 aC d λr4=>
 bI ⟨p8,0⟩ λr5=>
 bI ⟨p8,1⟩ λr6=>
 bI ⟨p8,0⟩ λr9=>
 aC d λs0=>
 dn r4 λs1=>
 dD s0 8 λs2=>
 new [zi,zu,zi,zu,bc false] λs3=>
 lJ s0 8 s2<|
 ct r4 (Ks.mk ci s1)<|
 ct ⟨p8,0⟩ (Ks.mk cu r9)<|
 ct ⟨p8,1⟩ (Ks.mk cu r6)<|
 ct ⟨p8,0⟩ (Ks.mk cu r5)<|
 st ⟨s3,0⟩ [aE s1,aB r5,aE (i64.wrap (u64.wrap (r6-r9))),aB (if s2>o then s2 else o),bc p9.2]<|
 bR<|
 bI ⟨s3,3⟩ λs4=>
 dn ⟨s3,2⟩ λs5=>
 aC d λs6=>
 ga s6 6 λs7=>
 bQ (wP s7) λ(s8:gd)=>
 ct ⟨s3,2⟩ (Ks.mk ci s5)<|
 ct ⟨s3,3⟩ (Ks.mk cu s4)<|
 aU (Bm s5 s8.2.2.1) λs9=>
 ct ⟨s3,3⟩ (Ks.mk cu s4)<|
 aU (oH s4 s9) λt0=>
 aC d λt1=>
 so t1 8 [aB t0]<|
 bR<|
 aC d λt2=>
 dn ⟨s3,2⟩ λt3=>
 dD t2 7 λt4=>
 aC d λt5=>
 so t5 7 [aB (u64.wrap (t4+(u64.wrap t3)))]<|
 ld aX ⟨s3,0⟩ λt6=>
 st ⟨a,0⟩ (Ks.mk aX t6)<|
 ld aX ⟨a,0⟩ λt7=>
 R (t7,0):=bG Tryz.func112 (uz 0x781a60aa89448957507a431821412849400257bf0c181f74fa8e44d95c4cca9b54ba8a6499881c610200594a0e52819400253ff0c1824295a948a389c5944f585d46940b0cf6982a908e24714125294036504c94822520694812500097a0c10206585942720c21c50472252069481250009700e06082aa4099502251d6506a951660c20401250009670c104004012060b99720aa9022540794655416a2628182e65c82aa2624089501e5195505ac30811c494002570306060726a5d5507b961a62228181c9a975541ee2228181c9a888975541ef5869c30810059411250009530c13c1241001)
instance abz(s):bF (Gq s) λR=>
 aq s.isNone (
 R 0)<|
 aC s λa=>
 ga a 4 λb=>
 aU (UW b) λc=>
 R c:=bG Tryz.func171 (uz 0xa)
instance aaF(s aj):bF (TU s aj) λR=>
 aq s.isNone (
 R 2)<|
 aC s λa=>
 ga a 4 λb=>
 aU (Uj b) λc=>
 cj (Qi s aj c) λd=>
 R 0:=bG Tryz.func110 (uz 0x16)
instance afc(s):bF (Z_ s) λR=>
 new [zi,zi,zu,zu,zu,zu,zu,zu,bc false,bc false] λa=>
 aq s.isNone (
 st ⟨a,0⟩ [zi,zi,zu,zu,zu,zu,zu,zu,bc false,bc false]<|
 ld eH ⟨a,0⟩ λb=>
 R b)<|
 aC s λc=>
 ga c 6 λd=>
 bQ (wP d) λ(e:gd)=>
 st ⟨a,0⟩ (Ks.mk eH e)<|
 ld eH ⟨a,0⟩ λf=>
 R f:=bG Tryz.func99 (uz 0xa)
instance abC(s):bF (Bn s) λR=>
 aq s.isNone (
 R 0)<|
 bR<|
 aC s λa=>
 aC s λb=>
 ga a 6 λc=>
 gY b 1 λd=>
 bQ (wP c) λ(e:gd)=>
 GS b 1 d<|
 bq (UX e.2.2.1 d) λf=>
 R f:=bG Tryz.func174 (uz 0x203cb98e28aa852049890c80870401a50009440c1241001)
instance aaD(s n):bF (TS s n) λR=>
 aq s.isNone (
 R 2)<|
 aC s λa=>
 ga a 3 λb=>
 bq (Ug b n) λc=>
 R c:=bG Tryz.func108 (uz 0xa)
instance abv(s aj bo):bF (Qi s aj bo) λR=>
 bR<|
 aC s λa=>
 aC s λb=>
 ga a 6 λc=>
 ga b 5 λd=>
 aU (Gq s) λe=>
 lI b 5 d<|
 lI a 6 c<|
 bQ (UQ d aj bo e) λ(f:jT)=>
 lI a 6 c<|
 bq (Bn s) λg=>
 lI a 6 c<|
 bQ (Qr c f (u64.wrap g)) λ(h:gd)=>
 R ():=bG Tryz.func167 (uz 0x2081d250b8f78e99c3ce34cc9b2e61c318214100d9402a5089941225004940025143)
instance abx(d):bF (Uk d) λR=>
 aC d λa=>
 ga a 4 λb=>
 bQ (Qs b) λ(c:(Int×Int)×Bool)=>
 new [zu,zu] λe=>
 st ⟨e,0⟩ (Ks.mk cr c.1)<|
 aC d λf=>
 ga f 6 λg=>
 bQ (wP g) λ(h:gd)=>
 new [zi,zi,zu,zu,zu,zu,zu,zu,bc false,bc false] λi=>
 st ⟨i,0⟩ (Ks.mk eH h)<|
 bR<|
 bI ⟨i,3⟩ λj=>
 aU (Gq d) λk=>
 ct ⟨i,3⟩ (Ks.mk cu j)<|
 join cb (λl=>
 aq (!c.2) (
 aC d λm=>
 ga m 3 λn=>
 aU (Qt n) λo=>
 l (o==0))<|
 l false) λ(p:Bool)=>
 aq p (
 aq (decide (k<j)) (
 bR<|
 aC d λq=>
 ga q 5 λr=>
 aU (Gq d) λs=>
 lI q 5 r<|
 cj (UR r s) λt=>
 R 7)<|
 R 7)<|
 join cb (λu=>
 bR<|
 aq (!(decide (k<j))) (
 u true)<|
 aC d λv=>
 bI ⟨i,2⟩ λw=>
 aC d λx=>
 dD v 7 λy=>
 gY x 2 λz=>
 bq (Bn d) λA=>
 GS x 2 z<|
 lJ v 7 y<|
 ct ⟨i,2⟩ (Ks.mk cu w)<|
 aU (UT w A z) λB=>
 lJ v 7 y<|
 cg (US y B) λC=>
 u (!C)) λ(D:Bool)=>
 aq D (
 R 5)<|
 aq (!c.2) (
 aC d λE=>
 ga E 4 λF=>
 bq (UU F) λG=>
 aq (decide (G≥4096)) (
 R 5)<|
 R 0)<|
 R 0:=bG Tryz.func169 (uz 0x1d38234e68934a98534698174d0b9f6d94cfc9a4caa9e4cea564c6a5d4cda554c5a5c4cca584c8a544c4a5300ba53009a53147a53003a42046025b030ac0441c0816506a951660c20401250009640c1001041002641102060a059a7944a640669839450a50000c1001001001)
instance adO(bw bT gain):bF (QJ bw bT gain) λR=>
 new [aB bT,aB 1000000000,aB gain,aB 256] λa=>
 aU (Qq bw ⟨some ⟨a,0⟩,2,2⟩) λb=>
 R b:=bG Tryz.func309 (uz 8)
instance abm(bw gain):bF (Qg bw gain) λR=>
 new [aB gain,aB 256] λa=>
 aU (Qq bw ⟨some ⟨a,0⟩,1,1⟩) λb=>
 R b:=bG Tryz.func159 (uz 8)
instance adT(bw bT gain tso bt):bF (Vx bw bT gain tso bt) λR=>
 aq (bT==0) (
 aU (Ms 10 bt) λa=>
 R a)<|
 aU (QJ bw bT gain) λb=>
 aU (Ms 3 tso) λc=>
 aU (oH b c) λd=>
 aU (Ms 4 bt) λe=>
 R (if e>d then e else d):=bG Tryz.func314 (uz 0xa)
instance acu(v l):bF (Qq v l) λR=>
 loop [.int .u64,.int .i64] (v,0) λa (b:Int×Int)=>
 aq (decide (b.2<((l.len:Nat):Int))) (
 idx l b.2 2 λc=>
 ld cr c λ(d:Int×Int)=>
 new [zu,zu] λe=>
 st ⟨e,0⟩ (Ks.mk cr d)<|
 aq (b.1==0) (
 R b.1)<|
 eA (0≤(0:Int)∧(0:Int)<2)<|
 bI ⟨e,0+(0:Int).toNat*1⟩ λf=>
 eA (0≤(1:Int)∧(1:Int)<2)<|
 bI ⟨e,0+(1:Int).toNat*1⟩ λg=>
 aU (EC b.1 f g) λh=>
 a (h,(i64.wrap (b.2+1))))<|
 R b.1:=bG Tryz.func228 (uz 0x70110811c1001049000086080041001001)
instance acL(ba bt):bF (UX ba bt) λR=>
 eA ((u64.wrap (if(9000:Int)<(if(100:Int)>bt then(100:Int)else bt)then(9000:Int)else(if(100:Int)>bt then(100:Int)else bt)))≠0)<|
 loop cu (u64.wrap ((u64.wrap (ba.tdiv 1024)).tdiv (u64.wrap (if 9000<(if 100>bt then 100 else bt)then 9000 else(if 100>bt then 100 else bt))))) λa (b:Int)=>
 aq (decide (b<2)) (
 a 2)<|
 eA ((u64.wrap (if(9000:Int)<(if(100:Int)>bt then(100:Int)else bt)then(9000:Int)else(if(100:Int)>bt then(100:Int)else bt)))≠0)<|
 aq (decide (b>(u64.wrap ((65536:Int).tdiv (u64.wrap (if 9000<(if 100>bt then 100 else bt)then 9000 else(if 100>bt then 100 else bt))))))) (
 eA ((u64.wrap (if(9000:Int)<(if(100:Int)>bt then(100:Int)else bt)then(9000:Int)else(if(100:Int)>bt then(100:Int)else bt)))≠0)<|
 a (u64.wrap ((65536:Int).tdiv (u64.wrap (if 9000<(if 100>bt then 100 else bt)then 9000 else(if 100>bt then 100 else bt))))))<|
 R (i64.wrap (u64.wrap (b*(u64.wrap (if 9000<(if 100>bt then 100 else bt)then 9000 else(if 100>bt then 100 else bt)))))):=bG Tryz.func245 (uz 0x1d0082006046081001001001001)
instance acH(ba tso most):bF (UT ba tso most) λR=>
 loop [.int .u64,.int .i64] (0,0) λa (b:Int×Int)=>
 aq (decide (b.2<2)) (
 X3 [.int .u64] [aB (u64.wrap (2*(u64.wrap (if 0>tso then 0 else tso)))),aB (if(u64.wrap (if 0>most then 0 else most))<(u64.wrap (ba.tdiv 1024))then(u64.wrap (if 0>most then 0 else most))else(u64.wrap (ba.tdiv 1024)))] b.2 2 1 λ(c:Int)=>
 aq (decide (c≤b.1)) (
 a (b.1,(i64.wrap (b.2+1))))<|
 a (c,(i64.wrap (b.2+1))))<|
 R b.1:=bG Tryz.func241 (uz 0x70110811c1001055007086080041001001001)
instance acG(out limit):bF (US out limit) λR=>
 R (decide (out<limit)):=bG Tryz.func240 (uz 8)
instance adi(hi lo c):bF (Ve hi lo c) λR=>
 aq (c==0) (
 R (0,1))<|
 aq (decide (hi≥c)) (
 R (0,3))<|
 loop SD (hi,lo,0,0) λa (b:xJ)=>
 aq (b.2.2.2==64) (
 R (b.2.2.1,0))<|
 eA (0≤(63:Int))<|
 eA (0≤(1:Int))<|
 eA (0≤(63:Int))<|
 eA (0≤(1:Int))<|
 eA (0≤(1:Int))<|
 aq (((b.1.fdiv (2^min (63:Int).toNat u64.bits))==0)&&(decide ((u64.wrap (BitVec.ofInt u64.bits (u64.wrap (b.1*2^min (1:Int).toNat u64.bits))|||BitVec.ofInt u64.bits (b.2.1.fdiv (2^min (63:Int).toNat u64.bits))).toNat)<c))) (
 a ((u64.wrap (BitVec.ofInt u64.bits (u64.wrap (b.1*2^min (1:Int).toNat u64.bits))|||BitVec.ofInt u64.bits (b.2.1.fdiv (2^min (63:Int).toNat u64.bits))).toNat),(u64.wrap (b.2.1*2^min (1:Int).toNat u64.bits)),(u64.wrap (b.2.2.1*2^min (1:Int).toNat u64.bits)),(i64.wrap (b.2.2.2+1))))<|
 a ((u64.wrap ((u64.wrap (BitVec.ofInt u64.bits (u64.wrap (b.1*2^min (1:Int).toNat u64.bits))|||BitVec.ofInt u64.bits (b.2.1.fdiv (2^min (63:Int).toNat u64.bits))).toNat)-c)),(u64.wrap (b.2.1*2^min (1:Int).toNat u64.bits)),(u64.wrap (BitVec.ofInt u64.bits (u64.wrap (b.2.2.1*2^min (1:Int).toNat u64.bits))|||BitVec.ofInt u64.bits 1).toNat),(i64.wrap (b.2.2.2+1))):=bG Tryz.func277 (uz 0x1f708124020004000418204004004004d081001)
instance adh(a b):bF (Vd a b) λR=>
 bQ (QG a b) λ(c:Int×Int)=>
 R (c.1,c.2):=bG Tryz.func276 (uz 8)
instance acj(a b c):bF (EC a b c) λR=>
 bQ (Vd a b) λ(d:Int×Int)=>
 aq ((d.1==0)&&(d.2==0)) (
 R 0)<|
 bQ (Ve d.1 d.2 c) λ(e:Int×Int)=>
 aq (e.2 !=0) (
 R 18446744073709551615)<|
 R e.1:=bG Tryz.func220 (uz 0x19)
instance adk(m):bF (Mn m) λR=>
 aq m.isNone (
 R 0)<|
 aC m λa=>
 eA (0≤(0:Int)∧(0:Int)<3)<|
 bI ⟨a.b,a.o+1+(0:Int).toNat*2+1⟩ λc=>
 R c:=bG Tryz.func279 (uz 0xa)
instance adZ(m t v):bF (VC m t v) λR=>
 aq m.isNone (
 R ())<|
 aC m λa=>
 dD a 7 λb=>
 aC m λc=>
 so c 7 [aB (if t>b then t else b)]<|
 call A_ 321 [vp m,.lf (zi),.agg [aB t,aB v]] [] λ(d:Unit)=>
 R ():=bG Tryz.func320 (uz 0x12)
instance adL(d o a):bF (Vu d o a) λR=>
 aq d.isNone (
 R 0)<|
 aC d λc=>
 dD c 7 λe=>
 aC d λf=>
 so f 7 [aB (if o>e then o else e)]<|
 aC d λg=>
 dD g 7 λh=>
 new [zu,zu] λi=>
 st ⟨i,0⟩ [aB h,aB a]<|
 join cb (λj=>
 bR<|
 aC d λk=>
 eA (0≤(0:Int)∧(0:Int)<3)<|
 bI ⟨k.b,k.o+1+(0:Int).toNat*2+1⟩ λl=>
 aq (decide (a≥l)) (
 j true)<|
 bI ⟨i,0⟩ λm=>
 aC d λn=>
 aC d λp=>
 eA (0≤(2:Int)∧(2:Int)<3)<|
 bI p λq=>
 ld cr ⟨n.b,n.o+1+(2:Int).toNat*2⟩ λ(r:Int×Int)=>
 cg (Gu m r q) λs=>
 j (!s)) λ(t:Bool)=>
 aq t (
 bI ⟨i,0⟩ λu=>
 cj (VC d u a) λv=>
 R a)<|
 join [] (λw=>
 loop ci 0 λx (y:Int)=>
 aq (decide (y<3)) (
 join cb (λz=>
 aq (decide (y>0)) (
 aC d λA=>
 eA (0≤y∧y<3)<|
 bI ⟨A.b,A.o+1+y.toNat*2+1⟩ λB=>
 z (decide (a≥B)))<|
 z false) λ(C:Bool)=>
 aq C (
 ld cr ⟨i,0⟩ λ(D:Int×Int)=>
 cj (Mr d y D) λE=>
 w ())<|
 x (i64.wrap (y+1)))<|
 w ()) λ(F:Unit)=>
 join [] (λG=>
 bR<|
 bI ⟨i,0⟩ λH=>
 aC d λI=>
 aC d λJ=>
 eA (0≤(0:Int)∧(0:Int)<3)<|
 bI J λK=>
 ld cr ⟨I.b,I.o+1+(0:Int).toNat*2⟩ λ(L:Int×Int)=>
 cg (Gu H L K) λM=>
 aq (!M) (
 ld cr ⟨i,0⟩ λ(N:Int×Int)=>
 cj (QM d N) λO=>
 bR<|
 bI ⟨i,0⟩ λQ=>
 aC d λS=>
 aC d λT=>
 eA (0≤(0:Int)∧(0:Int)<3)<|
 bI T λU=>
 ld cr ⟨S.b,S.o+1+(0:Int).toNat*2⟩ λ(V:Int×Int)=>
 cg (Gu Q V U) λX=>
 aq (!X) (
 ld cr ⟨i,0⟩ λ(Y:Int×Int)=>
 cj (QM d Y) λZ=>
 G ())<|
 G ())<|
 join cb (λa0=>
 bR<|
 aC d λa1=>
 aC d λa2=>
 eA (0≤(1:Int)∧(1:Int)<3)<|
 eA (0≤(0:Int)∧(0:Int)<3)<|
 bI ⟨a1.b,a1.o+1+(1:Int).toNat*2⟩ λa3=>
 bI ⟨a2.b,a2.o+1+(0:Int).toNat*2⟩ λa4=>
 aq (a3==a4) (
 bI ⟨i,0⟩ λa5=>
 aC d λa6=>
 aC d λa7=>
 eA (0≤(0:Int)∧(0:Int)<3)<|
 bI a7 λa8=>
 ld cr ⟨a6.b,a6.o+1+(0:Int).toNat*2⟩ λ(a9:Int×Int)=>
 cg (Gu a5 a9 (u64.wrap (a8.tdiv 4))) λb0=>
 a0 (!b0))<|
 a0 false) λ(b1:Bool)=>
 aq b1 (
 ld cr ⟨i,0⟩ λ(b2:Int×Int)=>
 cj (Mr d 1 b2) λb3=>
 G ())<|
 join cb (λb4=>
 bR<|
 aC d λb5=>
 aC d λb6=>
 eA (0≤(2:Int)∧(2:Int)<3)<|
 eA (0≤(1:Int)∧(1:Int)<3)<|
 bI ⟨b5.b,b5.o+1+(2:Int).toNat*2⟩ λb7=>
 bI ⟨b6.b,b6.o+1+(1:Int).toNat*2⟩ λb8=>
 aq (b7==b8) (
 bI ⟨i,0⟩ λb9=>
 aC d λc0=>
 aC d λc1=>
 eA (0≤(0:Int)∧(0:Int)<3)<|
 bI c1 λc2=>
 ld cr ⟨c0.b,c0.o+1+(0:Int).toNat*2⟩ λ(c3:Int×Int)=>
 cg (Gu b9 c3 (u64.wrap (c2.tdiv 2))) λc4=>
 b4 (!c4))<|
 b4 false) λ(c5:Bool)=>
 aq c5 (
 ld cr ⟨i,0⟩ λ(c6:Int×Int)=>
 cj (Mr d 2 c6) λc7=>
 G ())<|
 G ()) λ(c8:Unit)=>
 aC d λc9=>
 eA (0≤(0:Int)∧(0:Int)<3)<|
 bI ⟨c9.b,c9.o+1+(0:Int).toNat*2+1⟩ λd0=>
 R d0:=bG Tryz.func306 (uz 0x1c782d766b1e729ade6e9aa581e6b2a5e66991e529a1e6298de4e99de5e989e4a999e5a985e4697de3e97805697804297873a935c58ca4b14a1090c80870401a5000950fff0c243ffc1100060b5d9ac79ca6b79ba6a96079aca9799a64794a68798a63793a67797a62792a66796a61791a5f78fa5e015a5e010a5e1cea4d7163292c52842432021c1006940025bbf0c2bbf0441e031b5d22ee18a1491080c10079400a51c095dfc304004181d36631b5d22ee18a1491080c10079400a51c094dfc304200400c0021ff0440010811c100107704608004010004e826656a65655a6481b654c9f64fa63653a5e64ea62652a5d64da61651a5c64ca5a64aa59010a5900ba591c9a485d11e91851030800650809590c2c01101001001241001)
instance ad0(m from' s):bF (Mr m from' s) λR=>
 new (Ks.mk cr s) λa=>
 aC m λc=>
 DV ⟨some ⟨c.b,c.o+1⟩,3,3⟩ (some from') none none 2 λd=>
 loop ci 0 λe (f:Int)=>
 aq (decide (f<((d.len:Nat):Int))) (
 bR<|
 ld cr ⟨a,0⟩ λ(g:Int×Int)=>
 aC m λh=>
 eA (0≤(i64.wrap (from'+f))∧(i64.wrap (from'+f))<3)<|
 st ⟨h.b,h.o+1+(i64.wrap (from'+f)).toNat*2⟩ (Ks.mk cr g)<|
 e (i64.wrap (f+1)))<|
 R ():=bG Tryz.func321 (uz 0x827908aa68c7a651a5805962843a451251829410000c0042047040041341182001001)
instance ad1(m s):bF (QM m s) λR=>
 new (Ks.mk cr s) λa=>
 bR<|
 ld cr ⟨a,0⟩ λ(c:Int×Int)=>
 aC m λd=>
 aC m λe=>
 aC m λf=>
 aC m λg=>
 aC m λh=>
 eA (0≤(1:Int)∧(1:Int)<3)<|
 eA (0≤(2:Int)∧(2:Int)<3)<|
 ld cr ⟨d.b,d.o+1+(1:Int).toNat*2⟩ λ(i:Int×Int)=>
 ld cr ⟨e.b,e.o+1+(2:Int).toNat*2⟩ λ(j:Int×Int)=>
 eA (0≤(0:Int)∧(0:Int)<3)<|
 st ⟨f.b,f.o+1+(0:Int).toNat*2⟩ (Ks.mk cr i)<|
 ct ⟨a,0⟩ (Ks.mk cr c)<|
 eA (0≤(1:Int)∧(1:Int)<3)<|
 st ⟨g.b,g.o+1+(1:Int).toNat*2⟩ (Ks.mk cr j)<|
 ct ⟨a,0⟩ (Ks.mk cr c)<|
 eA (0≤(2:Int)∧(2:Int)<3)<|
 st ⟨h.b,h.o+1+(2:Int).toNat*2⟩ (Ks.mk cr c)<|
 R ():=bG Tryz.func322 (uz 0x827799aa662591d56a8d49612d1a903072c69579624e53ca1465a51529443a52440cd9402250039400a50019400250c3001)
instance abf(kP):bF (T9 kP) λR=>
 new [aB kP,zu,zu,zu,zu,zu,zu,zu] λa=>
 R (some ⟨a,0⟩):=bG Tryz.func153 (uz 0xb)
instance adY(t s kP):bF (Gu t s kP) λR=>
 new (Ks.mk cr s) λa=>
 bI ⟨a,0⟩ λb=>
 R (decide ((u64.wrap (t-(if b<t then b else t)))≤kP)):=bG Tryz.func319 (uz 8)
end Go.X
