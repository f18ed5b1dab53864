/- Readings of functions. -/
import Derived.Test.YtniflenfpbbikaaGreatDoorG
set_option linter.all false
namespace Go.X
open IntKind (u64 i64)
open Go.Proofs
instance adf(t i):bG (Gr t i) λR=>
 az t λa=>
 jn a 1 λb=>
 idx b i 5 λc=>
 bQ<|
 az (some c) λd=>
 az (some c) λe=>
 gV d 2 λf=>
 gV e 3 λg=>
 bo (JL t f) λh=>
 EW e 3 g<|
 bo (JL t g) λj=>
 az (some c) λk=>
 so k 4 [aJ (i64.wrap ((if j>h then j else h)+1))]<|
 R ():=bI Tryz.func272 (uz 0x2085f46a40b3e539d5cda5c60ca96306a8b14a1090c42250079440a5001944025283001)
instance ab_(t):bG (L0 t) λR=>
 ar t.isNone (
 R (-1))<|
 az t λa=>
 gV a 2 λb=>
 R (i64.wrap (b-1)):=bI Tryz.func208 (uz 0xa)
instance adh(t i):bG (L_ t i) λR=>
 az t λa=>
 jn a 1 λb=>
 idx b i 5 λc=>
 gV c 3 λd=>
 bQ<|
 az t λe=>
 az t λf=>
 az t λg=>
 jn e 1 λh=>
 jn f 1 λj=>
 jn g 1 λk=>
 idx k d 5 λl=>
 gV l 2 λm=>
 idx h i 5 λn=>
 so n 3 [aJ m]<|
 idx j d 5 λo=>
 so o 2 [aJ i]<|
 cg (Gr t i) λp=>
 cg (Gr t d) λq=>
 R d:=bI Tryz.func274 (uz 0xb8278d8aa65e56995a996256a515513a5141f78fa4d20330708b1810529453a500a94526500594112500094d0c1001001)
instance adi(t i):bG (Ma t i) λR=>
 az t λa=>
 jn a 1 λb=>
 idx b i 5 λc=>
 gV c 2 λd=>
 bQ<|
 az t λe=>
 az t λf=>
 az t λg=>
 jn e 1 λh=>
 jn f 1 λj=>
 jn g 1 λk=>
 idx k d 5 λl=>
 gV l 3 λm=>
 idx h i 5 λn=>
 so n 2 [aJ m]<|
 idx j d 5 λo=>
 so o 3 [aJ i]<|
 cg (Gr t i) λp=>
 cg (Gr t d) λq=>
 R d:=bI Tryz.func275 (uz 0xb8278d8aa65e56995a996256a515513a5141f78fa4d20330708b1810529453a500a94526500594112500094d0c1001001)
instance aa_(t k):bG (P2 t k) λR=>
 new (Ks.mk cr k) λa=>
 bo (L0 t) λb=>
 loop [.sl,.int .i64] (⟨none,0,0⟩,b) λc (d:Sl×Int)=>
 ar (d.2 !=(-1)) (
 new [aJ d.2] λe=>
 mi 1 d.1 ⟨some ⟨e,0⟩,1,1⟩ λf=>
 bQ<|
 ld cr ⟨a,0⟩ λ(g:Int×Int)=>
 az t λh=>
 jn h 1 λi=>
 idx i d.2 5 λj=>
 ld cr j λ(l:Int×Int)=>
 bo (Qa g l) λm=>
 ar (decide (m<0)) (
 az t λn=>
 jn n 1 λo=>
 idx o d.2 5 λp=>
 gV p 2 λq=>
 c (f,q))<|
 ar (decide (m>0)) (
 az t λr=>
 jn r 1 λs=>
 idx s d.2 5 λu=>
 gV u 3 λv=>
 c (f,v))<|
 R f)<|
 R d.1:=bI Tryz.func145 (uz 0x740281a2a665126a2075951a91030861650019430253c3040042201046105086081001001001001)
instance acj(a b):bG (Qa a b) λR=>
 new (Ks.mk cr a) λc=>
 new (Ks.mk cr b) λd=>
 bQ<|
 bJ ⟨c,0⟩ λe=>
 bJ ⟨d,0⟩ λf=>
 bJ ⟨c,1⟩ λg=>
 bJ ⟨d,1⟩ λh=>
 bo (Qo e f) λi=>
 cw ⟨d,1⟩ (Ks.mk cu h)<|
 cw ⟨c,1⟩ (Ks.mk cu g)<|
 bo (Qo g h) λj=>
 new [aJ i,aJ j] λk=>
 bo (U_ ⟨some ⟨k,0⟩,2,2⟩) λl=>
 R l:=bI Tryz.func217 (uz 0x81c3263cb98e24aa8d2c9a88184a881830431e50859430a50809440c1001)
instance abj:bG T7 λR=>
 new [zu,zu] λa=>
 R (some ⟨a,0⟩):=bI Tryz.func154 (uz 8)
instance acr(r):bG (Qc r) λR=>
 ar r.isNone (
 R 0)<|
 az r λa=>
 bJ a λb=>
 R b:=bI Tryz.func224 (uz 0xa)
instance adr(r s):bG (Vd r s) λR=>
 new (Ks.mk aW s) λa=>
 loop cb false λb (c:Bool)=>
 join [] (λd=>
 ar (!r.isNone) (
 bJ ⟨a,5⟩ λe=>
 ar (decide (e>0)) (
 d ())<|
 R c)<|
 R c) λ(f:Unit)=>
 bQ<|
 bJ ⟨a,2⟩ λg=>
 az r λh=>
 dx h 1 λi=>
 ar (decide (g<i)) (
 R c)<|
 bJ ⟨a,1⟩ λj=>
 az r λk=>
 so k 1 [aC j]<|
 az r λl=>
 bJ l λm=>
 az r λn=>
 st n [aC (u64.wrap (m+1))]<|
 R true:=bI Tryz.func284 (uz 0x1c81e058e1a91440c1002943025303041088004085046081001001001)
instance aaB:bG TN λR=>
 new [zu,zu,zu,zu,a_ false,zu,zu,zu,a_ false,zu,zu] λa=>
 R (some ⟨a,0⟩):=bI Tryz.func104 (uz 8)
instance abw(d o a a'):bG (Uf d o a a') λR=>
 new (Ks.mk cy a') λb=>
 ar d.isNone (
 R ())<|
 az d λc=>
 bJ c λe=>
 aT (oL e a) λf=>
 az d λg=>
 st g [aC f]<|
 az d λh=>
 so h 1 [aC o]<|
 join [] (λi=>
 bQ<|
 az d λj=>
 az d λk=>
 bJ j λl=>
 dx k 3 λm=>
 ar (decide (l>m)) (
 az d λn=>
 so n 3 [zu]<|
 i ())<|
 i ()) λ(p:Unit)=>
 az d λq=>
 dx q 5 λr=>
 aT (oL r a) λs=>
 az d λt=>
 so t 5 [aC s]<|
 join [] (λu=>
 join cb (λv=>
 bQ<|
 az d λw=>
 oM w 4 λx=>
 ar (!x) (
 v true)<|
 bJ ⟨b,1⟩ λy=>
 az d λz=>
 dx z 6 λA=>
 v (decide (y≥A))) λ(B:Bool)=>
 ar B (
 bQ<|
 bJ ⟨b,1⟩ λC=>
 bJ ⟨b,2⟩ λD=>
 rE ⟨b,4⟩ λE=>
 az d λF=>
 so F 6 [aC C]<|
 cw ⟨b,4⟩ (Ks.mk cb E)<|
 cw ⟨b,2⟩ (Ks.mk cu D)<|
 az d λG=>
 so G 7 [aC D]<|
 cw ⟨b,4⟩ (Ks.mk cb E)<|
 az d λH=>
 so H 8 [a_ E]<|
 bQ<|
 bJ ⟨b,0⟩ λI=>
 bJ ⟨b,3⟩ λJ=>
 bJ ⟨b,0⟩ λK=>
 aT (y8 I J) λL=>
 cw ⟨b,0⟩ (Ks.mk cu K)<|
 aT (y8 o K) λM=>
 az d λN=>
 so N 9 [aC L]<|
 az d λO=>
 so O 10 [aC M]<|
 bJ ⟨b,0⟩ λQ=>
 az d λS=>
 so S 2 [aC Q]<|
 u ())<|
 u ()) λ(T:Unit)=>
 az d λU=>
 so U 4 [a_ true]<|
 R ():=bI Tryz.func166 (uz 0x2085b4aa81195f42548f95e5cea8d3112e56982aa5941aa2450c72250479471251c2940065000950fc306089952a8539604a54d195f5d0a9e3e574e95236571532a2ca4499481841c79471651c39400a5001940025f4304181f5cfa5e6573ad7573697173296d72e96972a96172295c02695c71e918510308100096d0c2f41100100047818508a470c60850401250009560c1004001201001)
instance acH(s flight):bG (UO s flight) λR=>
 ar (!s.isNone) (
 az s λa=>
 bJ a λb=>
 aT (oL b flight) λc=>
 az s λd=>
 so d 3 [aC (if c>1 then c else 1)]<|
 R ())<|
 R ():=bI Tryz.func239 (uz 8)
instance abA(s af flight):bG (LY s af flight) λR=>
 new [zu,zu,zu,zu,a_ false] λa=>
 ar s.isNone (
 st ⟨a,0⟩ [zu,zu,zu,zu,a_ false]<|
 ld cy ⟨a,0⟩ λb=>
 R b)<|
 join [] (λc=>
 ar (flight==0) (
 az s λd=>
 so d 2 [aC af]<|
 az s λe=>
 so e 1 [aC af]<|
 c ())<|
 c ()) λ(f:Unit)=>
 bQ<|
 az s λg=>
 az s λh=>
 az s λi=>
 az s λj=>
 bJ g λk=>
 dx h 1 λl=>
 dx i 2 λm=>
 dx j 3 λn=>
 st ⟨a,0⟩ [aC af,aC k,aC l,aC m,a_ (n !=0)]<|
 ld cy ⟨a,0⟩ λo=>
 R o:=bI Tryz.func170 (uz 0x823193aa27595514b545030810f2c70ce2860803650099401650019410254c3048004241001)
instance acD(s af bn flight):bG (UN s af bn flight) λR=>
 new [zu,zu,zu,zu,zu,zu,zu,zu,a_ false] λa=>
 ar s.isNone (
 st ⟨a,0⟩ [zu,zu,zu,zu,zu,zu,zu,zu,a_ false]<|
 ld aW ⟨a,0⟩ λb=>
 R b)<|
 az s λc=>
 bJ c λd=>
 new [zu,zu,zu,zu,zu,zu,zu,zu,a_ false] λe=>
 st ⟨e,0⟩ [aC af,aC d,zu,zu,zu,zu,aC bn,aC flight,a_ false]<|
 join [] (λf=>
 az s λg=>
 lo Eb g 4 λ(h:Lw)=>
 new [a_ false,zu,zu,zu,a_ false,zu,zu] λi=>
 st ⟨i,0⟩ (Ks.mk Eb h)<|
 rE ⟨i,0⟩ λj=>
 ar j (
 bQ<|
 bJ ⟨i,1⟩ λk=>
 bJ ⟨i,2⟩ λl=>
 rE ⟨i,4⟩ λm=>
 bJ ⟨i,6⟩ λn=>
 st ⟨e,5⟩ [aC k]<|
 cw ⟨i,6⟩ (Ks.mk cu n)<|
 cw ⟨i,4⟩ (Ks.mk cb m)<|
 cw ⟨i,2⟩ (Ks.mk cu l)<|
 st ⟨e,2⟩ [aC l]<|
 cw ⟨i,6⟩ (Ks.mk cu n)<|
 cw ⟨i,4⟩ (Ks.mk cb m)<|
 st ⟨e,8⟩ [a_ m]<|
 cw ⟨i,6⟩ (Ks.mk cu n)<|
 st ⟨e,4⟩ [aC n]<|
 bQ<|
 bJ ⟨i,5⟩ λo=>
 bJ ⟨i,3⟩ λp=>
 aT (y8 af p) λq=>
 cw ⟨i,5⟩ (Ks.mk cu o)<|
 new [aC o,aC q] λr=>
 aT (Vn ⟨some ⟨r,0⟩,2,2⟩) λt=>
 st ⟨e,3⟩ [aC t]<|
 f ())<|
 f ()) λ(u:Unit)=>
 az s λv=>
 so v 4 [a_ false,zu,zu,zu,a_ false,zu,zu]<|
 ld aW ⟨e,0⟩ λw=>
 st ⟨a,0⟩ (Ks.mk aW w)<|
 ld aW ⟨a,0⟩ λx=>
 R x:=bI Tryz.func235 (uz 0x802065826a2489571e65921aa55316a1012839410a52809670e07183ea24e95b58da893256942ea24a959489a892251c50c128694a12528294a0256c3041001001004001241001)
instance adC(l):bG (Vn l) λR=>
 loop [.int .u64,.int .i64] (0,0) λa (b:Int×Int)=>
 ar (decide (b.2<((l.len:Nat):Int))) (
 idx l b.2 1 λc=>
 bJ c λd=>
 ar (decide (d≤b.1)) (
 a (b.1,(i64.wrap (b.2+1))))<|
 a (d,(i64.wrap (b.2+1))))<|
 R b.1:=bI Tryz.func295 (uz 0x70110811c1001048003086080041001001001)
instance abd(a b):bG (oL a b) λR=>
 call A4 lK [vu a,vu b,.lf (zu)] [qu,qu] λ(c:Int×Int)=>
 ar (decide (c.2>0)) (
 R 18446744073709551615)<|
 R c.1:=bI Tryz.func149 (uz 0x17)
instance ad5(a b):bG (Mi a b) λR=>
 bC (Qu a b) λ(c:Int×Int)=>
 ar (decide (c.1>0)) (
 R 18446744073709551615)<|
 R c.2:=bI Tryz.func324 (uz 0x17)
instance acB(a b):bG (y8 a b) λR=>
 R (u64.wrap (a-(if b<a then b else a))):=bI Tryz.func233 (uz 8)
instance ad8(b):bG (YX b) λR=>
 loop [.sl,.sl] (b,⟨none,0,0⟩) λa (c:Sl×Sl)=>
 ar (decide (((c.1.len:Nat):Int)>0)) (
 ar (((c.2.len:Nat):Int)==300) (
 R c.2)<|
 new [zi,zi,zi,zi,zi,zi] λd=>
 D9 c.1 none (some (if 6<((c.1.len:Nat):Int)then 6 else((c.1.len:Nat):Int))) none 1 λe=>
 loop ci 0 λf (g:Int)=>
 ar (decide (g<((e.len:Nat):Int))) (
 idx e g 1 λh=>
 ld [.int .u8] h λ(i:Int)=>
 dM (0≤g∧g<6)<|
 st ⟨d,0+g.toNat*1⟩ [aJ (i64.wrap i)]<|
 f (i64.wrap (g+1)))<|
 D9 c.1 (some (if 6<((c.1.len:Nat):Int)then 6 else((c.1.len:Nat):Int))) none none 1 λj=>
 ld Tt ⟨d,0⟩ λk=>
 bC (ZJ k) λ(l:iO)=>
 new [aJ l.1,aJ l.2.1,aJ l.2.2.1,aC l.2.2.2.1,aC l.2.2.2.2.1,aX l.2.2.2.2.2.1,aJ l.2.2.2.2.2.2.1,aJ l.2.2.2.2.2.2.2.1,aJ l.2.2.2.2.2.2.2.2.1,aJ l.2.2.2.2.2.2.2.2.2.1,aC l.2.2.2.2.2.2.2.2.2.2.1,aC l.2.2.2.2.2.2.2.2.2.2.2.1,a_ l.2.2.2.2.2.2.2.2.2.2.2.2.1,aJ l.2.2.2.2.2.2.2.2.2.2.2.2.2.1,aJ l.2.2.2.2.2.2.2.2.2.2.2.2.2.2] λm=>
 mi 15 c.2 ⟨some ⟨m,0⟩,1,1⟩ λn=>
 a (j,n))<|
 R c.2:=bI Tryz.func15 (uz 0x71c01c2047040041541182001040040048042201103100086081001001001)
instance ad9:bG XI λR=>
 new [zi,zi,zi,zi,zu,zu,a_ false,zi,zi] λa=>
 st ⟨a,0⟩ [aJ 3000,aJ 15000,aJ 100,aJ 50,aC 10000000000,zu,a_ false,aJ 100000,aJ 1000]<|
 ld bk ⟨a,0⟩ λb=>
 R b:=bI Tryz.func16 (uz 8)
instance iq9(c l):bG (c9 c l) λR=>
 new (Ks.mk bk c) λa=>
 ld bk ⟨a,0⟩ λb=>
 bC (ZF b) λ(d:bO×Int)=>
 ar (d.2 !=0) (
 new [aJ d.2] λe=>
 R (⟨none,0,0⟩,⟨some ⟨e,0⟩,1,1⟩))<|
 loop H9 (⟨none,0,0⟩,⟨none,0,0⟩,0) λf (g:Ia)=>
 ar (decide (g.2.2<((l.len:Nat):Int))) (
 idx l g.2.2 15 λh=>
 ld bE h λi=>
 new [zi,zi,zi,zu,zu,aX ⟨none,0,0⟩,zi,zi,zi,zi,zu,zu,a_ false,zi,zi] λj=>
 st ⟨j,0⟩ (Ks.mk bE i)<|
 ld bE ⟨j,0⟩ λk=>
 bC (ZG d.1 k) λ(m:Eh×Int)=>
 new [aX ⟨none,0,0⟩,aX ⟨none,0,0⟩,aX ⟨none,0,0⟩,zu] λn=>
 st ⟨n,0⟩ (Ks.mk eI m.1)<|
 ld eI ⟨n,0⟩ λo=>
 new [aX o.1,aX o.2.1,aX o.2.2.1,aC o.2.2.2] λp=>
 mi 4 g.1 ⟨some ⟨p,0⟩,1,1⟩ λq=>
 new [aJ m.2] λr=>
 mi 1 g.2.1 ⟨some ⟨r,0⟩,1,1⟩ λs=>
 f (q,s,(i64.wrap (g.2.2+1))))<|
 R (g.1,g.2.1):=bI Tryz.func9 (uz 0x70080811c10010591091080c6080041001001241001001)
instance ad_(outs errs):bG (YY outs errs) λR=>
 Rf 72 [.ptr none,aX ⟨none,0,0⟩] λa=>
 loop ci 0 λb (c:Int)=>
 ar (decide (c<((errs.len:Nat):Int))) (
 idx errs c 1 λd=>
 dN d λe=>
 bC (XP e) λ(f:ByteArray)=>
 call A4 de [.lf (.ptr (some ⟨a,0⟩)),.lf (.str f)] [qi,.lf .Py] λ(g:Int×Unit)=>
 join [] (λh=>
 ar (decide (c<((outs.len:Nat):Int))) (
 idx outs c 4 λi=>
 ld eI i λj=>
 new [aX ⟨none,0,0⟩,aX ⟨none,0,0⟩,aX ⟨none,0,0⟩,zu] λk=>
 st ⟨k,0⟩ (Ks.mk eI j)<|
 bQ<|
 fb ⟨k,0⟩ λl=>
 fb ⟨k,1⟩ λm=>
 bC (YZ (⟨#[43]⟩:ByteArray) l) λ(n:ByteArray)=>
 cw ⟨k,1⟩ (Ks.mk cl m)<|
 bC (YZ (⟨#[45]⟩:ByteArray) m) λ(o:ByteArray)=>
 dM (((n.size+o.size:Nat):Int)≤i64.max)<|
 call A4 de [.lf (.ptr (some ⟨a,0⟩)),.lf (.str (n++o))] [qi,.lf .Py] λ(p:Int×Unit)=>
 bJ ⟨k,3⟩ λq=>
 ar (q !=0) (
 bJ ⟨k,3⟩ λr=>
 call A4 jS [vu r,.lf (.int .i64 10)] [.lf .str] λ(s:ByteArray)=>
 dM ((((⟨#[32,64]⟩:ByteArray).size+s.size:Nat):Int)≤i64.max)<|
 call A4 de [.lf (.ptr (some ⟨a,0⟩)),.lf (.str ((⟨#[32,64]⟩:ByteArray)++s))] [qi,.lf .Py] λ(t:Int×Unit)=>
 h ())<|
 h ())<|
 h ()) λ(u:Unit)=>
 call A4 de [.lf (.ptr (some ⟨a,0⟩)),.lf (.str (⟨#[10]⟩:ByteArray))] [qi,.lf .Py] λ(v:Int×Unit)=>
 b (i64.wrap (c+1)))<|
 call A4 im [.lf (.ptr (some ⟨a,0⟩))] [.lf .str] λ(w:ByteArray)=>
 R w:=bI Tryz.func17 (uz 0x1c00002205c51ea5931a95459920a61012039480256830400410010040010010811c100104b046080041001001)
instance aeh(d):bG (ZJ d) λR=>
 new (Ks.mk Tt d) λa=>
 new [zi,zi,zi,zu,zu,aX ⟨none,0,0⟩,zi,zi,zi,zi,zu,zu,a_ false,zi,zi] λb=>
 bQ<|
 dM (0≤(0:Int)∧(0:Int)<6)<|
 dM (0≤(1:Int)∧(1:Int)<6)<|
 dM (0≤(2:Int)∧(2:Int)<6)<|
 dM (0≤(3:Int)∧(3:Int)<6)<|
 dM (0≤(4:Int)∧(4:Int)<6)<|
 dM (0≤(5:Int)∧(5:Int)<6)<|
 dN ⟨a,0+(0:Int).toNat*1⟩ λc=>
 dN ⟨a,0+(1:Int).toNat*1⟩ λe=>
 dN ⟨a,0+(2:Int).toNat*1⟩ λf=>
 dN ⟨a,0+(3:Int).toNat*1⟩ λg=>
 dN ⟨a,0+(4:Int).toNat*1⟩ λh=>
 dN ⟨a,0+(5:Int).toNat*1⟩ λi=>
 cw ⟨a,0+(5:Int).toNat*1⟩ (Ks.mk ci i)<|
 cw ⟨a,0+(4:Int).toNat*1⟩ (Ks.mk ci h)<|
 cw ⟨a,0+(3:Int).toNat*1⟩ (Ks.mk ci g)<|
 cw ⟨a,0+(2:Int).toNat*1⟩ (Ks.mk ci f)<|
 cw ⟨a,0+(1:Int).toNat*1⟩ (Ks.mk ci e)<|
 cw ⟨a,0+(5:Int).toNat*1⟩ (Ks.mk ci i)<|
 cw ⟨a,0+(4:Int).toNat*1⟩ (Ks.mk ci h)<|
 cw ⟨a,0+(3:Int).toNat*1⟩ (Ks.mk ci g)<|
 cw ⟨a,0+(2:Int).toNat*1⟩ (Ks.mk ci f)<|
 cw ⟨a,0+(5:Int).toNat*1⟩ (Ks.mk ci i)<|
 cw ⟨a,0+(4:Int).toNat*1⟩ (Ks.mk ci h)<|
 cw ⟨a,0+(3:Int).toNat*1⟩ (Ks.mk ci g)<|
 cw ⟨a,0+(5:Int).toNat*1⟩ (Ks.mk ci i)<|
 cw ⟨a,0+(4:Int).toNat*1⟩ (Ks.mk ci h)<|
 cw ⟨a,0+(5:Int).toNat*1⟩ (Ks.mk ci i)<|
 bC XI λ(j:eN)=>
 new [zi,zi,zi,zu,zu,aX ⟨none,0,0⟩,zi,zi,zi,zi,zu,zu,a_ false,zi,zi] λk=>
 st ⟨k,0⟩ [aJ (c.tmod 10),aJ (e.tmod 9),aJ (i64.wrap (f*100)),aC (u64.wrap (i64.wrap ((i64.wrap (g*1000))+h))),aC (u64.wrap (i64.wrap ((i64.wrap (g*100000000))+(i64.wrap (h*1000000))))),aX ⟨none,0,0⟩,aJ j.1,aJ j.2.1,aJ j.2.2.1,aJ j.2.2.2.1,aC j.2.2.2.2.1,aC j.2.2.2.2.2.1,a_ j.2.2.2.2.2.2.1,aJ j.2.2.2.2.2.2.2.1,aJ j.2.2.2.2.2.2.2.2]<|
 join [] (λl=>
 ar ((i.tmod 2)==1) (
 new [aC (u64.wrap (i64.wrap (h*100))),aC (u64.wrap (i64.wrap ((i64.wrap (h*100))+(i64.wrap (i*100)))))] λm=>
 st ⟨k,5⟩ [aX ⟨some ⟨m,0⟩,1,1⟩]<|
 l ())<|
 l ()) λ(n:Unit)=>
 st ⟨k,6⟩ [aJ (i64.wrap (f*100))]<|
 st ⟨k,11⟩ [aC (u64.wrap (i64.wrap (g*10000)))]<|
 st ⟨k,8⟩ [aJ h]<|
 st ⟨k,12⟩ [a_ ((i.tmod 2)==1)]<|
 ld bE ⟨k,0⟩ λo=>
 st ⟨b,0⟩ (Ks.mk bE o)<|
 ld bE ⟨b,0⟩ λp=>
 R p:=bI Tryz.func30 (uz 0x20800400181c4666909983e63ce98d3662cc98b2471430412a50489411a50449410a50409490c1001)
instance aei(v):bG (XP v) λR=>
 call A4 rM [.lf (.int .i64 (if 0>v then 0 else v))] [.lf .str] λ(a:ByteArray)=>
 R a:=bI Tryz.func32 (uz 8)
instance aej(sign l):bG (YZ sign l) λR=>
 Rf 72 [.ptr none,aX ⟨none,0,0⟩] λa=>
 loop ci 0 λb (c:Int)=>
 ar (decide (c<((l.len:Nat):Int))) (
 idx l c 5 λd=>
 ld bc d λe=>
 new [zi,zu,zi,zu,a_ false] λf=>
 st ⟨f,0⟩ (Ks.mk bc e)<|
 bQ<|
 dM ((((⟨#[32]⟩:ByteArray).size+sign.size:Nat):Int)≤i64.max)<|
 dN ⟨f,0⟩ λg=>
 bJ ⟨f,1⟩ λh=>
 dN ⟨f,2⟩ λi=>
 bC (XP g) λ(j:ByteArray)=>
 cw ⟨f,2⟩ (Ks.mk ci i)<|
 cw ⟨f,1⟩ (Ks.mk cu h)<|
 dM (((((⟨#[32]⟩:ByteArray)++sign).size+j.size:Nat):Int)≤i64.max)<|
 dM ((((((⟨#[32]⟩:ByteArray)++sign)++j).size+(⟨#[58]⟩:ByteArray).size:Nat):Int)≤i64.max)<|
 call A4 jS [vu h,.lf (.int .i64 10)] [.lf .str] λ(k:ByteArray)=>
 cw ⟨f,2⟩ (Ks.mk ci i)<|
 dM (((((((⟨#[32]⟩:ByteArray)++sign)++j)++(⟨#[58]⟩:ByteArray)).size+k.size:Nat):Int)≤i64.max)<|
 dM ((((((((⟨#[32]⟩:ByteArray)++sign)++j)++(⟨#[58]⟩:ByteArray))++k).size+(⟨#[58]⟩:ByteArray).size:Nat):Int)≤i64.max)<|
 bC (XP i) λ(m:ByteArray)=>
 dM (((((((((⟨#[32]⟩:ByteArray)++sign)++j)++(⟨#[58]⟩:ByteArray))++k)++(⟨#[58]⟩:ByteArray)).size+m.size:Nat):Int)≤i64.max)<|
 call A4 de [.lf (.ptr (some ⟨a,0⟩)),.lf (.str (((((((⟨#[32]⟩:ByteArray)++sign)++j)++(⟨#[58]⟩:ByteArray))++k)++(⟨#[58]⟩:ByteArray))++m))] [qi,.lf .Py] λ(n:Int×Unit)=>
 b (i64.wrap (c+1)))<|
 call A4 im [.lf (.ptr (some ⟨a,0⟩))] [.lf .str] λ(o:ByteArray)=>
 R o:=bI Tryz.func33 (uz 0x1c0820150a9f70fa5e3a62da5caa592661953c5a541263480c11cc9471e51c29400253430010811c100104a046080041001001)
instance abr(s):bG (Uc s) λR=>
 ar (Sl.isNil s) (
 R ⟨none,0,0⟩)<|
 new [] λa=>
 mi 5 ⟨some ⟨a,0⟩,0,0⟩ s λb=>
 R b:=bI Tryz.func162 (uz 0xa)
instance acg(slices):bG (UH slices) λR=>
 loop [.int .i64,.int .i64] (0,0) λa (b:Int×Int)=>
 ar (decide (b.2<((slices.len:Nat):Int))) (
 idx slices b.2 1 λc=>
 fb c λd=>
 ar (decide ((i64.wrap (b.1+((d.len:Nat):Int)))<0)) (
 gX)<|
 a ((i64.wrap (b.1+((d.len:Nat):Int))),(i64.wrap (b.2+1))))<|
 bC (U7 ⟨none,0,0⟩ b.1) λ(e:Sl)=>
 loop [.sl,.int .i64] (e,0) λf (g:Sl×Int)=>
 ar (decide (g.2<((slices.len:Nat):Int))) (
 idx slices g.2 1 λh=>
 fb h λi=>
 mi 1 g.1 i λj=>
 f (j,(i64.wrap (g.2+1))))<|
 R g.1:=bI Tryz.func214 (uz 0x70070811c100105b1060860800410010100811c100104b043086080041001001)
instance ado(s f):bG (Qq s f) λR=>
 bo (Vp s f) λa=>
 R (decide (a≥0)):=bI Tryz.func281 (uz 8)
instance aci(s del):bG (P_ s del) λR=>
 bo (U9 s del) λa=>
 ar (a==(-1)) (
 R s)<|
 loop [.int .i64,.int .i64] (a,(i64.wrap (a+1))) λb (c:Int×Int)=>
 ar (decide (c.2<((s.len:Nat):Int))) (
 idx s c.2 1 λd=>
 dN d λe=>
 xT Tryz.prog del [vi e] [qb] λ(f:Bool)=>
 ar (!f) (
 idx s c.1 1 λg=>
 st g [aJ e]<|
 b ((i64.wrap (c.1+1)),(i64.wrap (c.2+1))))<|
 b (c.1,(i64.wrap (c.2+1))))<|
 D9 s (some c.1) none none 1 λh=>
 Za [zi] h<|
 D9 s none (some c.1) none 1 λi=>
 R i:=bI Tryz.func216 (uz 0x800f081201046045086080041241001001)
instance ac_(s n):bG (U7 s n) λR=>
 join [] (λa=>
 ar (decide (n<0)) (
 gX)<|
 a ()) λ(b:Unit)=>
 ar (decide ((i64.wrap (n-(i64.wrap (((s.cp:Nat):Int)-((s.len:Nat):Int)))))>0)) (
 D9 s none (some ((s.cp:Nat):Int)) none 1 λc=>
 PL [zi] 1 c (i64.wrap (n-(i64.wrap (((s.cp:Nat):Int)-((s.len:Nat):Int))))) λd=>
 D9 d none (some ((s.len:Nat):Int)) none 1 λe=>
 R e)<|
 R s:=bI Tryz.func268 (uz 0xd48004001)
instance adJ(s f):bG (Vp s f) λR=>
 loop ci 0 λa (b:Int)=>
 ar (decide (b<((s.len:Nat):Int))) (
 idx s b 2 λc=>
 ld cr c λ(d:Int×Int)=>
 xT Tryz.prog f [.agg (Ks.mk cr d)] [qb] λ(e:Bool)=>
 ar e (
 R b)<|
 a (i64.wrap (b+1)))<|
 R (-1):=bI Tryz.func302 (uz 0x700f0811c1001048046080041001)
instance ada(s f):bG (U9 s f) λR=>
 loop ci 0 λa (b:Int)=>
 ar (decide (b<((s.len:Nat):Int))) (
 idx s b 1 λc=>
 dN c λd=>
 xT Tryz.prog f [vi d] [qb] λ(e:Bool)=>
 ar e (
 R b)<|
 a (i64.wrap (b+1)))<|
 R (-1):=bI Tryz.func269 (uz 0x700f0811c1001048046080041001)
instance aeI(id c):bG (ZY id c) λR=>
 new (Ks.mk bk c) λa=>
 dN ⟨a,8⟩ λb=>
 bQ<|
 dN ⟨a,7⟩ λd=>
 lU (TL 1073741824) λe=>
 cw ⟨a,7⟩ (Ks.mk ci d)<|
 lU TM λf=>
 cw ⟨a,7⟩ (Ks.mk ci d)<|
 lU TN λg=>
 cw ⟨a,7⟩ (Ks.mk ci d)<|
 lU (PU (u64.wrap (if 9000<(if 100>b then 100 else b)then 9000 else(if 100>b then 100 else b)))) λh=>
 cw ⟨a,7⟩ (Ks.mk ci d)<|
 new [aJ id,aJ (if 9000<(if 100>b then 100 else b)then 9000 else(if 100>b then 100 else b)),aJ d,.ptr e,.ptr f,.ptr g,.ptr h,zu,zu] λi=>
 R (some ⟨i,0⟩):=bI Tryz.func67 (uz 0x81c3266cb99a5cf38d2ca2bd6499868858848880c51e50c29450650009490c1001001)
instance aaG(s af upto sacks):bG (TQ s af upto sacks) λR=>
 ar s.isNone (
 R 2)<|
 az s λa=>
 fZ a 4 λb=>
 bC (P6 b upto sacks) λ(c:Sl×Int×Int)=>
 ar (c.2.2 !=0) (
 R c.2.2)<|
 az s λd=>
 fZ d 3 λe=>
 bo (Ue e upto) λf=>
 loop cl c.1 λg (h:Sl)=>
 ar (((h.len:Nat):Int)==0) (
 cg (P7 s af c.2.1) λi=>
 R 0)<|
 idx h 0 9 λj=>
 ld aE j λk=>
 new [zu,zu,zu,zu,zu,zu,a_ false,a_ false,a_ false] λl=>
 st ⟨l,0⟩ (Ks.mk aE k)<|
 D9 h (some 1) none none 9 λm=>
 bQ<|
 az s λn=>
 bJ ⟨l,1⟩ λo=>
 bJ ⟨l,0⟩ λp=>
 ld cy ⟨l,2⟩ λq=>
 fZ n 5 λr=>
 cg (Uf r af (u64.wrap (o-p)) q) λt=>
 g m:=bI Tryz.func109 (uz 0x22071a5543320d95c9a422c818130a94c1e530594112500096a0c0040048042109046081001001241001241001)
instance aaI(s n):bG (PW s n) λR=>
 join [] (λa=>
 ar s.isNone (
 R 2)<|
 ar (decide (n<1)) (
 R 1)<|
 az s λb=>
 dx b 7 λc=>
 ar (decide ((u64.wrap n)>c)) (
 R 1)<|
 a ()) λ(d:Unit)=>
 az s λe=>
 dx e 7 λf=>
 az s λg=>
 so g 7 [aC (u64.wrap (f-(u64.wrap n)))]<|
 R 0:=bI Tryz.func111 (uz 0x8342004001)
instance aaJ(d o):bG (TS d o) λR=>
 new [zi,zu,zi,zu,a_ false] λa=>
 ar d.isNone (
 st ⟨a,0⟩ [zi,zu,zi,zu,a_ false]<|
 ld bc ⟨a,0⟩ λb=>
 R (b,2))<|
 bo (Uh d) λc=>
 ar (c !=0) (
 st ⟨a,0⟩ [zi,zu,zi,zu,a_ false]<|
 ld bc ⟨a,0⟩ λe=>
 R (e,c))<|
 bQ<|
 az d λf=>
 fZ f 5 λg=>
 both (
 aT (Gn d) λh=>
 lG f 5 g<|
 both (
 bC (LY g o h) λ(i:pZ)=>
 new [zu,zu,zu,zu,a_ false] λj=>
 lG f 5 g<|
 st ⟨j,0⟩ (Ks.mk cy i)<|
 bQ<|
 ld cy ⟨j,0⟩ λk=>
 az d λl=>
 fZ l 4 λm=>
 both (
 bC (Eu m k) λ(n:(Int×Int)×Bool)=>
 new [zu,zu] λp=>
 lG l 4 m<|
 cw ⟨j,0⟩ (Ks.mk cy k)<|
 st ⟨p,0⟩ (Ks.mk cr n.1)<|
 join [] (λq=>
 ar (!n.2) (
 bQ<|
 az d λr=>
 fZ r 3 λs=>
 bo (Bg d) λt=>
 lG r 3 s<|
 bC (Ev s t) λ(u:(Int×Int)×Bool)=>
 st ⟨p,0⟩ (Ks.mk cr u.1)<|
 bQ<|
 ld cy ⟨j,0⟩ λv=>
 az d λw=>
 bJ ⟨p,0⟩ λx=>
 bJ ⟨p,1⟩ λy=>
 fZ w 4 λz=>
 bo (Ew z x y v) λA=>
 q ())<|
 q ()) λ(B:Unit)=>
 bQ<|
 az d λC=>
 bJ ⟨p,0⟩ λD=>
 bJ ⟨p,1⟩ λE=>
 bJ ⟨p,0⟩ λF=>
 az d λG=>
 dN C λH=>
 dx G 8 λI=>
 new [zi,zu,zi,zu,a_ false] λJ=>
 lA G 8 I<|
 cw C (Ks.mk ci H)<|
 cw ⟨p,0⟩ (Ks.mk cu F)<|
 cw ⟨p,1⟩ (Ks.mk cu E)<|
 cw ⟨p,0⟩ (Ks.mk cu D)<|
 st ⟨J,0⟩ [aJ H,aC D,aJ (i64.wrap (u64.wrap (E-F))),aC (if I>o then I else o),a_ n.2]<|
 bQ<|
 bJ ⟨J,3⟩ λK=>
 dN ⟨J,2⟩ λL=>
 az d λM=>
 fZ M 6 λN=>
 bC (wX N) λ(O:gd)=>
 cw ⟨J,2⟩ (Ks.mk ci L)<|
 cw ⟨J,3⟩ (Ks.mk cu K)<|
 aT (Be L O.2.2.1) λQ=>
 cw ⟨J,3⟩ (Ks.mk cu K)<|
 aT (oL K Q) λS=>
 az d λT=>
 so T 8 [aC S]<|
 bQ<|
 az d λU=>
 dN ⟨J,2⟩ λV=>
 dx U 7 λX=>
 az d λY=>
 so Y 7 [aC (u64.wrap (X+(u64.wrap V)))]<|
 ld bc ⟨J,0⟩ λZ=>
 st ⟨a,0⟩ (Ks.mk bc Z)<|
 ld bc ⟨a,0⟩ λa0=>
 R (a0,0))<|
 new [zu,zu] λa1=>
 lG l 4 m<|
 cw ⟨j,0⟩ (Ks.mk cy k)<|
 bC (Eu m k) λ(a2:(Int×Int)×Bool)=>
 st ⟨a1,0⟩ (Ks.mk cr a2.1)<|
 join [] (λa3=>
 ar (!a2.2) (
 bQ<|
 az d λa4=>
 fZ a4 3 λa5=>
 bo (Bg d) λa6=>
 lG a4 3 a5<|
 bC (Ev a5 a6) λ(a7:(Int×Int)×Bool)=>
 st ⟨a1,0⟩ (Ks.mk cr a7.1)<|
 bQ<|
 ld cy ⟨j,0⟩ λa8=>
 az d λa9=>
 bJ ⟨a1,0⟩ λb0=>
 bJ ⟨a1,1⟩ λb1=>
 fZ a9 4 λb2=>
 bo (Ew b2 b0 b1 a8) λb3=>
 a3 ())<|
 a3 ()) λ(b4:Unit)=>
 bQ<|
 az d λb5=>
 bJ ⟨a1,0⟩ λb6=>
 bJ ⟨a1,1⟩ λb7=>
 bJ ⟨a1,0⟩ λb8=>
 az d λb9=>
 dN b5 λc0=>
 dx b9 8 λc1=>
 new [zi,zu,zi,zu,a_ false] λc2=>
 lA b9 8 c1<|
 cw b5 (Ks.mk ci c0)<|
 cw ⟨a1,0⟩ (Ks.mk cu b8)<|
 cw ⟨a1,1⟩ (Ks.mk cu b7)<|
 cw ⟨a1,0⟩ (Ks.mk cu b6)<|
 st ⟨c2,0⟩ [aJ c0,aC b6,aJ (i64.wrap (u64.wrap (b7-b8))),aC (if c1>o then c1 else o),a_ a2.2]<|
 bQ<|
 bJ ⟨c2,3⟩ λc3=>
 dN ⟨c2,2⟩ λc4=>
 az d λc5=>
 fZ c5 6 λc6=>
 bC (wX c6) λ(c7:gd)=>
 cw ⟨c2,2⟩ (Ks.mk ci c4)<|
 cw ⟨c2,3⟩ (Ks.mk cu c3)<|
 aT (Be c4 c7.2.2.1) λc8=>
 cw ⟨c2,3⟩ (Ks.mk cu c3)<|
 aT (oL c3 c8) λc9=>
 az d λd0=>
 so d0 8 [aC c9]<|
 bQ<|
 az d λd1=>
 dN ⟨c2,2⟩ λd2=>
 dx d1 7 λd3=>
 az d λd4=>
 so d4 7 [aC (u64.wrap (d3+(u64.wrap d2)))]<|
 ld bc ⟨c2,0⟩ λd5=>
 st ⟨a,0⟩ (Ks.mk bc d5)<|
 ld bc ⟨a,0⟩ λd6=>
 R (d6,0))<|
 new [zu,zu,zu,zu,a_ false] λd7=>
 lG f 5 g<|
 bC (LY g o h) λ(d8:pZ)=>
 st ⟨d7,0⟩ (Ks.mk cy d8)<|
 bQ<|
 ld cy ⟨d7,0⟩ λd9=>
 az d λe0=>
 fZ e0 4 λe1=>
 both (
 bC (Eu e1 d9) λ(e2:(Int×Int)×Bool)=>
 new [zu,zu] λe3=>
 lG e0 4 e1<|
 cw ⟨d7,0⟩ (Ks.mk cy d9)<|
 st ⟨e3,0⟩ (Ks.mk cr e2.1)<|
 join [] (λe4=>
 ar (!e2.2) (
 bQ<|
 az d λe5=>
 fZ e5 3 λe6=>
 bo (Bg d) λe7=>
 lG e5 3 e6<|
 bC (Ev e6 e7) λ(e8:(Int×Int)×Bool)=>
 st ⟨e3,0⟩ (Ks.mk cr e8.1)<|
 bQ<|
 ld cy ⟨d7,0⟩ λe9=>
 az d λf0=>
 bJ ⟨e3,0⟩ λf1=>
 bJ ⟨e3,1⟩ λf2=>
 fZ f0 4 λf3=>
 bo (Ew f3 f1 f2 e9) λf4=>
 e4 ())<|
 e4 ()) λ(f5:Unit)=>
 bQ<|
 az d λf6=>
 bJ ⟨e3,0⟩ λf7=>
 bJ ⟨e3,1⟩ λf8=>
 bJ ⟨e3,0⟩ λf9=>
 az d λg0=>
 dN f6 λg1=>
 dx g0 8 λg2=>
 new [zi,zu,zi,zu,a_ false] λg3=>
 lA g0 8 g2<|
 cw f6 (Ks.mk ci g1)<|
 cw ⟨e3,0⟩ (Ks.mk cu f9)<|
 cw ⟨e3,1⟩ (Ks.mk cu f8)<|
 cw ⟨e3,0⟩ (Ks.mk cu f7)<|
 st ⟨g3,0⟩ [aJ g1,aC f7,aJ (i64.wrap (u64.wrap (f8-f9))),aC (if g2>o then g2 else o),a_ e2.2]<|
 bQ<|
 bJ ⟨g3,3⟩ λg4=>
 dN ⟨g3,2⟩ λg5=>
 az d λg6=>
 fZ g6 6 λg7=>
 bC (wX g7) λ(g8:gd)=>
 cw ⟨g3,2⟩ (Ks.mk ci g5)<|
 cw ⟨g3,3⟩ (Ks.mk cu g4)<|
 aT (Be g5 g8.2.2.1) λg9=>
 cw ⟨g3,3⟩ (Ks.mk cu g4)<|
 aT (oL g4 g9) λh0=>
 az d λh1=>
 so h1 8 [aC h0]<|
 bQ<|
 az d λh2=>
 dN ⟨g3,2⟩ λh3=>
 dx h2 7 λh4=>
 az d λh5=>
 so h5 7 [aC (u64.wrap (h4+(u64.wrap h3)))]<|
 ld bc ⟨g3,0⟩ λh6=>
 st ⟨a,0⟩ (Ks.mk bc h6)<|
 ld bc ⟨a,0⟩ λh7=>
 R (h7,0))<|
 new [zu,zu] λh8=>
 lG e0 4 e1<|
 cw ⟨d7,0⟩ (Ks.mk cy d9)<|
 bC (Eu e1 d9) λ(h9:(Int×Int)×Bool)=>
 st ⟨h8,0⟩ (Ks.mk cr h9.1)<|
 join [] (λi0=>
 ar (!h9.2) (
 bQ<|
 az d λi1=>
 fZ i1 3 λi2=>
 bo (Bg d) λi3=>
 lG i1 3 i2<|
 bC (Ev i2 i3) λ(i4:(Int×Int)×Bool)=>
 st ⟨h8,0⟩ (Ks.mk cr i4.1)<|
 bQ<|
 ld cy ⟨d7,0⟩ λi5=>
 az d λi6=>
 bJ ⟨h8,0⟩ λi7=>
 bJ ⟨h8,1⟩ λi8=>
 fZ i6 4 λi9=>
 bo (Ew i9 i7 i8 i5) λj0=>
 i0 ())<|
 i0 ()) λ(j1:Unit)=>
 bQ<|
 az d λj2=>
 bJ ⟨h8,0⟩ λj3=>
 bJ ⟨h8,1⟩ λj4=>
 bJ ⟨h8,0⟩ λj5=>
 az d λj6=>
 dN j2 λj7=>
 dx j6 8 λj8=>
 new [zi,zu,zi,zu,a_ false] λj9=>
 lA j6 8 j8<|
 cw j2 (Ks.mk ci j7)<|
 cw ⟨h8,0⟩ (Ks.mk cu j5)<|
 cw ⟨h8,1⟩ (Ks.mk cu j4)<|
 cw ⟨h8,0⟩ (Ks.mk cu j3)<|
 st ⟨j9,0⟩ [aJ j7,aC j3,aJ (i64.wrap (u64.wrap (j4-j5))),aC (if j8>o then j8 else o),a_ h9.2]<|
 bQ<|
 bJ ⟨j9,3⟩ λk0=>
 dN ⟨j9,2⟩ λk1=>
 az d λk2=>
 fZ k2 6 λk3=>
 bC (wX k3) λ(k4:gd)=>
 cw ⟨j9,2⟩ (Ks.mk ci k1)<|
 cw ⟨j9,3⟩ (Ks.mk cu k0)<|
 aT (Be k1 k4.2.2.1) λk5=>
 cw ⟨j9,3⟩ (Ks.mk cu k0)<|
 aT (oL k0 k5) λk6=>
 az d λk7=>
 so k7 8 [aC k6]<|
 bQ<|
 az d λk8=>
 dN ⟨j9,2⟩ λk9=>
 dx k8 7 λl0=>
 az d λl1=>
 so l1 7 [aC (u64.wrap (l0+(u64.wrap k9)))]<|
 ld bc ⟨j9,0⟩ λl2=>
 st ⟨a,0⟩ (Ks.mk bc l2)<|
 ld bc ⟨a,0⟩ λl3=>
 R (l3,0))<|
 new [zu,zu,zu,zu,a_ false] λl4=>
 lG f 5 g<|
 aT (Gn d) λl5=>
 lG f 5 g<|
 bC (LY g o l5) λ(l6:pZ)=>
 st ⟨l4,0⟩ (Ks.mk cy l6)<|
 bQ<|
 ld cy ⟨l4,0⟩ λl7=>
 az d λl8=>
 fZ l8 4 λl9=>
 both (
 bC (Eu l9 l7) λ(m0:(Int×Int)×Bool)=>
 new [zu,zu] λm1=>
 lG l8 4 l9<|
 cw ⟨l4,0⟩ (Ks.mk cy l7)<|
 st ⟨m1,0⟩ (Ks.mk cr m0.1)<|
 join [] (λm2=>
 ar (!m0.2) (
 bQ<|
 az d λm3=>
 fZ m3 3 λm4=>
 bo (Bg d) λm5=>
 lG m3 3 m4<|
 bC (Ev m4 m5) λ(m6:(Int×Int)×Bool)=>
 st ⟨m1,0⟩ (Ks.mk cr m6.1)<|
 bQ<|
 ld cy ⟨l4,0⟩ λm7=>
 az d λm8=>
 bJ ⟨m1,0⟩ λm9=>
 bJ ⟨m1,1⟩ λn0=>
 fZ m8 4 λn2=>
 bo (Ew n2 m9 n0 m7) λn3=>
 m2 ())<|
 m2 ()) λ(n4:Unit)=>
 bQ<|
 az d λn5=>
 bJ ⟨m1,0⟩ λn6=>
 bJ ⟨m1,1⟩ λn7=>
 bJ ⟨m1,0⟩ λn8=>
 az d λo0=>
 dN n5 λo1=>
 dx o0 8 λo2=>
 new [zi,zu,zi,zu,a_ false] λo3=>
 lA o0 8 o2<|
 cw n5 (Ks.mk ci o1)<|
 cw ⟨m1,0⟩ (Ks.mk cu n8)<|
 cw ⟨m1,1⟩ (Ks.mk cu n7)<|
 cw ⟨m1,0⟩ (Ks.mk cu n6)<|
 st ⟨o3,0⟩ [aJ o1,aC n6,aJ (i64.wrap (u64.wrap (n7-n8))),aC (if o2>o then o2 else o),a_ m0.2]<|
 bQ<|
 bJ ⟨o3,3⟩ λo4=>
 dN ⟨o3,2⟩ λo5=>
 az d λo6=>
 fZ o6 6 λo7=>
 bC (wX o7) λ(o8:gd)=>
 cw ⟨o3,2⟩ (Ks.mk ci o5)<|
 cw ⟨o3,3⟩ (Ks.mk cu o4)<|
 aT (Be o5 o8.2.2.1) λo9=>
 cw ⟨o3,3⟩ (Ks.mk cu o4)<|
 aT (oL o4 o9) λp0=>
 az d λp1=>
 so p1 8 [aC p0]<|
 bQ<|
 az d λp2=>
 dN ⟨o3,2⟩ λp3=>
 dx p2 7 λp4=>
 az d λp5=>
 so p5 7 [aC (u64.wrap (p4+(u64.wrap p3)))]<|
 ld bc ⟨o3,0⟩ λp6=>
 st ⟨a,0⟩ (Ks.mk bc p6)<|
 ld bc ⟨a,0⟩ λp7=>
 R (p7,0))<|
 new [zu,zu] λp8=>
 lG l8 4 l9<|
 cw ⟨l4,0⟩ (Ks.mk cy l7)<|
 bC (Eu l9 l7) λ(p9:(Int×Int)×Bool)=>
 st ⟨p8,0⟩ (Ks.mk cr p9.1)<|
 join [] (λq0=>
 ar (!p9.2) (
 bQ<|
 az d λq1=>
 fZ q1 3 λq2=>
 bo (Bg d) λq3=>
 lG q1 3 q2<|
 bC (Ev q2 q3) λ(q4:(Int×Int)×Bool)=>
 st ⟨p8,0⟩ (Ks.mk cr q4.1)<|
 bQ<|
 ld cy ⟨l4,0⟩ λq6=>
 az d λq7=>
 bJ ⟨p8,0⟩ λq8=>
 bJ ⟨p8,1⟩ λq9=>
 fZ q7 4 λr0=>
 bo (Ew r0 q8 q9 q6) λr1=>
 q0 ())<|
 q0 ()) λ(r2:Unit)=>
 bQ<|
 az d λr4=>
 bJ ⟨p8,0⟩ λr5=>
 bJ ⟨p8,1⟩ λr6=>
 bJ ⟨p8,0⟩ λr9=>
 az d λs0=>
 dN r4 λs1=>
 dx s0 8 λs2=>
 new [zi,zu,zi,zu,a_ false] λs3=>
 lA s0 8 s2<|
 cw r4 (Ks.mk ci s1)<|
 cw ⟨p8,0⟩ (Ks.mk cu r9)<|
 cw ⟨p8,1⟩ (Ks.mk cu r6)<|
 cw ⟨p8,0⟩ (Ks.mk cu r5)<|
 st ⟨s3,0⟩ [aJ s1,aC r5,aJ (i64.wrap (u64.wrap (r6-r9))),aC (if s2>o then s2 else o),a_ p9.2]<|
 bQ<|
 bJ ⟨s3,3⟩ λs4=>
 dN ⟨s3,2⟩ λs5=>
 az d λs6=>
 fZ s6 6 λs7=>
 bC (wX s7) λ(s8:gd)=>
 cw ⟨s3,2⟩ (Ks.mk ci s5)<|
 cw ⟨s3,3⟩ (Ks.mk cu s4)<|
 aT (Be s5 s8.2.2.1) λs9=>
 cw ⟨s3,3⟩ (Ks.mk cu s4)<|
 aT (oL s4 s9) λt0=>
 az d λt1=>
 so t1 8 [aC t0]<|
 bQ<|
 az d λt2=>
 dN ⟨s3,2⟩ λt3=>
 dx t2 7 λt4=>
 az d λt5=>
 so t5 7 [aC (u64.wrap (t4+(u64.wrap t3)))]<|
 ld bc ⟨s3,0⟩ λt6=>
 st ⟨a,0⟩ (Ks.mk bc t6)<|
 ld bc ⟨a,0⟩ λt7=>
 R (t7,0):=bI Tryz.func112 (uz 0x781a60aa89448957507a431821412849400257bf0c181f74fa8e44d95c4cca9b54ba8a6499881c610200594a0e52819400253ff0c1824295a948a389c5944f585d46940b0cf6982a908e24714125294036504c94822520694812500097a0c10206585942720c21c50472252069481250009700e06082aa4099502251d6506a951660c20401250009670c104004012060b99720aa9022540794655416a2628182e65c82aa2624089501e5195505ac30811c494002570306060726a5d5507b961a62228181c9a975541ee2228181c9a888975541ef5869c30810059411250009530c13c1241001)
instance abB(s):bG (Gn s) λR=>
 ar s.isNone (
 R 0)<|
 az s λa=>
 fZ a 4 λb=>
 aT (US b) λc=>
 R c:=bI Tryz.func171 (uz 0xa)
instance aaH(s af):bG (TR s af) λR=>
 ar s.isNone (
 R 2)<|
 az s λa=>
 fZ a 4 λb=>
 aT (Ug b) λc=>
 cg (P7 s af c) λd=>
 R 0:=bI Tryz.func110 (uz 0x16)
instance ae8(s):bG (c99 s) λR=>
 new [zi,zi,zu,zu,zu,zu,zu,zu,a_ false,a_ false] λa=>
 ar s.isNone (
 st ⟨a,0⟩ [zi,zi,zu,zu,zu,zu,zu,zu,a_ false,a_ false]<|
 ld eH ⟨a,0⟩ λb=>
 R b)<|
 az s λc=>
 fZ c 6 λd=>
 bC (wX d) λ(e:gd)=>
 st ⟨a,0⟩ (Ks.mk eH e)<|
 ld eH ⟨a,0⟩ λf=>
 R f:=bI Tryz.func99 (uz 0xa)
instance abE(s):bG (Bg s) λR=>
 ar s.isNone (
 R 0)<|
 bQ<|
 az s λa=>
 az s λb=>
 fZ a 6 λc=>
 gV b 1 λd=>
 bC (wX c) λ(e:gd)=>
 EW b 1 d<|
 bo (UT e.2.2.1 d) λf=>
 R f:=bI Tryz.func174 (uz 0x203cb98e28aa852049890c80870401a50009440c1241001)
instance aaF(s n):bG (TP s n) λR=>
 ar s.isNone (
 R 2)<|
 az s λa=>
 fZ a 3 λb=>
 bo (Ud b n) λc=>
 R c:=bI Tryz.func108 (uz 0xa)
instance abx(s af bn):bG (P7 s af bn) λR=>
 bQ<|
 az s λa=>
 az s λb=>
 fZ a 6 λc=>
 fZ b 5 λd=>
 aT (Gn s) λe=>
 lG b 5 d<|
 lG a 6 c<|
 bC (UN d af bn e) λ(f:jT)=>
 lG a 6 c<|
 bo (Bg s) λg=>
 lG a 6 c<|
 bC (Qe c f (u64.wrap g)) λ(h:gd)=>
 R ():=bI Tryz.func167 (uz 0x2081d250b8f78e99c3ce34cc9b2e61c318214100d9402a5089941225004940025143)
instance abz(d):bG (Uh d) λR=>
 az d λa=>
 fZ a 4 λb=>
 bC (Qf b) λ(c:(Int×Int)×Bool)=>
 new [zu,zu] λe=>
 st ⟨e,0⟩ (Ks.mk cr c.1)<|
 az d λf=>
 fZ f 6 λg=>
 bC (wX g) λ(h:gd)=>
 new [zi,zi,zu,zu,zu,zu,zu,zu,a_ false,a_ false] λi=>
 st ⟨i,0⟩ (Ks.mk eH h)<|
 bQ<|
 bJ ⟨i,3⟩ λj=>
 aT (Gn d) λk=>
 cw ⟨i,3⟩ (Ks.mk cu j)<|
 join cb (λl=>
 ar (!c.2) (
 az d λm=>
 fZ m 3 λn=>
 aT (Qg n) λo=>
 l (o==0))<|
 l false) λ(p:Bool)=>
 ar p (
 ar (decide (k<j)) (
 bQ<|
 az d λq=>
 fZ q 5 λr=>
 aT (Gn d) λs=>
 lG q 5 r<|
 cg (UO r s) λt=>
 R 7)<|
 R 7)<|
 join cb (λu=>
 bQ<|
 ar (!(decide (k<j))) (
 u true)<|
 az d λv=>
 bJ ⟨i,2⟩ λw=>
 az d λx=>
 dx v 7 λy=>
 gV x 2 λz=>
 bo (Bg d) λA=>
 EW x 2 z<|
 lA v 7 y<|
 cw ⟨i,2⟩ (Ks.mk cu w)<|
 aT (UQ w A z) λB=>
 lA v 7 y<|
 cM (UP y B) λC=>
 u (!C)) λ(D:Bool)=>
 ar D (
 R 5)<|
 ar (!c.2) (
 az d λE=>
 fZ E 4 λF=>
 bo (UR F) λG=>
 ar (decide (G≥4096)) (
 R 5)<|
 R 0)<|
 R 0:=bI Tryz.func169 (uz 0x1d38234e68934a98534698174d0b9f6d94cfc9a4caa9e4cea564c6a5d4cda554c5a5c4cca584c8a544c4a5300ba53009a53147a53003a42046025b030ac0441c0816506a951660c20401250009640c1001041002641102060a059a7944a640669839450a50000c1001001001)
instance adQ(bw bX gain):bG (Qx bw bX gain) λR=>
 new [aC bX,aC 1000000000,aC gain,aC 256] λa=>
 aT (Qd bw ⟨some ⟨a,0⟩,2,2⟩) λb=>
 R b:=bI Tryz.func309 (uz 8)
instance abo(bw gain):bG (P5 bw gain) λR=>
 new [aC gain,aC 256] λa=>
 aT (Qd bw ⟨some ⟨a,0⟩,1,1⟩) λb=>
 R b:=bI Tryz.func159 (uz 8)
instance adV(bw bX gain tso bs):bG (Vu bw bX gain tso bs) λR=>
 ar (bX==0) (
 aT (Mi 10 bs) λa=>
 R a)<|
 aT (Qx bw bX gain) λb=>
 aT (Mi 3 tso) λc=>
 aT (oL b c) λd=>
 aT (Mi 4 bs) λe=>
 R (if e>d then e else d):=bI Tryz.func314 (uz 0xa)
instance acw(v l):bG (Qd v l) λR=>
 loop [.int .u64,.int .i64] (v,0) λa (b:Int×Int)=>
 ar (decide (b.2<((l.len:Nat):Int))) (
 idx l b.2 2 λc=>
 ld cr c λ(d:Int×Int)=>
 new [zu,zu] λe=>
 st ⟨e,0⟩ (Ks.mk cr d)<|
 ar (b.1==0) (
 R b.1)<|
 dM (0≤(0:Int)∧(0:Int)<2)<|
 bJ ⟨e,0+(0:Int).toNat*1⟩ λf=>
 dM (0≤(1:Int)∧(1:Int)<2)<|
 bJ ⟨e,0+(1:Int).toNat*1⟩ λg=>
 aT (Ex b.1 f g) λh=>
 a (h,(i64.wrap (b.2+1))))<|
 R b.1:=bI Tryz.func228 (uz 0x70110811c1001049000086080041001001)
instance acN(aY bs):bG (UT aY bs) λR=>
 dM ((u64.wrap (if(9000:Int)<(if(100:Int)>bs then(100:Int)else bs)then(9000:Int)else(if(100:Int)>bs then(100:Int)else bs)))≠0)<|
 loop cu (u64.wrap ((u64.wrap (aY.tdiv 1024)).tdiv (u64.wrap (if 9000<(if 100>bs then 100 else bs)then 9000 else(if 100>bs then 100 else bs))))) λa (b:Int)=>
 ar (decide (b<2)) (
 a 2)<|
 dM ((u64.wrap (if(9000:Int)<(if(100:Int)>bs then(100:Int)else bs)then(9000:Int)else(if(100:Int)>bs then(100:Int)else bs)))≠0)<|
 ar (decide (b>(u64.wrap ((65536:Int).tdiv (u64.wrap (if 9000<(if 100>bs then 100 else bs)then 9000 else(if 100>bs then 100 else bs))))))) (
 dM ((u64.wrap (if(9000:Int)<(if(100:Int)>bs then(100:Int)else bs)then(9000:Int)else(if(100:Int)>bs then(100:Int)else bs)))≠0)<|
 a (u64.wrap ((65536:Int).tdiv (u64.wrap (if 9000<(if 100>bs then 100 else bs)then 9000 else(if 100>bs then 100 else bs))))))<|
 R (i64.wrap (u64.wrap (b*(u64.wrap (if 9000<(if 100>bs then 100 else bs)then 9000 else(if 100>bs then 100 else bs)))))):=bI Tryz.func245 (uz 0x1d0082006046081001001001001)
instance acJ(aY tso most):bG (UQ aY tso most) λR=>
 loop [.int .u64,.int .i64] (0,0) λa (b:Int×Int)=>
 ar (decide (b.2<2)) (
 Ya [.int .u64] [aC (u64.wrap (2*(u64.wrap (if 0>tso then 0 else tso)))),aC (if(u64.wrap (if 0>most then 0 else most))<(u64.wrap (aY.tdiv 1024))then(u64.wrap (if 0>most then 0 else most))else(u64.wrap (aY.tdiv 1024)))] b.2 2 1 λ(c:Int)=>
 ar (decide (c≤b.1)) (
 a (b.1,(i64.wrap (b.2+1))))<|
 a (c,(i64.wrap (b.2+1))))<|
 R b.1:=bI Tryz.func241 (uz 0x70110811c1001055007086080041001001001)
instance acI(out limit):bG (UP out limit) λR=>
 R (decide (out<limit)):=bI Tryz.func240 (uz 8)
instance adk(hi lo c):bG (Vb hi lo c) λR=>
 ar (c==0) (
 R (0,1))<|
 ar (decide (hi≥c)) (
 R (0,3))<|
 loop Sq (hi,lo,0,0) λa (b:xR)=>
 ar (b.2.2.2==64) (
 R (b.2.2.1,0))<|
 dM (0≤(63:Int))<|
 dM (0≤(1:Int))<|
 dM (0≤(63:Int))<|
 dM (0≤(1:Int))<|
 dM (0≤(1:Int))<|
 ar (((b.1.fdiv (2^min (63:Int).toNat u64.bits))==0)&&(decide ((u64.wrap (BitVec.ofInt u64.bits (u64.wrap (b.1*2^min (1:Int).toNat u64.bits))|||BitVec.ofInt u64.bits (b.2.1.fdiv (2^min (63:Int).toNat u64.bits))).toNat)<c))) (
 a ((u64.wrap (BitVec.ofInt u64.bits (u64.wrap (b.1*2^min (1:Int).toNat u64.bits))|||BitVec.ofInt u64.bits (b.2.1.fdiv (2^min (63:Int).toNat u64.bits))).toNat),(u64.wrap (b.2.1*2^min (1:Int).toNat u64.bits)),(u64.wrap (b.2.2.1*2^min (1:Int).toNat u64.bits)),(i64.wrap (b.2.2.2+1))))<|
 a ((u64.wrap ((u64.wrap (BitVec.ofInt u64.bits (u64.wrap (b.1*2^min (1:Int).toNat u64.bits))|||BitVec.ofInt u64.bits (b.2.1.fdiv (2^min (63:Int).toNat u64.bits))).toNat)-c)),(u64.wrap (b.2.1*2^min (1:Int).toNat u64.bits)),(u64.wrap (BitVec.ofInt u64.bits (u64.wrap (b.2.2.1*2^min (1:Int).toNat u64.bits))|||BitVec.ofInt u64.bits 1).toNat),(i64.wrap (b.2.2.2+1))):=bI Tryz.func277 (uz 0x1f608124020004000418204004004004d081001)
instance adj(a b):bG (Va a b) λR=>
 bC (Qu a b) λ(c:Int×Int)=>
 R (c.1,c.2):=bI Tryz.func276 (uz 8)
instance acn(a b c):bG (Ex a b c) λR=>
 bC (Va a b) λ(d:Int×Int)=>
 ar ((d.1==0)&&(d.2==0)) (
 R 0)<|
 bC (Vb d.1 d.2 c) λ(e:Int×Int)=>
 ar (e.2 !=0) (
 R 18446744073709551615)<|
 R e.1:=bI Tryz.func220 (uz 0x19)
instance adm(m):bG (Mb m) λR=>
 ar m.isNone (
 R 0)<|
 az m λa=>
 dM (0≤(0:Int)∧(0:Int)<3)<|
 bJ ⟨a.b,a.o+1+(0:Int).toNat*2+1⟩ λc=>
 R c:=bI Tryz.func279 (uz 0xa)
instance ad1(m t v):bG (Vz m t v) λR=>
 ar m.isNone (
 R ())<|
 az m λa=>
 dx a 7 λb=>
 az m λc=>
 so c 7 [aC (if t>b then t else b)]<|
 call A4 321 [vp m,.lf (zi),.agg [aC t,aC v]] [] λ(d:Unit)=>
 R ():=bI Tryz.func320 (uz 0x12)
instance adN(d o a):bG (Vr d o a) λR=>
 ar d.isNone (
 R 0)<|
 az d λc=>
 dx c 7 λe=>
 az d λf=>
 so f 7 [aC (if o>e then o else e)]<|
 az d λg=>
 dx g 7 λh=>
 new [zu,zu] λi=>
 st ⟨i,0⟩ [aC h,aC a]<|
 join cb (λj=>
 bQ<|
 az d λk=>
 dM (0≤(0:Int)∧(0:Int)<3)<|
 bJ ⟨k.b,k.o+1+(0:Int).toNat*2+1⟩ λl=>
 ar (decide (a≥l)) (
 j true)<|
 bJ ⟨i,0⟩ λm=>
 az d λn=>
 az d λp=>
 dM (0≤(2:Int)∧(2:Int)<3)<|
 bJ p λq=>
 ld cr ⟨n.b,n.o+1+(2:Int).toNat*2⟩ λ(r:Int×Int)=>
 cM (Gs m r q) λs=>
 j (!s)) λ(t:Bool)=>
 ar t (
 bJ ⟨i,0⟩ λu=>
 cg (Vz d u a) λv=>
 R a)<|
 join [] (λw=>
 loop ci 0 λx (y:Int)=>
 ar (decide (y<3)) (
 join cb (λz=>
 ar (decide (y>0)) (
 az d λA=>
 dM (0≤y∧y<3)<|
 bJ ⟨A.b,A.o+1+y.toNat*2+1⟩ λB=>
 z (decide (a≥B)))<|
 z false) λ(C:Bool)=>
 ar C (
 ld cr ⟨i,0⟩ λ(D:Int×Int)=>
 cg (Mh d y D) λE=>
 w ())<|
 x (i64.wrap (y+1)))<|
 w ()) λ(F:Unit)=>
 join [] (λG=>
 bQ<|
 bJ ⟨i,0⟩ λH=>
 az d λI=>
 az d λJ=>
 dM (0≤(0:Int)∧(0:Int)<3)<|
 bJ J λK=>
 ld cr ⟨I.b,I.o+1+(0:Int).toNat*2⟩ λ(L:Int×Int)=>
 cM (Gs H L K) λM=>
 ar (!M) (
 ld cr ⟨i,0⟩ λ(N:Int×Int)=>
 cg (QA d N) λO=>
 bQ<|
 bJ ⟨i,0⟩ λQ=>
 az d λS=>
 az d λT=>
 dM (0≤(0:Int)∧(0:Int)<3)<|
 bJ T λU=>
 ld cr ⟨S.b,S.o+1+(0:Int).toNat*2⟩ λ(V:Int×Int)=>
 cM (Gs Q V U) λX=>
 ar (!X) (
 ld cr ⟨i,0⟩ λ(Y:Int×Int)=>
 cg (QA d Y) λZ=>
 G ())<|
 G ())<|
 join cb (λa0=>
 bQ<|
 az d λa1=>
 az d λa2=>
 dM (0≤(1:Int)∧(1:Int)<3)<|
 dM (0≤(0:Int)∧(0:Int)<3)<|
 bJ ⟨a1.b,a1.o+1+(1:Int).toNat*2⟩ λa3=>
 bJ ⟨a2.b,a2.o+1+(0:Int).toNat*2⟩ λa4=>
 ar (a3==a4) (
 bJ ⟨i,0⟩ λa5=>
 az d λa6=>
 az d λa7=>
 dM (0≤(0:Int)∧(0:Int)<3)<|
 bJ a7 λa8=>
 ld cr ⟨a6.b,a6.o+1+(0:Int).toNat*2⟩ λ(a9:Int×Int)=>
 cM (Gs a5 a9 (u64.wrap (a8.tdiv 4))) λb0=>
 a0 (!b0))<|
 a0 false) λ(b1:Bool)=>
 ar b1 (
 ld cr ⟨i,0⟩ λ(b2:Int×Int)=>
 cg (Mh d 1 b2) λb3=>
 G ())<|
 join cb (λb4=>
 bQ<|
 az d λb5=>
 az d λb6=>
 dM (0≤(2:Int)∧(2:Int)<3)<|
 dM (0≤(1:Int)∧(1:Int)<3)<|
 bJ ⟨b5.b,b5.o+1+(2:Int).toNat*2⟩ λb7=>
 bJ ⟨b6.b,b6.o+1+(1:Int).toNat*2⟩ λb8=>
 ar (b7==b8) (
 bJ ⟨i,0⟩ λb9=>
 az d λc0=>
 az d λc1=>
 dM (0≤(0:Int)∧(0:Int)<3)<|
 bJ c1 λc2=>
 ld cr ⟨c0.b,c0.o+1+(0:Int).toNat*2⟩ λ(c3:Int×Int)=>
 cM (Gs b9 c3 (u64.wrap (c2.tdiv 2))) λc4=>
 b4 (!c4))<|
 b4 false) λ(c5:Bool)=>
 ar c5 (
 ld cr ⟨i,0⟩ λ(c6:Int×Int)=>
 cg (Mh d 2 c6) λc7=>
 G ())<|
 G ()) λ(c8:Unit)=>
 az d λc9=>
 dM (0≤(0:Int)∧(0:Int)<3)<|
 bJ ⟨c9.b,c9.o+1+(0:Int).toNat*2+1⟩ λd0=>
 R d0:=bI Tryz.func306 (uz 0x1c782d766b1e729ade6e9aa581e6b2a5e66991e529a1e6298de4e99de5e989e4a999e5a985e4697de3e97805697804297873a935c58ca4b14a1090c80870401a5000950fff0c243ffc1100060b5d9ac79ca6b79ba6a96079aca9799a64794a68798a63793a67797a62792a66796a61791a5f78fa5e015a5e010a5e1cea4d7163292c52842432021c1006940025bbf0c2bbf0441e031b5d22ee18a1491080c10079400a51c095dfc304004181d36631b5d22ee18a1491080c10079400a51c094dfc304200400c0021ff0440010811c100107704608004010004e826656a65655a6481b654c9f64fa63653a5e64ea62652a5d64da61651a5c64ca5a64aa59010a5900ba591c9a485d11e91851030800650809590c2c01101001001241001)
instance ad2(m from' s):bG (Mh m from' s) λR=>
 new (Ks.mk cr s) λa=>
 az m λc=>
 D9 ⟨some ⟨c.b,c.o+1⟩,3,3⟩ (some from') none none 2 λd=>
 loop ci 0 λe (f:Int)=>
 ar (decide (f<((d.len:Nat):Int))) (
 bQ<|
 ld cr ⟨a,0⟩ λ(g:Int×Int)=>
 az m λh=>
 dM (0≤(i64.wrap (from'+f))∧(i64.wrap (from'+f))<3)<|
 st ⟨h.b,h.o+1+(i64.wrap (from'+f)).toNat*2⟩ (Ks.mk cr g)<|
 e (i64.wrap (f+1)))<|
 R ():=bI Tryz.func321 (uz 0x827908aa68c7a651a5805962843a451251829410000c0042047040041341182001001)
instance ad3(m s):bG (QA m s) λR=>
 new (Ks.mk cr s) λa=>
 bQ<|
 ld cr ⟨a,0⟩ λ(c:Int×Int)=>
 az m λd=>
 az m λe=>
 az m λf=>
 az m λg=>
 az m λh=>
 dM (0≤(1:Int)∧(1:Int)<3)<|
 dM (0≤(2:Int)∧(2:Int)<3)<|
 ld cr ⟨d.b,d.o+1+(1:Int).toNat*2⟩ λ(i:Int×Int)=>
 ld cr ⟨e.b,e.o+1+(2:Int).toNat*2⟩ λ(j:Int×Int)=>
 dM (0≤(0:Int)∧(0:Int)<3)<|
 st ⟨f.b,f.o+1+(0:Int).toNat*2⟩ (Ks.mk cr i)<|
 cw ⟨a,0⟩ (Ks.mk cr c)<|
 dM (0≤(1:Int)∧(1:Int)<3)<|
 st ⟨g.b,g.o+1+(1:Int).toNat*2⟩ (Ks.mk cr j)<|
 cw ⟨a,0⟩ (Ks.mk cr c)<|
 dM (0≤(2:Int)∧(2:Int)<3)<|
 st ⟨h.b,h.o+1+(2:Int).toNat*2⟩ (Ks.mk cr c)<|
 R ():=bI Tryz.func322 (uz 0x827799aa662591d56a8d49612d1a903072c69579624e53ca1465a51529443a52440cd9402250039400a50019400250c3001)
instance abh(kQ):bG (T6 kQ) λR=>
 new [aC kQ,zu,zu,zu,zu,zu,zu,zu] λa=>
 R (some ⟨a,0⟩):=bI Tryz.func153 (uz 0xb)
instance ad0(t s kQ):bG (Gs t s kQ) λR=>
 new (Ks.mk cr s) λa=>
 bJ ⟨a,0⟩ λb=>
 R (decide ((u64.wrap (t-(if b<t then b else t)))≤kQ)):=bI Tryz.func319 (uz 8)
end Go.X
