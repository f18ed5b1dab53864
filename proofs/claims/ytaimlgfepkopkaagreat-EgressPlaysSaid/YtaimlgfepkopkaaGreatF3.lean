/- What each function computes, as a weakest precondition; the kernel sees that the code says so. -/
import Derived.Test.YtaimlgfepkopkaaGreatG
set_option linter.all false
namespace Go.X
open Go.Proofs
instance abx(d:Option Pt)(o a:Int)(a':Bool)(a'' a''':Int):bs (Tx d o a a' a'' a''') λR=>
 loop [.bool,.bool] (false,false) λb (c:Bool×Bool)=>
 aq (!d.isNone) (
 join cb (λe=>
 deref d λf=>
 bz f λg=>
 aq (decide (g>0)) (
 deref d λh=>
 cZ h 1 λi=>
 aM (n_ i 10000000000) λj=>
 e (decide (o>j)))<|
 e false) λ(k:Bool)=>
 join [] (λl=>
 join cb (λm=>
 aq (decide (a>0)) (
 deref d λn=>
 bz n λp=>
 aq (p==0) (
 m true)<|
 deref d λq=>
 bz q λr=>
 m ((decide (a≤r))||k))<|
 m false) λ(s:Bool)=>
 aq s (
 deref d λt=>
 st t [.int .u64 a]<|
 deref d λu=>
 so u 1 [.int .u64 o]<|
 l ())<|
 l ()) λ(v:Unit)=>
 join cb (λw=>
 aq k (
 deref d λx=>
 ob x 2 λy=>
 w (!y))<|
 w false) λ(z:Bool)=>
 aq z (
 deref d λA=>
 so A 2 [.bool true]<|
 deref d λB=>
 so B 3 [zu]<|
 deref d λC=>
 so C 4 [.bool false]<|
 R (true,c.2))<|
 deref d λD=>
 ob D 2 λE=>
 aq E (
 bO (TD d o a' a'' a''') λF=>
 R (c.1,F))<|
 R (c.1,false))<|
 R (c.1,c.2):=bt Tryz.func304 (uz 0x1c7380085fc11011c00b404400400240110220108f08e086081001001001)
instance abI(p:Option Pt)(ao:Int)(start:Bool)(flight floor:Int):bs (TD p ao start flight floor) λR=>
 deref p λa=>
 cZ a 3 λb=>
 aq (b==0) (
 aq (decide (flight≤floor)) (
 aM (n_ ao 200000000) λc=>
 deref p λd=>
 so d 3 [.int .u64 c]<|
 deref p λe=>
 so e 4 [.bool false]<|
 R false)<|
 R false)<|
 deref p λf=>
 ob f 4 λg=>
 deref p λh=>
 so h 4 [.bool (g||start)]<|
 join [] (λi=>
 deref p λj=>
 ob j 4 λk=>
 aq (!k) (
 R false)<|
 deref p λl=>
 cZ l 3 λm=>
 aq (decide (ao≤m)) (
 R false)<|
 i ()) λ(n:Unit)=>
 deref p λo=>
 so o 1 [.int .u64 ao]<|
 deref p λq=>
 so q 2 [.bool false]<|
 R true:=bt Tryz.func315 (uz 0x2090040016c1001)
instance i68(n:Int):bs (XL n) λR=>
 ko (Ry (if 4096<(if 0>n then 0 else n)then 4096 else(if 0>n then 0 else n))) λa=>
 new [.ptr a,.sl ⟨none,0,0⟩,zi,zi,.int .i64 (if 4096<(if 0>n then 0 else n)then 4096 else(if 0>n then 0 else n))] λb=>
 R (some ⟨b,0⟩):=bt Tryz.func68 (uz 0xb)
instance Zc(t:Option Pt):bs (Ot t) λR=>
 new [.ptr t] λa=>
 R (.mk (.func ju) [] [V1.enc (.lf (.ptr (some ⟨a,0⟩)))]):=bt Tryz.func157 (uz 8)
instance Z9(yield:Fv)(c0:Pt):bs (Vm yield c0) λR=>
 pC c0 λa=>
 bg (KE a) λb=>
 aq (b==(-1)) (
 R ())<|
 bF<|
 pC c0 λc=>
 pC c0 λd=>
 bg (KE d) λe=>
 co c0 (Ks.mk cp c)<|
 bE (KG c e) λ(f:Sl)=>
 loop cl f λg (h:Sl)=>
 aq (decide (((h.len:Nat):Int)>0)) (
 idx h (IntKind.i64.wrap (((h.len:Nat):Int)-1)) 1 λi=>
 de i λj=>
 EF h none (some (IntKind.i64.wrap (((h.len:Nat):Int)-1))) none 1 λk=>
 pC c0 λl=>
 deref l λm=>
 iS m 1 λn=>
 idx n j 5 λo=>
 ld cr o λ(p:Int×Int)=>
 tg Tryz.prog yield [.agg (Ks.mk cr p)] [qb] λ(q:Bool)=>
 aq (!q) (
 R ())<|
 bF<|
 pC c0 λr=>
 pC c0 λs=>
 deref s λt=>
 iS t 1 λu=>
 idx u j 5 λv=>
 gw v 3 λw=>
 bE (KG r w) λ(x:Sl)=>
 mw 1 k x λy=>
 g y)<|
 R ():=bt Tryz.func216 (uz 0x2070c99b44ba9a48aa89217587a451031069410a50419430259032010010010880440c118280b1262880ea2429810409400c1201)
instance Zd(d:Option Pt)(o:Int×Int):bs (Ov d o) λR=>
 new (Ks.mk cr o) λa=>
 aq d.isNone (
 R 2)<|
 ld cr ⟨a,0⟩ λ(b:Int×Int)=>
 bE (Ow d b) λ(c:Sl)=>
 ld cr ⟨a,0⟩ λ(e:Int×Int)=>
 bg (Ox d c e) λf=>
 aq (f==(-1)) (
 R 7)<|
 join [.sl,.int .i64] (λg=>
 join cb (λh=>
 deref d λi=>
 iS i 1 λj=>
 idx j f 5 λk=>
 gw k 2 λl=>
 aq (l !=(-1)) (
 deref d λm=>
 iS m 1 λn=>
 idx n f 5 λp=>
 gw p 3 λq=>
 h (q !=(-1)))<|
 h false) λ(r:Bool)=>
 aq r (
 deref d λs=>
 iS s 1 λt=>
 idx t f 5 λu=>
 gw u 3 λv=>
 bE (KG d v) λ(w:Sl)=>
 idx w (IntKind.i64.wrap (((w.len:Nat):Int)-1)) 1 λx=>
 de x λy=>
 bF<|
 deref d λz=>
 deref d λA=>
 iS z 1 λB=>
 iS A 1 λC=>
 idx C y 5 λD=>
 ld cr D λ(E:Int×Int)=>
 idx B f 5 λF=>
 st F (Ks.mk cr E)<|
 mw 1 c w λG=>
 g (G,y))<|
 g (c,f)) λ(H:Sl×Int)=>
 deref d λI=>
 iS I 1 λJ=>
 idx J H.2 5 λK=>
 gw K 2 λL=>
 join ci (λM=>
 aq (L==(-1)) (
 deref d λN=>
 iS N 1 λO=>
 idx O H.2 5 λQ=>
 gw Q 3 λS=>
 M S)<|
 M L) λ(T:Int)=>
 EF H.1 none (some (IntKind.i64.wrap (((H.1.len:Nat):Int)-1))) none 1 λU=>
 bS (SK d U H.2 T) λV=>
 deref d λX=>
 gw X 3 λY=>
 deref d λZ=>
 so Z 3 [.int .i64 (IntKind.i64.wrap (Y-1))]<|
 deref d λa0=>
 pC a0 λa1=>
 bg (SL a1 H.2) λa2=>
 R a2:=bt Tryz.func158 (uz 0xb2012411000400207dd3ea39550da4c2da64aa480c70860482650059461250009780c10010010400a8044046105084241001001241001)
instance Yt(d:Option Pt)(o:Int×Int):bs (RB d o) λR=>
 new (Ks.mk cr o) λa=>
 aq d.isNone (
 R 2)<|
 ld cr ⟨a,0⟩ λ(b:Int×Int)=>
 bE (Ow d b) λ(c:Sl)=>
 ld cr ⟨a,0⟩ λ(e:Int×Int)=>
 bg (Ox d c e) λf=>
 aq (f !=(-1)) (
 R 6)<|
 bF<|
 deref d λg=>
 deref d λh=>
 gw g 3 λi=>
 gw h 4 λj=>
 aq (decide (i≥j)) (
 R 5)<|
 deref d λk=>
 pC k λl=>
 bE (Oy l) λ(m:Int×Int)=>
 aq (m.2 !=0) (
 R m.2)<|
 join [] (λn=>
 deref d λp=>
 iS p 1 λq=>
 aq (m.1==((q.len:Nat):Int)) (
 deref d λr=>
 iS r 1 λs=>
 new [zu,zu,zi,zi,zi] λt=>
 mw 5 s ⟨some ⟨t,0⟩,1,1⟩ λu=>
 deref d λv=>
 so v 1 [.sl u]<|
 n ())<|
 n ()) λ(w:Unit)=>
 bF<|
 ld cr ⟨a,0⟩ λ(x:Int×Int)=>
 deref d λy=>
 iS y 1 λz=>
 idx z m.1 5 λA=>
 st A [.int .u64 x.1,.int .u64 x.2,.int .i64 (-1),.int .i64 (-1),.int .i64 1]<|
 deref d λB=>
 gw B 3 λC=>
 deref d λD=>
 so D 3 [.int .i64 (IntKind.i64.wrap (C+1))]<|
 bS (RZ d c (-1) m.1) λE=>
 R 0:=bt Tryz.func111 (uz 0xb8185c8a95507a43086043165184940025e03048004241001320649998508a470c60850401250009530c11c1001081001241001)
instance Yw(t:Option Pt):NU (RD t) λn0 R=>
 new [zu,zu] λa=>
 new [.bool false] λb=>
 join [] (λc=>
 bE (Ot t) λ(d:Fv)=>
 qc Tryz.prog d [.agg [.int .u64,.int .u64]] (λ(e:(Int×Int)) f g h=>
 new [zu,zu] λi=>
 st ⟨i,0⟩ (Ks.mk cr e)<|
 f<|
 ld cr ⟨i,0⟩ λ(j:Int×Int)=>
 st ⟨a,0⟩ (Ks.mk cr j)<|
 st ⟨b,0⟩ [.bool true]<|
 h 1) λk=>oO 0 k (c ())<|
 oO 1 k (ld cr ⟨a,0⟩ λ(l:Int×Int)=>
 qt ⟨b,0⟩ λm=>
 lB n0<|R (l,m))<|
 gx) λ(n:Unit)=>
 st ⟨a,0⟩ [zu,zu]<|
 st ⟨b,0⟩ [.bool false]<|
 ld cr ⟨a,0⟩ λ(o:Int×Int)=>
 qt ⟨b,0⟩ λp=>
 lB n0<|R (o,p):=TI Tryz.func114 (.s .o (.j [] (.s .o (.b (.r [.agg [.int .u64,.int .u64]] .o (.b (.s .o .o))))) (.s .o .o)))
instance aab(t:Option Pt)(gz:Sl)(was i:Int):bs (SK t gz was i) λR=>
 loop UZ (was,i,(IntKind.i64.wrap (((gz.len:Nat):Int)-1))) λa (b:Ai)=>
 aq (decide (b.2.2≥0)) (
 idx gz b.2.2 1 λc=>
 de c λd=>
 deref t λe=>
 iS e 1 λf=>
 idx f d 5 λg=>
 gw g 2 λh=>
 aq (h==b.1) (
 deref t λj=>
 iS j 1 λk=>
 idx k d 5 λl=>
 so l 2 [.int .i64 b.2.1]<|
 bg (IE t d) λm=>
 a (d,m,(IntKind.i64.wrap (b.2.2-1))))<|
 deref t λn=>
 iS n 1 λo=>
 idx o d 5 λp=>
 so p 3 [.int .i64 b.2.1]<|
 bg (IE t d) λq=>
 a (d,q,(IntKind.i64.wrap (b.2.2-1))))<|
 deref t λr=>
 so r 2 [.int .i64 (IntKind.i64.wrap (b.2.1+1))]<|
 R ():=bt Tryz.func219 (uz 0x110812010480430420c6080041)
instance aai(d:Option Pt)(o:Int):bs (IE d o) λR=>
 bS (Fp d o) λa=>
 bg (KO d o) λb=>
 aq (decide (b>1)) (
 deref d λc=>
 iS c 1 λe=>
 idx e o 5 λf=>
 gw f 2 λg=>
 bg (KO d g) λh=>
 aq (decide (h<0)) (
 bF<|
 deref d λi=>
 deref d λj=>
 iS i 1 λk=>
 iS j 1 λl=>
 idx l o 5 λm=>
 gw m 2 λn=>
 bg (KQ d n) λp=>
 ry i 1 k<|
 idx k o 5 λq=>
 so q 2 [.int .i64 p]<|
 bg (KT d o) λr=>
 R r)<|
 bg (KT d o) λs=>
 R s)<|
 aq (decide (b<(-1))) (
 deref d λt=>
 iS t 1 λu=>
 idx u o 5 λv=>
 gw v 3 λw=>
 bg (KO d w) λx=>
 aq (decide (x>0)) (
 bF<|
 deref d λy=>
 deref d λz=>
 iS y 1 λA=>
 iS z 1 λB=>
 idx B o 5 λC=>
 gw C 3 λD=>
 bg (KT d D) λE=>
 ry y 1 A<|
 idx A o 5 λF=>
 so F 3 [.int .i64 E]<|
 bg (KQ d o) λG=>
 R G)<|
 bg (KQ d o) λH=>
 R H)<|
 R o:=bt Tryz.func226 (uz 0x1c01c08217d1a905543e97963aa34c6da2e92432021c104a9401a500594112500097b0c10010410011c08217d1a905543e97963aa34c6da2e92432021c104a9401a50059411250009590c1001041001080041001001)
instance Zi(t:Option Pt)(gz:Sl)(k:Int×Int):bs (Ox t gz k) λR=>
 new (Ks.mk cr k) λa=>
 join cb (λb=>
 bF<|
 aq (decide (((gz.len:Nat):Int)>0)) (
 ld cr ⟨a,0⟩ λ(c:Int×Int)=>
 deref t λd=>
 idx gz (IntKind.i64.wrap (((gz.len:Nat):Int)-1)) 1 λe=>
 iS d 1 λf=>
 de e λg=>
 idx f g 5 λh=>
 ld cr h λ(i:Int×Int)=>
 b ((i.1==c.1)&&(i.2==c.2)))<|
 b false) λ(j:Bool)=>
 aq j (
 idx gz (IntKind.i64.wrap (((gz.len:Nat):Int)-1)) 1 λl=>
 de l λm=>
 R m)<|
 R (-1):=bt Tryz.func163 (uz 0x1cc821311a607cc42d78c3a974c36971730cb5b30ba4f306a5a60c2ad38c16964c26934c1293053e93072293011e93000e90811c09490c26c1100041001)
instance Zk(d:Option Pt)(o:Sl)(a a':Int):bs (RZ d o a a') λR=>
 loop UZ (a,a',(IntKind.i64.wrap (((o.len:Nat):Int)-1))) λb (c:Ai)=>
 aq (decide (c.2.2≥0)) (
 idx o c.2.2 1 λe=>
 de e λf=>
 join cb (λg=>
 bF<|
 deref d λh=>
 iS h 1 λi=>
 idx i f 5 λj=>
 gw j 2 λk=>
 aq (k==c.1) (
 aq (c.1 !=(-1)) (
 g true)<|
 deref d λl=>
 deref d λm=>
 iS l 1 λn=>
 iS m 1 λp=>
 idx n c.2.1 5 λq=>
 idx p f 5 λr=>
 ld cr q λ(s:Int×Int)=>
 ld cr r λ(t:Int×Int)=>
 bg (OI s t) λu=>
 g (decide (u<0)))<|
 g false) λ(v:Bool)=>
 aq v (
 deref d λw=>
 iS w 1 λx=>
 idx x f 5 λy=>
 so y 2 [.int .i64 c.2.1]<|
 bg (IE d f) λz=>
 b (f,z,(IntKind.i64.wrap (c.2.2-1))))<|
 deref d λA=>
 iS A 1 λB=>
 idx B f 5 λC=>
 so C 3 [.int .i64 c.2.1]<|
 bg (IE d f) λD=>
 b (f,D,(IntKind.i64.wrap (c.2.2-1))))<|
 deref d λE=>
 so E 2 [.int .i64 (IntKind.i64.wrap (c.2.1+1))]<|
 R ():=bt Tryz.func165 (uz 0x1e0c5b869c1e6e0b6f79fa6e99e7aeb5e76995e569b1e72991e529aea79bb6389e4eda5e66985e469a1e62981e4299de5e97de3e97896a97805a97834a97803a975b36971b3296c22e9299609a47195505a430810889491250009540c2d811010010812010480430420c6080041)
instance abl(t:Option Pt)(i:Int):bs (IH t i) λR=>
 aq (i==(-1)) (
 R 0)<|
 deref t λa=>
 iS a 1 λb=>
 idx b i 5 λc=>
 gw c 4 λd=>
 R d:=bt Tryz.func293 (uz 0xa)
instance aaZ(t:Option Pt)(i:Int):bs (KO t i) λR=>
 bF<|
 deref t λa=>
 deref t λb=>
 iS a 1 λc=>
 iS b 1 λd=>
 idx c i 5 λe=>
 idx d i 5 λf=>
 gw e 2 λg=>
 gw f 3 λh=>
 bg (IH t g) λj=>
 FO f 3 h<|
 ry b 1 d<|
 bg (IH t h) λk=>
 R (IntKind.i64.wrap (j-k)):=bt Tryz.func270 (uz 0x209559a4394a633d3a8d149a922111e07d0a4a246a4e10d0cc0813e500b9402a50459400650009440c1001)
instance aaa(t:Option Pt)(i:Int):bs (KG t i) λR=>
 loop [.int .i64,.sl] (i,⟨none,0,0⟩) λa (b:Int×Sl)=>
 aq (b.1 !=(-1)) (
 new [.int .i64 b.1] λc=>
 mw 1 b.2 ⟨some ⟨c,0⟩,1,1⟩ λd=>
 deref t λe=>
 iS e 1 λf=>
 idx f b.1 5 λg=>
 gw g 2 λh=>
 a (h,d))<|
 R b.2:=bt Tryz.func218 (uz 0x7000081201105041086081001001)
instance aaY(t:Option Pt)(i:Int):bs (Fp t i) λR=>
 deref t λa=>
 iS a 1 λb=>
 idx b i 5 λc=>
 bF<|
 deref (some c) λd=>
 deref (some c) λe=>
 gw d 2 λf=>
 gw e 3 λg=>
 bg (IH t f) λh=>
 FO e 3 g<|
 bg (IH t g) λj=>
 deref (some c) λk=>
 so k 4 [.int .i64 (IntKind.i64.wrap ((if j>h then j else h)+1))]<|
 R ():=bt Tryz.func269 (uz 0x2085f46a40b3e539d5cda5c60ca96306a8b14a1090c42250079440a5001944025283001)
instance Z_(t:Option Pt):bs (KE t) λR=>
 aq t.isNone (
 R (-1))<|
 deref t λa=>
 gw a 2 λb=>
 R (IntKind.i64.wrap (b-1)):=bt Tryz.func217 (uz 0xa)
instance aa0(t:Option Pt)(i:Int):bs (KQ t i) λR=>
 deref t λa=>
 iS a 1 λb=>
 idx b i 5 λc=>
 gw c 3 λd=>
 bF<|
 deref t λe=>
 deref t λf=>
 deref t λg=>
 iS e 1 λh=>
 iS f 1 λj=>
 iS g 1 λk=>
 idx k d 5 λl=>
 gw l 2 λm=>
 idx h i 5 λn=>
 so n 3 [.int .i64 m]<|
 idx j d 5 λo=>
 so o 2 [.int .i64 i]<|
 bS (Fp t i) λp=>
 bS (Fp t d) λq=>
 R d:=bt Tryz.func271 (uz 0xb8278d8aa65e56995a996256a515513a5141f78fa4d20330708b1810529453a500a94526500594112500094d0c1001001)
instance aa1(t:Option Pt)(i:Int):bs (KT t i) λR=>
 deref t λa=>
 iS a 1 λb=>
 idx b i 5 λc=>
 gw c 2 λd=>
 bF<|
 deref t λe=>
 deref t λf=>
 deref t λg=>
 iS e 1 λh=>
 iS f 1 λj=>
 iS g 1 λk=>
 idx k d 5 λl=>
 gw l 3 λm=>
 idx h i 5 λn=>
 so n 2 [.int .i64 m]<|
 idx j d 5 λo=>
 so o 3 [.int .i64 i]<|
 bS (Fp t i) λp=>
 bS (Fp t d) λq=>
 R d:=bt Tryz.func272 (uz 0xb8278d8aa65e56995a996256a515513a5141f78fa4d20330708b1810529453a500a94526500594112500094d0c1001001)
instance Zh(t:Option Pt)(k:Int×Int):bs (Ow t k) λR=>
 new (Ks.mk cr k) λa=>
 bg (KE t) λb=>
 loop [.sl,.int .i64] (⟨none,0,0⟩,b) λc (d:Sl×Int)=>
 aq (d.2 !=(-1)) (
 new [.int .i64 d.2] λe=>
 mw 1 d.1 ⟨some ⟨e,0⟩,1,1⟩ λf=>
 bF<|
 ld cr ⟨a,0⟩ λ(g:Int×Int)=>
 deref t λh=>
 iS h 1 λi=>
 idx i d.2 5 λj=>
 ld cr j λ(l:Int×Int)=>
 bg (OI g l) λm=>
 aq (decide (m<0)) (
 deref t λn=>
 iS n 1 λo=>
 idx o d.2 5 λp=>
 gw p 2 λq=>
 c (f,q))<|
 aq (decide (m>0)) (
 deref t λr=>
 iS r 1 λs=>
 idx s d.2 5 λu=>
 gw u 3 λv=>
 c (f,v))<|
 R f)<|
 R d.1:=bt Tryz.func162 (uz 0x740281a2a665126a2075951a91030861650019430253c3040042201046105086081001001001001)
instance aah(a b:Int×Int):bs (OI a b) λR=>
 new (Ks.mk cr a) λc=>
 new (Ks.mk cr b) λd=>
 bF<|
 bz ⟨c,0⟩ λe=>
 bz ⟨d,0⟩ λf=>
 bz ⟨c,1⟩ λg=>
 bz ⟨d,1⟩ λh=>
 bg (OS e f) λi=>
 co ⟨d,1⟩ (Ks.mk cu h)<|
 co ⟨c,1⟩ (Ks.mk cu g)<|
 bg (OS g h) λj=>
 new [.int .i64 i,.int .i64 j] λk=>
 bg (Td ⟨some ⟨k,0⟩,2,2⟩) λl=>
 R l:=bt Tryz.func225 (uz 0x81c3263cb98e24aa8d2c9a88184a881830431e50859430a50809440c1001)
instance Zp:bs R6 λR=>
 new [zu,zu] λa=>
 R (some ⟨a,0⟩):=bt Tryz.func170 (uz 8)
instance YO(r:Option Pt):bs (Om r) λR=>
 aq r.isNone (
 R 0)<|
 deref r λa=>
 bz a λb=>
 R b:=bt Tryz.func132 (uz 0xa)
instance aa7(r:Option Pt)(s:eI):bs (Tg r s) λR=>
 new (Ks.mk aO s) λa=>
 loop cb false λb (c:Bool)=>
 join [] (λd=>
 aq (!r.isNone) (
 bz ⟨a,5⟩ λe=>
 aq (decide (e>0)) (
 d ())<|
 R c)<|
 R c) λ(f:Unit)=>
 bF<|
 bz ⟨a,2⟩ λg=>
 deref r λh=>
 cZ h 1 λi=>
 aq (decide (g<i)) (
 R c)<|
 bz ⟨a,1⟩ λj=>
 deref r λk=>
 so k 1 [.int .u64 j]<|
 deref r λl=>
 bz l λm=>
 deref r λn=>
 st n [.int .u64 (IntKind.u64.wrap (m+1))]<|
 R true:=bt Tryz.func278 (uz 0x1c81e058e1a91440c1002943025303041088004085046081001001001)
instance Yz:bs RH λR=>
 new [zu,zu,zu,zu,.bool false,zu,zu,zu,.bool false,zu,zu] λa=>
 R (some ⟨a,0⟩):=bt Tryz.func117 (uz 8)
instance Zy(d:Option Pt)(o a:Int)(a':lm):bs (Sd d o a a') λR=>
 new (Ks.mk bZ a') λb=>
 aq d.isNone (
 R ())<|
 deref d λc=>
 bz c λe=>
 aM (n_ e a) λf=>
 deref d λg=>
 st g [.int .u64 f]<|
 deref d λh=>
 so h 1 [.int .u64 o]<|
 join [] (λi=>
 bF<|
 deref d λj=>
 deref d λk=>
 bz j λl=>
 cZ k 3 λm=>
 aq (decide (l>m)) (
 deref d λn=>
 so n 3 [zu]<|
 i ())<|
 i ()) λ(p:Unit)=>
 deref d λq=>
 cZ q 5 λr=>
 aM (n_ r a) λs=>
 deref d λt=>
 so t 5 [.int .u64 s]<|
 join [] (λu=>
 join cb (λv=>
 bF<|
 deref d λw=>
 ob w 4 λx=>
 aq (!x) (
 v true)<|
 bz ⟨b,1⟩ λy=>
 deref d λz=>
 cZ z 6 λA=>
 v (decide (y≥A))) λ(B:Bool)=>
 aq B (
 bF<|
 bz ⟨b,1⟩ λC=>
 bz ⟨b,2⟩ λD=>
 qt ⟨b,4⟩ λE=>
 deref d λF=>
 so F 6 [.int .u64 C]<|
 co ⟨b,4⟩ (Ks.mk cb E)<|
 co ⟨b,2⟩ (Ks.mk cu D)<|
 deref d λG=>
 so G 7 [.int .u64 D]<|
 co ⟨b,4⟩ (Ks.mk cb E)<|
 deref d λH=>
 so H 8 [.bool E]<|
 bF<|
 bz ⟨b,0⟩ λI=>
 bz ⟨b,3⟩ λJ=>
 bz ⟨b,0⟩ λK=>
 aM (yh I J) λL=>
 co ⟨b,0⟩ (Ks.mk cu K)<|
 aM (yh o K) λM=>
 deref d λN=>
 so N 9 [.int .u64 L]<|
 deref d λO=>
 so O 10 [.int .u64 M]<|
 bz ⟨b,0⟩ λQ=>
 deref d λS=>
 so S 2 [.int .u64 Q]<|
 u ())<|
 u ()) λ(T:Unit)=>
 deref d λU=>
 so U 4 [.bool true]<|
 R ():=bt Tryz.func179 (uz 0x2085b4aa81195f42548f95e5cea8d3112e56982aa5941aa2450c72250479471251c2940065000950fc306089952a8539604a54d195f5d0a9e3e574e95236571532a2ca4499481841c79471651c39400a5001940025f4304181f5cfa5e6573ad7573697173296d72e96972a96172295c02695c71e918510308100096d0c2f41100100047818508a470c60850401250009560c1004001201001)
instance aat(s:Option Pt)(flight:Int):bs (SU s flight) λR=>
 aq (!s.isNone) (
 deref s λa=>
 bz a λb=>
 aM (n_ b flight) λc=>
 deref s λd=>
 so d 3 [.int .u64 (if c>1 then c else 1)]<|
 R ())<|
 R ():=bt Tryz.func238 (uz 8)
instance ZC(s:Option Pt)(ao flight:Int):bs (Ky s ao flight) λR=>
 new [zu,zu,zu,zu,.bool false] λa=>
 aq s.isNone (
 st ⟨a,0⟩ [zu,zu,zu,zu,.bool false]<|
 ld bZ ⟨a,0⟩ λb=>
 R b)<|
 join [] (λc=>
 aq (flight==0) (
 deref s λd=>
 so d 2 [.int .u64 ao]<|
 deref s λe=>
 so e 1 [.int .u64 ao]<|
 c ())<|
 c ()) λ(f:Unit)=>
 bF<|
 deref s λg=>
 deref s λh=>
 deref s λi=>
 deref s λj=>
 bz g λk=>
 cZ h 1 λl=>
 cZ i 2 λm=>
 cZ j 3 λn=>
 st ⟨a,0⟩ [.int .u64 ao,.int .u64 k,.int .u64 l,.int .u64 m,.bool (n !=0)]<|
 ld bZ ⟨a,0⟩ λo=>
 R o:=bt Tryz.func183 (uz 0x823193aa27595514b545030810f2c70ce2860803650099401650019410254c3048004241001)
instance aar(s:Option Pt)(ao be flight:Int):bs (SS s ao be flight) λR=>
 new [zu,zu,zu,zu,zu,zu,zu,zu,.bool false] λa=>
 aq s.isNone (
 st ⟨a,0⟩ [zu,zu,zu,zu,zu,zu,zu,zu,.bool false]<|
 ld aO ⟨a,0⟩ λb=>
 R b)<|
 deref s λc=>
 bz c λd=>
 new [zu,zu,zu,zu,zu,zu,zu,zu,.bool false] λe=>
 st ⟨e,0⟩ [.int .u64 ao,.int .u64 d,zu,zu,zu,zu,.int .u64 be,.int .u64 flight,.bool false]<|
 join [] (λf=>
 deref s λg=>
 lo C9 g 4 λ(h:J2)=>
 new [.bool false,zu,zu,zu,.bool false,zu,zu] λi=>
 st ⟨i,0⟩ (Ks.mk C9 h)<|
 qt ⟨i,0⟩ λj=>
 aq j (
 bF<|
 bz ⟨i,1⟩ λk=>
 bz ⟨i,2⟩ λl=>
 qt ⟨i,4⟩ λm=>
 bz ⟨i,6⟩ λn=>
 st ⟨e,5⟩ [.int .u64 k]<|
 co ⟨i,6⟩ (Ks.mk cu n)<|
 co ⟨i,4⟩ (Ks.mk cb m)<|
 co ⟨i,2⟩ (Ks.mk cu l)<|
 st ⟨e,2⟩ [.int .u64 l]<|
 co ⟨i,6⟩ (Ks.mk cu n)<|
 co ⟨i,4⟩ (Ks.mk cb m)<|
 st ⟨e,8⟩ [.bool m]<|
 co ⟨i,6⟩ (Ks.mk cu n)<|
 st ⟨e,4⟩ [.int .u64 n]<|
 bF<|
 bz ⟨i,5⟩ λo=>
 bz ⟨i,3⟩ λp=>
 aM (yh ao p) λq=>
 co ⟨i,5⟩ (Ks.mk cu o)<|
 new [.int .u64 o,.int .u64 q] λr=>
 aM (Tq ⟨some ⟨r,0⟩,2,2⟩) λt=>
 st ⟨e,3⟩ [.int .u64 t]<|
 f ())<|
 f ()) λ(u:Unit)=>
 deref s λv=>
 so v 4 [.bool false,zu,zu,zu,.bool false,zu,zu]<|
 ld aO ⟨e,0⟩ λw=>
 st ⟨a,0⟩ (Ks.mk aO w)<|
 ld aO ⟨a,0⟩ λx=>
 R x:=bt Tryz.func236 (uz 0x802065826a2489571e65921aa55316a1012839410a52809670e07183ea24e95b58da893256942ea24a959489a892251c50c128694a12528294a0256c3041001001004001241001)
instance abh(l:Sl):bs (Tq l) λR=>
 loop [.int .u64,.int .i64] (0,0) λa (b:Int×Int)=>
 aq (decide (b.2<((l.len:Nat):Int))) (
 idx l b.2 1 λc=>
 bz c λd=>
 aq (decide (d≤b.1)) (
 a (b.1,(IntKind.i64.wrap (b.2+1))))<|
 a (d,(IntKind.i64.wrap (b.2+1))))<|
 R b.1:=bt Tryz.func289 (uz 0x70110811c1001048003086080041001001001)
instance Zl(a b:Int):bs (n_ a b) λR=>
 call E7 lh [vu a,vu b,.lf (zu)] [qu,qu] λ(c:Int×Int)=>
 aq (decide (c.2>0)) (
 R 18446744073709551615)<|
 R c.1:=bt Tryz.func166 (uz 0x17)
instance abJ(a b:Int):bs (KZ a b) λR=>
 bE (OW a b) λ(c:Int×Int)=>
 aq (decide (c.1>0)) (
 R 18446744073709551615)<|
 R c.2:=bt Tryz.func316 (uz 0x17)
instance aap(a b:Int):bs (yh a b) λR=>
 R (IntKind.u64.wrap (a-(if b<a then b else a))):=bt Tryz.func234 (uz 8)
instance i87(s:Sl):bs (WC s) λR=>
 aq (Sl.isNil s) (
 R ⟨none,0,0⟩)<|
 new [] λa=>
 mw 5 ⟨some ⟨a,0⟩,0,0⟩ s λb=>
 R b:=bt Tryz.func87 (uz 0xa)
instance aae(slices:Sl):bs (SM slices) λR=>
 loop [.int .i64,.int .i64] (0,0) λa (b:Int×Int)=>
 aq (decide (b.2<((slices.len:Nat):Int))) (
 idx slices b.2 1 λc=>
 ec c λd=>
 aq (decide ((IntKind.i64.wrap (b.1+((d.len:Nat):Int)))<0)) (
 gx)<|
 a ((IntKind.i64.wrap (b.1+((d.len:Nat):Int))),(IntKind.i64.wrap (b.2+1))))<|
 bE (Tb ⟨none,0,0⟩ b.1) λ(e:Sl)=>
 loop [.sl,.int .i64] (e,0) λf (g:Sl×Int)=>
 aq (decide (g.2<((slices.len:Nat):Int))) (
 idx slices g.2 1 λh=>
 ec h λi=>
 mw 1 g.1 i λj=>
 f (j,(IntKind.i64.wrap (g.2+1))))<|
 R g.1:=bt Tryz.func222 (uz 0x70070811c100105b1060860800410010100811c100104b043086080041001001)
instance aa4(s:Sl)(f:Fv):bs (OT s f) λR=>
 bg (Tt s f) λa=>
 R (decide (a≥0)):=bt Tryz.func275 (uz 8)
instance aag(s:Sl)(del:Fv):bs (OH s del) λR=>
 bg (Tc s del) λa=>
 aq (a==(-1)) (
 R s)<|
 loop [.int .i64,.int .i64] (a,(IntKind.i64.wrap (a+1))) λb (c:Int×Int)=>
 aq (decide (c.2<((s.len:Nat):Int))) (
 idx s c.2 1 λd=>
 de d λe=>
 tg Tryz.prog del [vi e] [qb] λ(f:Bool)=>
 aq (!f) (
 idx s c.1 1 λg=>
 st g [.int .i64 e]<|
 b ((IntKind.i64.wrap (c.1+1)),(IntKind.i64.wrap (c.2+1))))<|
 b (c.1,(IntKind.i64.wrap (c.2+1))))<|
 EF s (some c.1) none none 1 λh=>
 WI [zi] h<|
 EF s none (some c.1) none 1 λi=>
 R i:=bt Tryz.func224 (uz 0x800f081201046045086080041241001001)
instance aaU(s:Sl)(n:Int):bs (Tb s n) λR=>
 join [] (λa=>
 aq (decide (n<0)) (
 gx)<|
 a ()) λ(b:Unit)=>
 aq (decide ((IntKind.i64.wrap (n-(IntKind.i64.wrap (((s.cp:Nat):Int)-((s.len:Nat):Int)))))>0)) (
 EF s none (some ((s.cp:Nat):Int)) none 1 λc=>
 N4 [zi] 1 c (IntKind.i64.wrap (n-(IntKind.i64.wrap (((s.cp:Nat):Int)-((s.len:Nat):Int))))) λd=>
 EF d none (some ((s.len:Nat):Int)) none 1 λe=>
 R e)<|
 R s:=bt Tryz.func265 (uz 0xe08004001)
instance abn(s:Sl)(f:Fv):bs (Tt s f) λR=>
 loop ci 0 λa (b:Int)=>
 aq (decide (b<((s.len:Nat):Int))) (
 idx s b 2 λc=>
 ld cr c λ(d:Int×Int)=>
 tg Tryz.prog f [.agg (Ks.mk cr d)] [qb] λ(e:Bool)=>
 aq e (
 R b)<|
 a (IntKind.i64.wrap (b+1)))<|
 R (-1):=bt Tryz.func295 (uz 0x700f0811c1001048046080041001)
instance aaV(s:Sl)(f:Fv):bs (Tc s f) λR=>
 loop ci 0 λa (b:Int)=>
 aq (decide (b<((s.len:Nat):Int))) (
 idx s b 1 λc=>
 de c λd=>
 tg Tryz.prog f [vi d] [qb] λ(e:Bool)=>
 aq e (
 R b)<|
 a (IntKind.i64.wrap (b+1)))<|
 R (-1):=bt Tryz.func266 (uz 0x700f0811c1001048046080041001)
instance i76(id:Int)(c:cP):bs (XO id c) λR=>
 new (Ks.mk aW c) λa=>
 de ⟨a,8⟩ λb=>
 bF<|
 de ⟨a,7⟩ λd=>
 ko (RE 1073741824) λe=>
 co ⟨a,7⟩ (Ks.mk ci d)<|
 ko RG λf=>
 co ⟨a,7⟩ (Ks.mk ci d)<|
 ko RH λg=>
 co ⟨a,7⟩ (Ks.mk ci d)<|
 ko (Oh (IntKind.u64.wrap (if 9000<(if 100>b then 100 else b)then 9000 else(if 100>b then 100 else b)))) λh=>
 co ⟨a,7⟩ (Ks.mk ci d)<|
 new [.int .i64 id,.int .i64 (if 9000<(if 100>b then 100 else b)then 9000 else(if 100>b then 100 else b)),.int .i64 d,.ptr e,.ptr f,.ptr g,.ptr h,zu,zu] λi=>
 R (some ⟨i,0⟩):=bt Tryz.func76 (uz 0x81c3266cb99a5cf38d2ca2bd6499868858848880c51e50c29450650009490c1001001)
instance YE(s:Option Pt)(ao upto:Int)(sacks:Sl):bs (RK s ao upto sacks) λR=>
 aq s.isNone (
 R 2)<|
 deref s λa=>
 fx a 4 λb=>
 bE (OA b upto sacks) λ(c:Sl×Int×Int)=>
 aq (c.2.2 !=0) (
 R c.2.2)<|
 deref s λd=>
 fx d 3 λe=>
 bg (Sc e upto) λf=>
 loop cl c.1 λg (h:Sl)=>
 aq (((h.len:Nat):Int)==0) (
 bS (OB s ao c.2.1) λi=>
 R 0)<|
 idx h 0 9 λj=>
 ld aD j λk=>
 new [zu,zu,zu,zu,zu,zu,.bool false,.bool false,.bool false] λl=>
 st ⟨l,0⟩ (Ks.mk aD k)<|
 EF h (some 1) none none 9 λm=>
 bF<|
 deref s λn=>
 bz ⟨l,1⟩ λo=>
 bz ⟨l,0⟩ λp=>
 ld bZ ⟨l,2⟩ λq=>
 fx n 5 λr=>
 bS (Sd r ao (IntKind.u64.wrap (o-p)) q) λt=>
 g m:=bt Tryz.func122 (uz 0x22071a5543320d95c9a422c818130a94c1e530594112500096a0c0040048042109046081001001241001241001)
instance YG(s:Option Pt)(n:Int):bs (Oj s n) λR=>
 join [] (λa=>
 aq s.isNone (
 R 2)<|
 aq (decide (n<1)) (
 R 1)<|
 deref s λb=>
 cZ b 7 λc=>
 aq (decide ((IntKind.u64.wrap n)>c)) (
 R 1)<|
 a ()) λ(d:Unit)=>
 deref s λe=>
 cZ e 7 λf=>
 deref s λg=>
 so g 7 [.int .u64 (IntKind.u64.wrap (f-(IntKind.u64.wrap n)))]<|
 R 0:=bt Tryz.func124 (uz 0x8342004001)
instance YH(d:Option Pt)(o:Int):bs (RM d o) λR=>
 new [zi,zu,zi,zu,.bool false] λa=>
 aq d.isNone (
 st ⟨a,0⟩ [zi,zu,zi,zu,.bool false]<|
 ld aS ⟨a,0⟩ λb=>
 R (b,2))<|
 bg (Sf d) λc=>
 aq (c !=0) (
 st ⟨a,0⟩ [zi,zu,zi,zu,.bool false]<|
 ld aS ⟨a,0⟩ λe=>
 R (e,c))<|
 bF<|
 deref d λf=>
 fx f 5 λg=>
 both (
 aM (NR d) λh=>
 kY f 5 g<|
 both (
 bE (Ky g o h) λ(i:lm)=>
 new [zu,zu,zu,zu,.bool false] λj=>
 kY f 5 g<|
 st ⟨j,0⟩ (Ks.mk bZ i)<|
 bF<|
 ld bZ ⟨j,0⟩ λk=>
 deref d λl=>
 fx l 4 λm=>
 both (
 bE (Dr m k) λ(n:(Int×Int)×Bool)=>
 new [zu,zu] λp=>
 kY l 4 m<|
 co ⟨j,0⟩ (Ks.mk bZ k)<|
 st ⟨p,0⟩ (Ks.mk cr n.1)<|
 join [] (λq=>
 aq (!n.2) (
 bF<|
 deref d λr=>
 fx r 3 λs=>
 bg (II d) λt=>
 kY r 3 s<|
 bE (Ds s t) λ(u:(Int×Int)×Bool)=>
 st ⟨p,0⟩ (Ks.mk cr u.1)<|
 bF<|
 ld bZ ⟨j,0⟩ λv=>
 deref d λw=>
 bz ⟨p,0⟩ λx=>
 bz ⟨p,1⟩ λy=>
 fx w 4 λz=>
 bg (Dt z x y v) λA=>
 q ())<|
 q ()) λ(B:Unit)=>
 bF<|
 deref d λC=>
 bz ⟨p,0⟩ λD=>
 bz ⟨p,1⟩ λE=>
 bz ⟨p,0⟩ λF=>
 deref d λG=>
 de C λH=>
 cZ G 8 λI=>
 new [zi,zu,zi,zu,.bool false] λJ=>
 jy G 8 I<|
 co C (Ks.mk ci H)<|
 co ⟨p,0⟩ (Ks.mk cu F)<|
 co ⟨p,1⟩ (Ks.mk cu E)<|
 co ⟨p,0⟩ (Ks.mk cu D)<|
 st ⟨J,0⟩ [.int .i64 H,.int .u64 D,.int .i64 (IntKind.i64.wrap (IntKind.u64.wrap (E-F))),.int .u64 (if I>o then I else o),.bool n.2]<|
 bF<|
 bz ⟨J,3⟩ λK=>
 de ⟨J,2⟩ λL=>
 deref d λM=>
 fx M 6 λN=>
 bE (IJ N) λ(O:eN)=>
 co ⟨J,2⟩ (Ks.mk ci L)<|
 co ⟨J,3⟩ (Ks.mk cu K)<|
 aM (Al L O.2.2.1) λQ=>
 co ⟨J,3⟩ (Ks.mk cu K)<|
 aM (n_ K Q) λS=>
 deref d λT=>
 so T 8 [.int .u64 S]<|
 bF<|
 deref d λU=>
 de ⟨J,2⟩ λV=>
 cZ U 7 λX=>
 deref d λY=>
 so Y 7 [.int .u64 (IntKind.u64.wrap (X+(IntKind.u64.wrap V)))]<|
 ld aS ⟨J,0⟩ λZ=>
 st ⟨a,0⟩ (Ks.mk aS Z)<|
 ld aS ⟨a,0⟩ λa0=>
 R (a0,0))<|
 new [zu,zu] λa1=>
 kY l 4 m<|
 co ⟨j,0⟩ (Ks.mk bZ k)<|
 bE (Dr m k) λ(a2:(Int×Int)×Bool)=>
 st ⟨a1,0⟩ (Ks.mk cr a2.1)<|
 join [] (λa3=>
 aq (!a2.2) (
 bF<|
 deref d λa4=>
 fx a4 3 λa5=>
 bg (II d) λa6=>
 kY a4 3 a5<|
 bE (Ds a5 a6) λ(a7:(Int×Int)×Bool)=>
 st ⟨a1,0⟩ (Ks.mk cr a7.1)<|
 bF<|
 ld bZ ⟨j,0⟩ λa8=>
 deref d λa9=>
 bz ⟨a1,0⟩ λb0=>
 bz ⟨a1,1⟩ λb1=>
 fx a9 4 λb2=>
 bg (Dt b2 b0 b1 a8) λb3=>
 a3 ())<|
 a3 ()) λ(b4:Unit)=>
 bF<|
 deref d λb5=>
 bz ⟨a1,0⟩ λb6=>
 bz ⟨a1,1⟩ λb7=>
 bz ⟨a1,0⟩ λb8=>
 deref d λb9=>
 de b5 λc0=>
 cZ b9 8 λc1=>
 new [zi,zu,zi,zu,.bool false] λc2=>
 jy b9 8 c1<|
 co b5 (Ks.mk ci c0)<|
 co ⟨a1,0⟩ (Ks.mk cu b8)<|
 co ⟨a1,1⟩ (Ks.mk cu b7)<|
 co ⟨a1,0⟩ (Ks.mk cu b6)<|
 st ⟨c2,0⟩ [.int .i64 c0,.int .u64 b6,.int .i64 (IntKind.i64.wrap (IntKind.u64.wrap (b7-b8))),.int .u64 (if c1>o then c1 else o),.bool a2.2]<|
 bF<|
 bz ⟨c2,3⟩ λc3=>
 de ⟨c2,2⟩ λc4=>
 deref d λc5=>
 fx c5 6 λc6=>
 bE (IJ c6) λ(c7:eN)=>
 co ⟨c2,2⟩ (Ks.mk ci c4)<|
 co ⟨c2,3⟩ (Ks.mk cu c3)<|
 aM (Al c4 c7.2.2.1) λc8=>
 co ⟨c2,3⟩ (Ks.mk cu c3)<|
 aM (n_ c3 c8) λc9=>
 deref d λd0=>
 so d0 8 [.int .u64 c9]<|
 bF<|
 deref d λd1=>
 de ⟨c2,2⟩ λd2=>
 cZ d1 7 λd3=>
 deref d λd4=>
 so d4 7 [.int .u64 (IntKind.u64.wrap (d3+(IntKind.u64.wrap d2)))]<|
 ld aS ⟨c2,0⟩ λd5=>
 st ⟨a,0⟩ (Ks.mk aS d5)<|
 ld aS ⟨a,0⟩ λd6=>
 R (d6,0))<|
 new [zu,zu,zu,zu,.bool false] λd7=>
 kY f 5 g<|
 bE (Ky g o h) λ(d8:lm)=>
 st ⟨d7,0⟩ (Ks.mk bZ d8)<|
 bF<|
 ld bZ ⟨d7,0⟩ λd9=>
 deref d λe0=>
 fx e0 4 λe1=>
 both (
 bE (Dr e1 d9) λ(e2:(Int×Int)×Bool)=>
 new [zu,zu] λe3=>
 kY e0 4 e1<|
 co ⟨d7,0⟩ (Ks.mk bZ d9)<|
 st ⟨e3,0⟩ (Ks.mk cr e2.1)<|
 join [] (λe4=>
 aq (!e2.2) (
 bF<|
 deref d λe5=>
 fx e5 3 λe6=>
 bg (II d) λe7=>
 kY e5 3 e6<|
 bE (Ds e6 e7) λ(e8:(Int×Int)×Bool)=>
 st ⟨e3,0⟩ (Ks.mk cr e8.1)<|
 bF<|
 ld bZ ⟨d7,0⟩ λe9=>
 deref d λf0=>
 bz ⟨e3,0⟩ λf1=>
 bz ⟨e3,1⟩ λf2=>
 fx f0 4 λf3=>
 bg (Dt f3 f1 f2 e9) λf4=>
 e4 ())<|
 e4 ()) λ(f5:Unit)=>
 bF<|
 deref d λf6=>
 bz ⟨e3,0⟩ λf7=>
 bz ⟨e3,1⟩ λf8=>
 bz ⟨e3,0⟩ λf9=>
 deref d λg0=>
 de f6 λg1=>
 cZ g0 8 λg2=>
 new [zi,zu,zi,zu,.bool false] λg3=>
 jy g0 8 g2<|
 co f6 (Ks.mk ci g1)<|
 co ⟨e3,0⟩ (Ks.mk cu f9)<|
 co ⟨e3,1⟩ (Ks.mk cu f8)<|
 co ⟨e3,0⟩ (Ks.mk cu f7)<|
 st ⟨g3,0⟩ [.int .i64 g1,.int .u64 f7,.int .i64 (IntKind.i64.wrap (IntKind.u64.wrap (f8-f9))),.int .u64 (if g2>o then g2 else o),.bool e2.2]<|
 bF<|
 bz ⟨g3,3⟩ λg4=>
 de ⟨g3,2⟩ λg5=>
 deref d λg6=>
 fx g6 6 λg7=>
 bE (IJ g7) λ(g8:eN)=>
 co ⟨g3,2⟩ (Ks.mk ci g5)<|
 co ⟨g3,3⟩ (Ks.mk cu g4)<|
 aM (Al g5 g8.2.2.1) λg9=>
 co ⟨g3,3⟩ (Ks.mk cu g4)<|
 aM (n_ g4 g9) λh0=>
 deref d λh1=>
 so h1 8 [.int .u64 h0]<|
 bF<|
 deref d λh2=>
 de ⟨g3,2⟩ λh3=>
 cZ h2 7 λh4=>
 deref d λh5=>
 so h5 7 [.int .u64 (IntKind.u64.wrap (h4+(IntKind.u64.wrap h3)))]<|
 ld aS ⟨g3,0⟩ λh6=>
 st ⟨a,0⟩ (Ks.mk aS h6)<|
 ld aS ⟨a,0⟩ λh7=>
 R (h7,0))<|
 new [zu,zu] λh8=>
 kY e0 4 e1<|
 co ⟨d7,0⟩ (Ks.mk bZ d9)<|
 bE (Dr e1 d9) λ(h9:(Int×Int)×Bool)=>
 st ⟨h8,0⟩ (Ks.mk cr h9.1)<|
 join [] (λi0=>
 aq (!h9.2) (
 bF<|
 deref d λi1=>
 fx i1 3 λi2=>
 bg (II d) λi3=>
 kY i1 3 i2<|
 bE (Ds i2 i3) λ(i4:(Int×Int)×Bool)=>
 st ⟨h8,0⟩ (Ks.mk cr i4.1)<|
 bF<|
 ld bZ ⟨d7,0⟩ λi5=>
 deref d λi6=>
 bz ⟨h8,0⟩ λi7=>
 bz ⟨h8,1⟩ λi8=>
 fx i6 4 λi9=>
 bg (Dt i9 i7 i8 i5) λj0=>
 i0 ())<|
 i0 ()) λ(j1:Unit)=>
 bF<|
 deref d λj2=>
 bz ⟨h8,0⟩ λj3=>
 bz ⟨h8,1⟩ λj4=>
 bz ⟨h8,0⟩ λj5=>
 deref d λj6=>
 de j2 λj7=>
 cZ j6 8 λj8=>
 new [zi,zu,zi,zu,.bool false] λj9=>
 jy j6 8 j8<|
 co j2 (Ks.mk ci j7)<|
 co ⟨h8,0⟩ (Ks.mk cu j5)<|
 co ⟨h8,1⟩ (Ks.mk cu j4)<|
 co ⟨h8,0⟩ (Ks.mk cu j3)<|
 st ⟨j9,0⟩ [.int .i64 j7,.int .u64 j3,.int .i64 (IntKind.i64.wrap (IntKind.u64.wrap (j4-j5))),.int .u64 (if j8>o then j8 else o),.bool h9.2]<|
 bF<|
 bz ⟨j9,3⟩ λk0=>
 de ⟨j9,2⟩ λk1=>
 deref d λk2=>
 fx k2 6 λk3=>
 bE (IJ k3) λ(k4:eN)=>
 co ⟨j9,2⟩ (Ks.mk ci k1)<|
 co ⟨j9,3⟩ (Ks.mk cu k0)<|
 aM (Al k1 k4.2.2.1) λk5=>
 co ⟨j9,3⟩ (Ks.mk cu k0)<|
 aM (n_ k0 k5) λk6=>
 deref d λk7=>
 so k7 8 [.int .u64 k6]<|
 bF<|
 deref d λk8=>
 de ⟨j9,2⟩ λk9=>
 cZ k8 7 λl0=>
 deref d λl1=>
 so l1 7 [.int .u64 (IntKind.u64.wrap (l0+(IntKind.u64.wrap k9)))]<|
 ld aS ⟨j9,0⟩ λl2=>
 st ⟨a,0⟩ (Ks.mk aS l2)<|
 ld aS ⟨a,0⟩ λl3=>
 R (l3,0))<|
 new [zu,zu,zu,zu,.bool false] λl4=>
 kY f 5 g<|
 aM (NR d) λl5=>
 kY f 5 g<|
 bE (Ky g o l5) λ(l6:lm)=>
 st ⟨l4,0⟩ (Ks.mk bZ l6)<|
 bF<|
 ld bZ ⟨l4,0⟩ λl7=>
 deref d λl8=>
 fx l8 4 λl9=>
 both (
 bE (Dr l9 l7) λ(m0:(Int×Int)×Bool)=>
 new [zu,zu] λm1=>
 kY l8 4 l9<|
 co ⟨l4,0⟩ (Ks.mk bZ l7)<|
 st ⟨m1,0⟩ (Ks.mk cr m0.1)<|
 join [] (λm2=>
 aq (!m0.2) (
 bF<|
 deref d λm3=>
 fx m3 3 λm4=>
 bg (II d) λm5=>
 kY m3 3 m4<|
 bE (Ds m4 m5) λ(m6:(Int×Int)×Bool)=>
 st ⟨m1,0⟩ (Ks.mk cr m6.1)<|
 bF<|
 ld bZ ⟨l4,0⟩ λm7=>
 deref d λm8=>
 bz ⟨m1,0⟩ λm9=>
 bz ⟨m1,1⟩ λn0=>
 fx m8 4 λn2=>
 bg (Dt n2 m9 n0 m7) λn3=>
 m2 ())<|
 m2 ()) λ(n4:Unit)=>
 bF<|
 deref d λn5=>
 bz ⟨m1,0⟩ λn6=>
 bz ⟨m1,1⟩ λn7=>
 bz ⟨m1,0⟩ λn8=>
 deref d λo0=>
 de n5 λo1=>
 cZ o0 8 λo2=>
 new [zi,zu,zi,zu,.bool false] λo3=>
 jy o0 8 o2<|
 co n5 (Ks.mk ci o1)<|
 co ⟨m1,0⟩ (Ks.mk cu n8)<|
 co ⟨m1,1⟩ (Ks.mk cu n7)<|
 co ⟨m1,0⟩ (Ks.mk cu n6)<|
 st ⟨o3,0⟩ [.int .i64 o1,.int .u64 n6,.int .i64 (IntKind.i64.wrap (IntKind.u64.wrap (n7-n8))),.int .u64 (if o2>o then o2 else o),.bool m0.2]<|
 bF<|
 bz ⟨o3,3⟩ λo4=>
 de ⟨o3,2⟩ λo5=>
 deref d λo6=>
 fx o6 6 λo7=>
 bE (IJ o7) λ(o8:eN)=>
 co ⟨o3,2⟩ (Ks.mk ci o5)<|
 co ⟨o3,3⟩ (Ks.mk cu o4)<|
 aM (Al o5 o8.2.2.1) λo9=>
 co ⟨o3,3⟩ (Ks.mk cu o4)<|
 aM (n_ o4 o9) λp0=>
 deref d λp1=>
 so p1 8 [.int .u64 p0]<|
 bF<|
 deref d λp2=>
 de ⟨o3,2⟩ λp3=>
 cZ p2 7 λp4=>
 deref d λp5=>
 so p5 7 [.int .u64 (IntKind.u64.wrap (p4+(IntKind.u64.wrap p3)))]<|
 ld aS ⟨o3,0⟩ λp6=>
 st ⟨a,0⟩ (Ks.mk aS p6)<|
 ld aS ⟨a,0⟩ λp7=>
 R (p7,0))<|
 new [zu,zu] λp8=>
 kY l8 4 l9<|
 co ⟨l4,0⟩ (Ks.mk bZ l7)<|
 bE (Dr l9 l7) λ(p9:(Int×Int)×Bool)=>
 st ⟨p8,0⟩ (Ks.mk cr p9.1)<|
 join [] (λq0=>
 aq (!p9.2) (
 bF<|
 deref d λq1=>
 fx q1 3 λq2=>
 bg (II d) λq3=>
 kY q1 3 q2<|
 bE (Ds q2 q3) λ(q4:(Int×Int)×Bool)=>
 st ⟨p8,0⟩ (Ks.mk cr q4.1)<|
 bF<|
 ld bZ ⟨l4,0⟩ λq6=>
 deref d λq7=>
 bz ⟨p8,0⟩ λq8=>
 bz ⟨p8,1⟩ λq9=>
 fx q7 4 λr0=>
 bg (Dt r0 q8 q9 q6) λr1=>
 q0 ())<|
 q0 ()) λ(r2:Unit)=>
 bF<|
 deref d λr4=>
 bz ⟨p8,0⟩ λr5=>
 bz ⟨p8,1⟩ λr6=>
 bz ⟨p8,0⟩ λr9=>
 deref d λs0=>
 de r4 λs1=>
 cZ s0 8 λs2=>
 new [zi,zu,zi,zu,.bool false] λs3=>
 jy s0 8 s2<|
 co r4 (Ks.mk ci s1)<|
 co ⟨p8,0⟩ (Ks.mk cu r9)<|
 co ⟨p8,1⟩ (Ks.mk cu r6)<|
 co ⟨p8,0⟩ (Ks.mk cu r5)<|
 st ⟨s3,0⟩ [.int .i64 s1,.int .u64 r5,.int .i64 (IntKind.i64.wrap (IntKind.u64.wrap (r6-r9))),.int .u64 (if s2>o then s2 else o),.bool p9.2]<|
 bF<|
 bz ⟨s3,3⟩ λs4=>
 de ⟨s3,2⟩ λs5=>
 deref d λs6=>
 fx s6 6 λs7=>
 bE (IJ s7) λ(s8:eN)=>
 co ⟨s3,2⟩ (Ks.mk ci s5)<|
 co ⟨s3,3⟩ (Ks.mk cu s4)<|
 aM (Al s5 s8.2.2.1) λs9=>
 co ⟨s3,3⟩ (Ks.mk cu s4)<|
 aM (n_ s4 s9) λt0=>
 deref d λt1=>
 so t1 8 [.int .u64 t0]<|
 bF<|
 deref d λt2=>
 de ⟨s3,2⟩ λt3=>
 cZ t2 7 λt4=>
 deref d λt5=>
 so t5 7 [.int .u64 (IntKind.u64.wrap (t4+(IntKind.u64.wrap t3)))]<|
 ld aS ⟨s3,0⟩ λt6=>
 st ⟨a,0⟩ (Ks.mk aS t6)<|
 ld aS ⟨a,0⟩ λt7=>
 R (t7,0):=bt Tryz.func125 (uz 0x781a60aa89448957507a431821412849400257bf0c181f74fa8e44d95c4cca9b54ba8a6499881c610200594a0e52819400253ff0c1824295a948a389c5944f585d46940b0cf6982a908e24714125294036504c94822520694812500097a0c10206585942720c21c50472252069481250009700e06082aa4099502251d6506a951660c20401250009670c104004012060b99720aa9022540794655416a2628182e65c82aa2624089501e5195505ac30811c494002570306060726a5d5507b961a62228181c9a975541ee2228181c9a888975541ef5869c30810059411250009530c13c1241001)
instance i52(s:Option Pt):bs (NR s) λR=>
 aq s.isNone (
 R 0)<|
 deref s λa=>
 fx a 4 λb=>
 aM (XS b) λc=>
 R c:=bt Tryz.func52 (uz 0xa)
instance YF(s:Option Pt)(ao:Int):bs (RL s ao) λR=>
 aq s.isNone (
 R 2)<|
 deref s λa=>
 fx a 4 λb=>
 aM (Se b) λc=>
 bS (OB s ao c) λd=>
 R 0:=bt Tryz.func123 (uz 0x16)
instance i55(s:Option Pt):bs (Vs s) λR=>
 new [zi,zi,zu,zu,zu,zu,zu,zu,.bool false,.bool false] λa=>
 aq s.isNone (
 st ⟨a,0⟩ [zi,zi,zu,zu,zu,zu,zu,zu,.bool false,.bool false]<|
 ld bC ⟨a,0⟩ λb=>
 R b)<|
 deref s λc=>
 fx c 6 λd=>
 bE (IJ d) λ(e:eN)=>
 st ⟨a,0⟩ (Ks.mk bC e)<|
 ld bC ⟨a,0⟩ λf=>
 R f:=bt Tryz.func55 (uz 0xa)
instance i51(s:Option Pt):bs (Wv s) λR=>
 aq s.isNone (
 R 0)<|
 deref s λa=>
 cZ a 7 λb=>
 R b:=bt Tryz.func51 (uz 0xa)
instance i54(s:Option Pt):bs (II s) λR=>
 aq s.isNone (
 R 0)<|
 bF<|
 deref s λa=>
 deref s λb=>
 fx a 6 λc=>
 gw b 1 λd=>
 bE (IJ c) λ(e:eN)=>
 FO b 1 d<|
 bg (XT e.2.2.1 d) λf=>
 R f:=bt Tryz.func54 (uz 0x203cb98e28aa852049890c80870401a50009440c1241001)
instance i53(s:Option Pt):bs (Ww s) λR=>
 aq s.isNone (
 R 0)<|
 deref s λa=>
 fx a 3 λb=>
 aM (Vu b) λc=>
 R c:=bt Tryz.func53 (uz 0xa)
instance YD(s:Option Pt)(n:Int):bs (RJ s n) λR=>
 aq s.isNone (
 R 2)<|
 deref s λa=>
 fx a 3 λb=>
 bg (Sb b n) λc=>
 R c:=bt Tryz.func121 (uz 0xa)
instance Zz(s:Option Pt)(ao be:Int):bs (OB s ao be) λR=>
 bF<|
 deref s λa=>
 deref s λb=>
 fx a 6 λc=>
 fx b 5 λd=>
 aM (NR s) λe=>
 kY b 5 d<|
 kY a 6 c<|
 bE (SS d ao be e) λ(f:eI)=>
 kY a 6 c<|
 bg (II s) λg=>
 kY a 6 c<|
 bE (OK c f (IntKind.u64.wrap g)) λ(h:eN)=>
 R ():=bt Tryz.func180 (uz 0x2081d250b8f78e99c3ce34cc9b2e61c318214100d9402a5089941225004940025143)
instance ZB(d:Option Pt):bs (Sf d) λR=>
 deref d λa=>
 fx a 4 λb=>
 bE (OL b) λ(c:(Int×Int)×Bool)=>
 new [zu,zu] λe=>
 st ⟨e,0⟩ (Ks.mk cr c.1)<|
 deref d λf=>
 fx f 6 λg=>
 bE (IJ g) λ(h:eN)=>
 new [zi,zi,zu,zu,zu,zu,zu,zu,.bool false,.bool false] λi=>
 st ⟨i,0⟩ (Ks.mk bC h)<|
 bF<|
 bz ⟨i,3⟩ λj=>
 aM (NR d) λk=>
 co ⟨i,3⟩ (Ks.mk cu j)<|
 join cb (λl=>
 aq (!c.2) (
 deref d λm=>
 fx m 3 λn=>
 aM (Vu n) λo=>
 l (o==0))<|
 l false) λ(p:Bool)=>
 aq p (
 aq (decide (k<j)) (
 bF<|
 deref d λq=>
 fx q 5 λr=>
 aM (NR d) λs=>
 kY q 5 r<|
 bS (SU r s) λt=>
 R 7)<|
 R 7)<|
 join cb (λu=>
 bF<|
 aq (!(decide (k<j))) (
 u true)<|
 deref d λv=>
 bz ⟨i,2⟩ λw=>
 deref d λx=>
 cZ v 7 λy=>
 gw x 2 λz=>
 bg (II d) λA=>
 FO x 2 z<|
 jy v 7 y<|
 co ⟨i,2⟩ (Ks.mk cu w)<|
 aM (SW w A z) λB=>
 jy v 7 y<|
 bO (SV y B) λC=>
 u (!C)) λ(D:Bool)=>
 aq D (
 R 5)<|
 aq (!c.2) (
 deref d λE=>
 fx E 4 λF=>
 bg (SX F) λG=>
 aq (decide (G≥4096)) (
 R 5)<|
 R 0)<|
 R 0:=bt Tryz.func182 (uz 0x1d38234e68934a98534698174d0b9f6d94cfc9a4caa9e4cea564c6a5d4cda554c5a5c4cca584c8a544c4a5300ba53009a53147a53003a42046025b030ac0441c0816506a951660c20401250009640c1001041002641102060a059a7944a640669839450a50000c1001001001)
instance abv(bw bG gain:Int):bs (OZ bw bG gain) λR=>
 new [.int .u64 bG,.int .u64 1000000000,.int .u64 gain,.int .u64 256] λa=>
 aM (OJ bw ⟨some ⟨a,0⟩,2,2⟩) λb=>
 R b:=bt Tryz.func302 (uz 8)
instance Zu(bw gain:Int):bs (Oz bw gain) λR=>
 new [.int .u64 gain,.int .u64 256] λa=>
 aM (OJ bw ⟨some ⟨a,0⟩,1,1⟩) λb=>
 R b:=bt Tryz.func175 (uz 8)
instance abA(bw bG gain tso bn:Int):bs (Ty bw bG gain tso bn) λR=>
 aq (bG==0) (
 aM (KZ 10 bn) λa=>
 R a)<|
 aM (OZ bw bG gain) λb=>
 aM (KZ 3 tso) λc=>
 aM (n_ b c) λd=>
 aM (KZ 4 bn) λe=>
 R (if e>d then e else d):=bt Tryz.func307 (uz 0xa)
instance aak(v:Int)(l:Sl):bs (OJ v l) λR=>
 loop [.int .u64,.int .i64] (v,0) λa (b:Int×Int)=>
 aq (decide (b.2<((l.len:Nat):Int))) (
 idx l b.2 2 λc=>
 ld cr c λ(d:Int×Int)=>
 new [zu,zu] λe=>
 st ⟨e,0⟩ (Ks.mk cr d)<|
 aq (b.1==0) (
 R b.1)<|
 d_ (0≤(0:Int)∧(0:Int)<2)<|
 bz ⟨e,0+(0:Int).toNat*1⟩ λf=>
 d_ (0≤(1:Int)∧(1:Int)<2)<|
 bz ⟨e,0+(1:Int).toNat*1⟩ λg=>
 aM (Du b.1 f g) λh=>
 a (h,(IntKind.i64.wrap (b.2+1))))<|
 R b.1:=bt Tryz.func229 (uz 0x70110811c1001049000086080041001001)
instance i83(aQ bn:Int):bs (XT aQ bn) λR=>
 d_ ((IntKind.u64.wrap (if(9000:Int)<(if(100:Int)>bn then(100:Int)else bn)then(9000:Int)else(if(100:Int)>bn then(100:Int)else bn)))≠0)<|
 loop cu (IntKind.u64.wrap ((IntKind.u64.wrap (aQ.tdiv 1024)).tdiv (IntKind.u64.wrap (if 9000<(if 100>bn then 100 else bn)then 9000 else(if 100>bn then 100 else bn))))) λa (b:Int)=>
 aq (decide (b<2)) (
 a 2)<|
 d_ ((IntKind.u64.wrap (if(9000:Int)<(if(100:Int)>bn then(100:Int)else bn)then(9000:Int)else(if(100:Int)>bn then(100:Int)else bn)))≠0)<|
 aq (decide (b>(IntKind.u64.wrap ((65536:Int).tdiv (IntKind.u64.wrap (if 9000<(if 100>bn then 100 else bn)then 9000 else(if 100>bn then 100 else bn))))))) (
 d_ ((IntKind.u64.wrap (if(9000:Int)<(if(100:Int)>bn then(100:Int)else bn)then(9000:Int)else(if(100:Int)>bn then(100:Int)else bn)))≠0)<|
 a (IntKind.u64.wrap ((65536:Int).tdiv (IntKind.u64.wrap (if 9000<(if 100>bn then 100 else bn)then 9000 else(if 100>bn then 100 else bn))))))<|
 R (IntKind.i64.wrap (IntKind.u64.wrap (b*(IntKind.u64.wrap (if 9000<(if 100>bn then 100 else bn)then 9000 else(if 100>bn then 100 else bn)))))):=bt Tryz.func83 (uz 0x1d0082006046081001001001001)
instance aav(aQ tso most:Int):bs (SW aQ tso most) λR=>
 loop [.int .u64,.int .i64] (0,0) λa (b:Int×Int)=>
 aq (decide (b.2<2)) (
 VI [.int .u64] [.int .u64 (IntKind.u64.wrap (2*(IntKind.u64.wrap (if 0>tso then 0 else tso)))),.int .u64 (if(IntKind.u64.wrap (if 0>most then 0 else most))<(IntKind.u64.wrap (aQ.tdiv 1024))then(IntKind.u64.wrap (if 0>most then 0 else most))else(IntKind.u64.wrap (aQ.tdiv 1024)))] b.2 2 1 λ(c:Int)=>
 aq (decide (c≤b.1)) (
 a (b.1,(IntKind.i64.wrap (b.2+1))))<|
 a (c,(IntKind.i64.wrap (b.2+1))))<|
 R b.1:=bt Tryz.func240 (uz 0x70110811c1001055007086080041001001001)
instance aau(out limit:Int):bs (SV out limit) λR=>
 R (decide (out<limit)):=bt Tryz.func239 (uz 8)
instance aa3(hi lo c:Int):bs (Tf hi lo c) λR=>
 aq (c==0) (
 R (0,1))<|
 aq (decide (hi≥c)) (
 R (0,3))<|
 loop qn (hi,lo,0,0) λa (b:tc)=>
 aq (b.2.2.2==64) (
 R (b.2.2.1,0))<|
 d_ (0≤(63:Int))<|
 d_ (0≤(1:Int))<|
 d_ (0≤(63:Int))<|
 d_ (0≤(1:Int))<|
 d_ (0≤(1:Int))<|
 aq (((b.1.fdiv (2^min (63:Int).toNat IntKind.u64.bits))==0)&&(decide ((IntKind.u64.wrap (BitVec.ofInt IntKind.u64.bits (IntKind.u64.wrap (b.1*2^min (1:Int).toNat IntKind.u64.bits))|||BitVec.ofInt IntKind.u64.bits (b.2.1.fdiv (2^min (63:Int).toNat IntKind.u64.bits))).toNat)<c))) (
 a ((IntKind.u64.wrap (BitVec.ofInt IntKind.u64.bits (IntKind.u64.wrap (b.1*2^min (1:Int).toNat IntKind.u64.bits))|||BitVec.ofInt IntKind.u64.bits (b.2.1.fdiv (2^min (63:Int).toNat IntKind.u64.bits))).toNat),(IntKind.u64.wrap (b.2.1*2^min (1:Int).toNat IntKind.u64.bits)),(IntKind.u64.wrap (b.2.2.1*2^min (1:Int).toNat IntKind.u64.bits)),(IntKind.i64.wrap (b.2.2.2+1))))<|
 a ((IntKind.u64.wrap ((IntKind.u64.wrap (BitVec.ofInt IntKind.u64.bits (IntKind.u64.wrap (b.1*2^min (1:Int).toNat IntKind.u64.bits))|||BitVec.ofInt IntKind.u64.bits (b.2.1.fdiv (2^min (63:Int).toNat IntKind.u64.bits))).toNat)-c)),(IntKind.u64.wrap (b.2.1*2^min (1:Int).toNat IntKind.u64.bits)),(IntKind.u64.wrap (BitVec.ofInt IntKind.u64.bits (IntKind.u64.wrap (b.2.2.1*2^min (1:Int).toNat IntKind.u64.bits))|||BitVec.ofInt IntKind.u64.bits 1).toNat),(IntKind.i64.wrap (b.2.2.2+1))):=bt Tryz.func274 (uz 0x1f908124020004000418204004004004d081001)
instance aa2(a b:Int):bs (Te a b) λR=>
 bE (OW a b) λ(c:Int×Int)=>
 R (c.1,c.2):=bt Tryz.func273 (uz 8)
instance aaj(a b c:Int):bs (Du a b c) λR=>
 bE (Te a b) λ(d:Int×Int)=>
 aq ((d.1==0)&&(d.2==0)) (
 R 0)<|
 bE (Tf d.1 d.2 c) λ(e:Int×Int)=>
 aq (e.2 !=0) (
 R 18446744073709551615)<|
 R e.1:=bt Tryz.func228 (uz 0x19)
instance ZL(m:Option Pt):bs (Kz m) λR=>
 aq m.isNone (
 R 0)<|
 deref m λa=>
 d_ (0≤(0:Int)∧(0:Int)<3)<|
 bz ⟨a.b,a.o+1+(0:Int).toNat*2+1⟩ λc=>
 R c:=bt Tryz.func192 (uz 0xa)
instance abF(m:Option Pt)(t v:Int):bs (TC m t v) λR=>
 aq m.isNone (
 R ())<|
 deref m λa=>
 cZ a 7 λb=>
 deref m λc=>
 so c 7 [.int .u64 (if t>b then t else b)]<|
 call E7 313 [vp m,.lf (zi),.agg [.int .u64 t,.int .u64 v]] [] λ(d:Unit)=>
 R ():=bt Tryz.func312 (uz 0x12)
instance abr(d:Option Pt)(o a:Int):bs (Tv d o a) λR=>
 aq d.isNone (
 R 0)<|
 deref d λc=>
 cZ c 7 λe=>
 deref d λf=>
 so f 7 [.int .u64 (if o>e then o else e)]<|
 deref d λg=>
 cZ g 7 λh=>
 new [zu,zu] λi=>
 st ⟨i,0⟩ [.int .u64 h,.int .u64 a]<|
 join cb (λj=>
 bF<|
 deref d λk=>
 d_ (0≤(0:Int)∧(0:Int)<3)<|
 bz ⟨k.b,k.o+1+(0:Int).toNat*2+1⟩ λl=>
 aq (decide (a≥l)) (
 j true)<|
 bz ⟨i,0⟩ λm=>
 deref d λn=>
 deref d λp=>
 d_ (0≤(2:Int)∧(2:Int)<3)<|
 bz p λq=>
 ld cr ⟨n.b,n.o+1+(2:Int).toNat*2⟩ λ(r:Int×Int)=>
 bO (Fq m r q) λs=>
 j (!s)) λ(t:Bool)=>
 aq t (
 bz ⟨i,0⟩ λu=>
 bS (TC d u a) λv=>
 R a)<|
 join [] (λw=>
 loop ci 0 λx (y:Int)=>
 aq (decide (y<3)) (
 join cb (λz=>
 aq (decide (y>0)) (
 deref d λA=>
 d_ (0≤y∧y<3)<|
 bz ⟨A.b,A.o+1+y.toNat*2+1⟩ λB=>
 z (decide (a≥B)))<|
 z false) λ(C:Bool)=>
 aq C (
 ld cr ⟨i,0⟩ λ(D:Int×Int)=>
 bS (KY d y D) λE=>
 w ())<|
 x (IntKind.i64.wrap (y+1)))<|
 w ()) λ(F:Unit)=>
 join [] (λG=>
 bF<|
 bz ⟨i,0⟩ λH=>
 deref d λI=>
 deref d λJ=>
 d_ (0≤(0:Int)∧(0:Int)<3)<|
 bz J λK=>
 ld cr ⟨I.b,I.o+1+(0:Int).toNat*2⟩ λ(L:Int×Int)=>
 bO (Fq H L K) λM=>
 aq (!M) (
 ld cr ⟨i,0⟩ λ(N:Int×Int)=>
 bS (O2 d N) λO=>
 bF<|
 bz ⟨i,0⟩ λQ=>
 deref d λS=>
 deref d λT=>
 d_ (0≤(0:Int)∧(0:Int)<3)<|
 bz T λU=>
 ld cr ⟨S.b,S.o+1+(0:Int).toNat*2⟩ λ(V:Int×Int)=>
 bO (Fq Q V U) λX=>
 aq (!X) (
 ld cr ⟨i,0⟩ λ(Y:Int×Int)=>
 bS (O2 d Y) λZ=>
 G ())<|
 G ())<|
 join cb (λa0=>
 bF<|
 deref d λa1=>
 deref d λa2=>
 d_ (0≤(1:Int)∧(1:Int)<3)<|
 d_ (0≤(0:Int)∧(0:Int)<3)<|
 bz ⟨a1.b,a1.o+1+(1:Int).toNat*2⟩ λa3=>
 bz ⟨a2.b,a2.o+1+(0:Int).toNat*2⟩ λa4=>
 aq (a3==a4) (
 bz ⟨i,0⟩ λa5=>
 deref d λa6=>
 deref d λa7=>
 d_ (0≤(0:Int)∧(0:Int)<3)<|
 bz a7 λa8=>
 ld cr ⟨a6.b,a6.o+1+(0:Int).toNat*2⟩ λ(a9:Int×Int)=>
 bO (Fq a5 a9 (IntKind.u64.wrap (a8.tdiv 4))) λb0=>
 a0 (!b0))<|
 a0 false) λ(b1:Bool)=>
 aq b1 (
 ld cr ⟨i,0⟩ λ(b2:Int×Int)=>
 bS (KY d 1 b2) λb3=>
 G ())<|
 join cb (λb4=>
 bF<|
 deref d λb5=>
 deref d λb6=>
 d_ (0≤(2:Int)∧(2:Int)<3)<|
 d_ (0≤(1:Int)∧(1:Int)<3)<|
 bz ⟨b5.b,b5.o+1+(2:Int).toNat*2⟩ λb7=>
 bz ⟨b6.b,b6.o+1+(1:Int).toNat*2⟩ λb8=>
 aq (b7==b8) (
 bz ⟨i,0⟩ λb9=>
 deref d λc0=>
 deref d λc1=>
 d_ (0≤(0:Int)∧(0:Int)<3)<|
 bz c1 λc2=>
 ld cr ⟨c0.b,c0.o+1+(0:Int).toNat*2⟩ λ(c3:Int×Int)=>
 bO (Fq b9 c3 (IntKind.u64.wrap (c2.tdiv 2))) λc4=>
 b4 (!c4))<|
 b4 false) λ(c5:Bool)=>
 aq c5 (
 ld cr ⟨i,0⟩ λ(c6:Int×Int)=>
 bS (KY d 2 c6) λc7=>
 G ())<|
 G ()) λ(c8:Unit)=>
 deref d λc9=>
 d_ (0≤(0:Int)∧(0:Int)<3)<|
 bz ⟨c9.b,c9.o+1+(0:Int).toNat*2+1⟩ λd0=>
 R d0:=bt Tryz.func299 (uz 0x1c782d766b1e729ade6e9aa581e6b2a5e66991e529a1e6298de4e99de5e989e4a999e5a985e4697de3e97805697804297873a935c58ca4b14a1090c80870401a5000950fff0c243ffc1100060b5d9ac79ca6b79ba6a96079aca9799a64794a68798a63793a67797a62792a66796a61791a5f78fa5e015a5e010a5e1cea4d7163292c52842432021c1006940025bbf0c2bbf0441e031b5d22ee18a1491080c10079400a51c095dfc304004181d36631b5d22ee18a1491080c10079400a51c094dfc304200400c0021ff0440010811c100107704608004010004e826656a65655a6481b654c9f64fa63653a5e64ea62652a5d64da61651a5c64ca5a64aa59010a5900ba591c9a485d11e91851030800650809590c2c01101001001241001)
instance abG(m:Option Pt)(from':Int)(s:Int×Int):bs (KY m from' s) λR=>
 new (Ks.mk cr s) λa=>
 deref m λc=>
 EF ⟨some ⟨c.b,c.o+1⟩,3,3⟩ (some from') none none 2 λd=>
 loop ci 0 λe (f:Int)=>
 aq (decide (f<((d.len:Nat):Int))) (
 bF<|
 ld cr ⟨a,0⟩ λ(g:Int×Int)=>
 deref m λh=>
 d_ (0≤(IntKind.i64.wrap (from'+f))∧(IntKind.i64.wrap (from'+f))<3)<|
 st ⟨h.b,h.o+1+(IntKind.i64.wrap (from'+f)).toNat*2⟩ (Ks.mk cr g)<|
 e (IntKind.i64.wrap (f+1)))<|
 R ():=bt Tryz.func313 (uz 0x827908aa68c7a651a5805962843a451251829410000c0042047040041341182001001)
instance abH(m:Option Pt)(s:Int×Int):bs (O2 m s) λR=>
 new (Ks.mk cr s) λa=>
 bF<|
 ld cr ⟨a,0⟩ λ(c:Int×Int)=>
 deref m λd=>
 deref m λe=>
 deref m λf=>
 deref m λg=>
 deref m λh=>
 d_ (0≤(1:Int)∧(1:Int)<3)<|
 d_ (0≤(2:Int)∧(2:Int)<3)<|
 ld cr ⟨d.b,d.o+1+(1:Int).toNat*2⟩ λ(i:Int×Int)=>
 ld cr ⟨e.b,e.o+1+(2:Int).toNat*2⟩ λ(j:Int×Int)=>
 d_ (0≤(0:Int)∧(0:Int)<3)<|
 st ⟨f.b,f.o+1+(0:Int).toNat*2⟩ (Ks.mk cr i)<|
 co ⟨a,0⟩ (Ks.mk cr c)<|
 d_ (0≤(1:Int)∧(1:Int)<3)<|
 st ⟨g.b,g.o+1+(1:Int).toNat*2⟩ (Ks.mk cr j)<|
 co ⟨a,0⟩ (Ks.mk cr c)<|
 d_ (0≤(2:Int)∧(2:Int)<3)<|
 st ⟨h.b,h.o+1+(2:Int).toNat*2⟩ (Ks.mk cr c)<|
 R ():=bt Tryz.func314 (uz 0x827799aa662591d56a8d49612d1a903072c69579624e53ca1465a51529443a52440cd9402250039400a50019400250c3001)
instance Zo(ke:Int):bs (R5 ke) λR=>
 new [.int .u64 ke,zu,zu,zu,zu,zu,zu,zu] λa=>
 R (some ⟨a,0⟩):=bt Tryz.func169 (uz 0xb)
instance abE(t:Int)(s:Int×Int)(ke:Int):bs (Fq t s ke) λR=>
 new (Ks.mk cr s) λa=>
 bz ⟨a,0⟩ λb=>
 R (decide ((IntKind.u64.wrap (t-(if b<t then b else t)))≤ke)):=bt Tryz.func311 (uz 8)
end Go.X
