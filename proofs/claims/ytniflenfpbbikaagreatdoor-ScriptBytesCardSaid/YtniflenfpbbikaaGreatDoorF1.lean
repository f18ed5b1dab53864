/- Readings of functions. -/
import Derived.Test.YtniflenfpbbikaaGreatDoorG
set_option linter.all false
namespace Go.X
open IntKind (u64 i64)
open Go.Proofs
instance abJ(kQ least):bG (Ul kQ least) λR=>
 new [aC kQ,zu,zu,zu,zu,zu,zu,zu,a_ least] λa=>
 ar least (
 az (some ⟨a,0⟩) λb=>
 so b 4 [aC 18446744073709551615,aC 18446744073709551615,aC 18446744073709551615]<|
 R (some ⟨a,0⟩))<|
 R (some ⟨a,0⟩):=bI Tryz.func179 (uz 0x26)
instance ac2(p start limited bw):bG (U0 p start limited bw) λR=>
 az p λa=>
 oM a 2 λb=>
 ar ((b||(!start))||limited) (
 az p λc=>
 oM c 2 λd=>
 R d)<|
 az p λe=>
 bJ e λf=>
 aT (Bh f 320 256) λg=>
 ar (decide (bw≥g)) (
 az p λh=>
 st h [aC bw]<|
 az p λi=>
 so i 1 [zi]<|
 R false)<|
 az p λj=>
 gV j 1 λk=>
 az p λl=>
 so l 1 [aJ (i64.wrap (k+1))]<|
 az p λm=>
 gV m 1 λn=>
 az p λo=>
 so o 2 [a_ (decide (n≥3))]<|
 az p λq=>
 oM q 2 λr=>
 R r:=bI Tryz.func260 (uz 0x27)
instance abP(d o a):bG (Uo d o a) λR=>
 new (Ks.mk aW a) λb=>
 bQ<|
 az d λc=>
 bJ ⟨b,6⟩ λe=>
 dx c 4 λf=>
 aT (qF f e) λg=>
 az d λh=>
 so h 4 [aC g]<|
 az d λi=>
 rE i λj=>
 ar j (
 join [] (λk=>
 ar o (
 az d λl=>
 gV l 3 λm=>
 az d λn=>
 so n 3 [aJ (i64.wrap (m+1))]<|
 k ())<|
 k ()) λ(p:Unit)=>
 az d λq=>
 gV q 3 λr=>
 ar (decide (r≥48)) (
 az d λs=>
 st s [a_ false]<|
 az d λt=>
 so t 3 [zi]<|
 cg (L6 d) λu=>
 R ())<|
 R ())<|
 az d λv=>
 oM v 1 λw=>
 ar (!w) (
 bJ ⟨b,6⟩ λx=>
 ar (decide (x>0)) (
 ld aW ⟨b,0⟩ λy=>
 cg (Qk d y) λz=>
 R ())<|
 R ())<|
 rE ⟨b,8⟩ λA=>
 ar A (
 cg (L6 d) λB=>
 R ())<|
 join [] (λC=>
 ar o (
 az d λD=>
 gV D 3 λE=>
 az d λF=>
 so F 3 [aJ (i64.wrap (E+1))]<|
 C ())<|
 C ()) λ(G:Unit)=>
 az d λH=>
 gV H 3 λI=>
 ar (decide (I>16)) (
 cg (L6 d) λJ=>
 R ())<|
 join cb (λK=>
 az d λL=>
 gV L 3 λM=>
 ar (decide (M≥4)) (
 bJ ⟨b,6⟩ λN=>
 K (decide (N>0)))<|
 K false) λ(O:Bool)=>
 ar O (
 ld aW ⟨b,0⟩ λQ=>
 cg (UU d Q) λS=>
 R ())<|
 R ():=bI Tryz.func185 (uz 0x700227f044001001088004241a010182001010010603cd2aa24622530a1ea1031821459400650009450c1001)
instance acS(p s):bG (Qk p s) λR=>
 new (Ks.mk aW s) λa=>
 az p λb=>
 so b 1 [a_ true]<|
 az p λc=>
 so c 3 [zi]<|
 bQ<|
 bJ ⟨a,0⟩ λd=>
 bJ ⟨a,1⟩ λe=>
 az p λf=>
 dx f 4 λg=>
 az p λh=>
 so h 5 [aC d]<|
 cw ⟨a,1⟩ (Ks.mk cu e)<|
 az p λi=>
 so i 6 [aC e]<|
 az p λj=>
 so j 7 [aC g]<|
 R ():=bI Tryz.func250 (uz 0x8216d3aa04a531195f5d0a9e3e52ce95d38da8c28b94a2481840079431650c39400a5001940025243001001)
instance acT(d o):bG (UU d o) λR=>
 new (Ks.mk aW o) λa=>
 bQ<|
 bJ ⟨a,1⟩ λb=>
 az d λc=>
 az d λe=>
 az d λf=>
 bJ ⟨a,0⟩ λg=>
 az d λh=>
 dx c 6 λi=>
 dx e 4 λj=>
 dx f 7 λk=>
 dx h 5 λl=>
 aT (wY b i) λm=>
 lA h 5 l<|
 lA f 7 k<|
 lA e 4 j<|
 cw ⟨a,0⟩ (Ks.mk cu g)<|
 aT (wY j k) λn=>
 lA h 5 l<|
 cw ⟨a,0⟩ (Ks.mk cu g)<|
 aT (wY g l) λp=>
 join [] (λq=>
 ar ((m==0)||(p==0)) (
 R ())<|
 aT (Bh m 50 256) λr=>
 ar (decide (n<r)) (
 R ())<|
 q ()) λ(s:Unit)=>
 aT (Bh m 1000000000 p) λt=>
 join cb (λu=>
 az d λv=>
 dx v 2 λw=>
 ar (decide (w>0)) (
 az d λx=>
 dx x 2 λy=>
 cM (Vo y t) λz=>
 u z)<|
 u false) λ(A:Bool)=>
 ar A (
 bQ<|
 az d λB=>
 az d λC=>
 dx B 2 λD=>
 dx C 2 λE=>
 az d λF=>
 so F 2 [aC (u64.wrap ((u64.wrap ((u64.wrap (D.tdiv 2))+(u64.wrap (t.tdiv 2))))+(u64.wrap ((u64.wrap ((E.tmod 2)+(t.tmod 2))).tdiv 2))))]<|
 az d λG=>
 st G [a_ true]<|
 az d λH=>
 so H 3 [zi]<|
 R ())<|
 az d λI=>
 so I 2 [aC t]<|
 ld aW ⟨a,0⟩ λJ=>
 cg (Qk d J) λK=>
 R ():=bI Tryz.func251 (uz 0x1c01e096356a5114e58994a9460790a58588a4d14c10b0cf2870873a50099471a5001940025e83041002e811010012001209d99a06263979a6896a9f6cfa8d246a9538a15434911344c2030404a50d09402e50079400a50c09470c1001)
instance acR(p):bG (L6 p) λR=>
 az p λa=>
 so a 1 [a_ false]<|
 az p λb=>
 so b 2 [zu]<|
 R ():=bI Tryz.func249 .o
instance ac4(d o a a' a'' a'''):bG (U1 d o a a' a'' a''') λR=>
 join cb (λb=>
 az d λc=>
 bJ c λe=>
 ar (decide (e>0)) (
 az d λf=>
 dx f 1 λg=>
 aT (qF g 10000000000) λh=>
 b (decide (o>h)))<|
 b false) λ(i:Bool)=>
 join [] (λj=>
 join cb (λk=>
 ar (decide (a>0)) (
 az d λl=>
 bJ l λm=>
 ar (m==0) (
 k true)<|
 az d λn=>
 bJ n λp=>
 k ((decide (a≤p))||i))<|
 k false) λ(q:Bool)=>
 ar q (
 az d λr=>
 st r [aC a]<|
 az d λs=>
 so s 1 [aC o]<|
 j ())<|
 j ()) λ(t:Unit)=>
 join cb (λu=>
 ar i (
 az d λv=>
 oM v 2 λw=>
 u (!w))<|
 u false) λ(x:Bool)=>
 ar x (
 az d λy=>
 so y 2 [a_ true]<|
 az d λz=>
 so z 3 [a_ false]<|
 az d λA=>
 so A 4 [a_ false]<|
 R (true,false))<|
 az d λB=>
 oM B 2 λC=>
 ar (!C) (
 R (false,false))<|
 az d λD=>
 oM D 3 λE=>
 ar (!E) (
 ar (decide (a''≤a''')) (
 aT (qF o 200000000) λF=>
 az d λG=>
 so G 3 [a_ true]<|
 az d λH=>
 so H 4 [a_ false]<|
 az d λI=>
 so I 5 [aC F]<|
 R (false,false))<|
 R (false,false))<|
 az d λJ=>
 oM J 4 λK=>
 az d λL=>
 so L 4 [a_ (K||a')]<|
 join cb (λM=>
 az d λN=>
 oM N 4 λO=>
 ar O (
 az d λQ=>
 dx Q 5 λS=>
 M (decide (o>S)))<|
 M false) λ(T:Bool)=>
 ar T (
 az d λU=>
 so U 1 [aC o]<|
 az d λV=>
 so V 2 [a_ false]<|
 az d λX=>
 so X 3 [a_ false]<|
 R (false,true))<|
 R (false,false):=bI Tryz.func262 (uz 0x1ce002e3f04404005b04904e00207f044047002c0110010008e044001)
instance abO(r s):bG (Un r s) λR=>
 new (Ks.mk aW s) λa=>
 join [] (λb=>
 bQ<|
 bJ ⟨a,5⟩ λc=>
 ar (c==0) (
 R false)<|
 bJ ⟨a,2⟩ λd=>
 az r λe=>
 dx e 1 λf=>
 ar (decide (d<f)) (
 R false)<|
 b ()) λ(g:Unit)=>
 bJ ⟨a,1⟩ λh=>
 az r λi=>
 so i 1 [aC h]<|
 az r λj=>
 bJ j λk=>
 az r λl=>
 st l [aC (u64.wrap (k+1))]<|
 R true:=bI Tryz.func184 (uz 0xb3203c82e938a20ab4d209a4c208a4b207a49205a48006a480c4a430810c09440c1004001)
instance aaP(d o a a'):bG (TY d o a a') λR=>
 new (Ks.mk cy a') λb=>
 az d λc=>
 bJ c λe=>
 aT (qF e a) λf=>
 az d λg=>
 st g [aC f]<|
 az d λh=>
 so h 1 [aC o]<|
 join [] (λi=>
 bQ<|
 az d λj=>
 az d λk=>
 bJ j λl=>
 dx k 3 λm=>
 ar (decide (l>m)) (
 az d λn=>
 so n 3 [zu]<|
 i ())<|
 i ()) λ(p:Unit)=>
 az d λq=>
 dx q 5 λr=>
 aT (qF r a) λs=>
 az d λt=>
 so t 5 [aC s]<|
 join [] (λu=>
 join cb (λv=>
 bQ<|
 az d λw=>
 oM w 4 λx=>
 ar (!x) (
 v true)<|
 bJ ⟨b,1⟩ λy=>
 az d λz=>
 dx z 6 λA=>
 v (decide (y≥A))) λ(B:Bool)=>
 ar B (
 bQ<|
 bJ ⟨b,1⟩ λC=>
 bJ ⟨b,2⟩ λD=>
 rE ⟨b,4⟩ λE=>
 az d λF=>
 so F 6 [aC C]<|
 cw ⟨b,4⟩ (Ks.mk cb E)<|
 cw ⟨b,2⟩ (Ks.mk cu D)<|
 az d λG=>
 so G 7 [aC D]<|
 cw ⟨b,4⟩ (Ks.mk cb E)<|
 az d λH=>
 so H 10 [a_ E]<|
 bQ<|
 bJ ⟨b,0⟩ λI=>
 bJ ⟨b,3⟩ λJ=>
 bJ ⟨b,0⟩ λK=>
 aT (wY I J) λL=>
 cw ⟨b,0⟩ (Ks.mk cu K)<|
 aT (wY o K) λM=>
 az d λN=>
 so N 8 [aC L]<|
 az d λO=>
 so O 9 [aC M]<|
 bJ ⟨b,0⟩ λQ=>
 az d λS=>
 so S 2 [aC Q]<|
 u ())<|
 u ()) λ(T:Unit)=>
 az d λU=>
 so U 4 [a_ true]<|
 R ():=bI Tryz.func118 (uz 0x207db42a78f9523a575736a3112e56982aa5941aa2450c72250479471251c2940065000947fc30607d946a7909533e57573aa70d9523256d52ea2912652061071e51c59470e50029400650009770c106075636971858cb5b58ba5a58aa59589a57587a56008a561c6a451030810009690c2dc1100100047818508a470c60850401250009540c1004001001)
instance ab0(s flight):bG (Ux s flight) λR=>
 az s λa=>
 bJ a λb=>
 aT (qF b flight) λc=>
 az s λd=>
 so d 3 [aC (if c>1 then c else 1)]<|
 R ():=bI Tryz.func196 .o
instance ab2(s af flight):bG (Uz s af flight) λR=>
 new [zu,zu,zu,zu,a_ false] λa=>
 join [] (λb=>
 ar (flight==0) (
 az s λc=>
 so c 2 [aC af]<|
 az s λd=>
 so d 1 [aC af]<|
 b ())<|
 b ()) λ(e:Unit)=>
 bQ<|
 az s λf=>
 az s λg=>
 az s λh=>
 az s λi=>
 bJ f λj=>
 dx g 1 λk=>
 dx h 2 λl=>
 dx i 3 λm=>
 st ⟨a,0⟩ [aC af,aC j,aC k,aC l,a_ (m !=0)]<|
 ld cy ⟨a,0⟩ λn=>
 R n:=bI Tryz.func198 (uz 0x823193aa27595514b545030810f2c70ce286080365009940165001941025403048004001)
instance aaR(d o a a'):bG (PY d o a a') λR=>
 new [zu,zu,zu,zu,zu,zu,zu,zu,a_ false] λb=>
 az d λc=>
 bJ c λe=>
 new [zu,zu,zu,zu,zu,zu,zu,zu,a_ false] λf=>
 st ⟨f,0⟩ [aC o,aC e,zu,zu,zu,zu,aC a,aC a',a_ false]<|
 join [] (λg=>
 az d λh=>
 oM h 4 λi=>
 ar i (
 bQ<|
 az d λj=>
 az d λk=>
 az d λl=>
 az d λm=>
 dx j 5 λn=>
 dx k 6 λp=>
 oM l 10 λq=>
 dx m 9 λr=>
 st ⟨f,5⟩ [aC n]<|
 lA m 9 r<|
 Zd l 10 q<|
 lA k 6 p<|
 st ⟨f,2⟩ [aC p]<|
 lA m 9 r<|
 Zd l 10 q<|
 st ⟨f,8⟩ [a_ q]<|
 lA m 9 r<|
 st ⟨f,4⟩ [aC r]<|
 bQ<|
 az d λs=>
 az d λt=>
 dx s 8 λu=>
 dx t 7 λv=>
 aT (wY o v) λw=>
 lA s 8 u<|
 st ⟨f,3⟩ [aC (if w>u then w else u)]<|
 g ())<|
 g ()) λ(x:Unit)=>
 az d λy=>
 so y 4 [a_ false]<|
 az d λz=>
 so z 5 [zu]<|
 az d λA=>
 so A 6 [zu]<|
 az d λB=>
 so B 7 [zu]<|
 az d λC=>
 so C 8 [zu]<|
 az d λD=>
 so D 9 [zu]<|
 az d λE=>
 so E 10 [a_ false]<|
 ld aW ⟨f,0⟩ λF=>
 st ⟨b,0⟩ (Ks.mk aW F)<|
 ld aW ⟨b,0⟩ λG=>
 R G:=bI Tryz.func120 (uz 0x20081c6cca892e56942a965526a2031c21810059411250009690e09205ea256963715a895258984ea252961511a894253cb1c338a18234914100c940225004940025543041001004001001)
instance acX(w' t v):bG (UY w' t v) λR=>
 az w' λa=>
 so a 1 [aC t,aC t,aC t]<|
 az w' λb=>
 so b 4 [aC v,aC v,aC v]<|
 az w' λc=>
 dx c 7 λd=>
 az w' λe=>
 so e 7 [aC (if t>d then t else d)]<|
 R ():=bI Tryz.func255 (uz 7)
instance abR(d o a):bG (Up d o a) λR=>
 az d λc=>
 dx c 7 λe=>
 az d λf=>
 so f 7 [aC (if e>o then e else o)]<|
 join cb (λg=>
 bQ<|
 cM (L7 d a 0) λh=>
 ar h (
 g true)<|
 az d λi=>
 dM (0≤(2:Int)∧(2:Int)<3)<|
 bJ ⟨i.b,i.o+1+(2:Int).toNat*1⟩ λj=>
 ar (decide ((if e>o then e else o)>j)) (
 az d λk=>
 az d λl=>
 dM (0≤(2:Int)∧(2:Int)<3)<|
 bJ l λm=>
 bJ ⟨k.b,k.o+1+(2:Int).toNat*1⟩ λn=>
 g (decide ((u64.wrap ((if e>o then e else o)-n))>m)))<|
 g false) λ(p:Bool)=>
 ar p (
 cg (UY d (if e>o then e else o) a) λq=>
 R a)<|
 join [] (λr=>
 cM (L7 d a 1) λs=>
 ar s (
 cg (Ez d 1 (if e>o then e else o) a) λt=>
 cg (Ez d 2 (if e>o then e else o) a) λu=>
 r ())<|
 cM (L7 d a 2) λv=>
 ar v (
 cg (Ez d 2 (if e>o then e else o) a) λw=>
 r ())<|
 r ()) λ(x:Unit)=>
 az d λy=>
 dM (0≤(0:Int)∧(0:Int)<3)<|
 bJ ⟨y.b,y.o+1+(0:Int).toNat*1⟩ λz=>
 aT (wY (if e>o then e else o) z) λA=>
 join [] (λB=>
 az d λC=>
 bJ C λD=>
 ar (decide (A>D)) (
 cg (Ql d (if e>o then e else o) a) λE=>
 bQ<|
 az d λF=>
 az d λG=>
 dM (0≤(0:Int)∧(0:Int)<3)<|
 bJ G λH=>
 bJ ⟨F.b,F.o+1+(0:Int).toNat*1⟩ λI=>
 aT (wY (if e>o then e else o) I) λJ=>
 cw G (Ks.mk cu H)<|
 ar (decide (J>H)) (
 cg (Ql d (if e>o then e else o) a) λK=>
 B ())<|
 B ())<|
 join cb (λL=>
 bQ<|
 az d λM=>
 az d λN=>
 dM (0≤(1:Int)∧(1:Int)<3)<|
 dM (0≤(0:Int)∧(0:Int)<3)<|
 bJ ⟨M.b,M.o+1+(1:Int).toNat*1⟩ λO=>
 bJ ⟨N.b,N.o+1+(0:Int).toNat*1⟩ λQ=>
 ar (O==Q) (
 az d λS=>
 bJ S λT=>
 L (decide (A>(u64.wrap (T.tdiv 4)))))<|
 L false) λ(U:Bool)=>
 ar U (
 cg (Ez d 1 (if e>o then e else o) a) λV=>
 cg (Ez d 2 (if e>o then e else o) a) λX=>
 B ())<|
 bQ<|
 az d λY=>
 az d λZ=>
 dM (0≤(2:Int)∧(2:Int)<3)<|
 dM (0≤(1:Int)∧(1:Int)<3)<|
 bJ ⟨Y.b,Y.o+1+(2:Int).toNat*1⟩ λa0=>
 bJ ⟨Z.b,Z.o+1+(1:Int).toNat*1⟩ λa1=>
 ar (a0==a1) (
 az d λa2=>
 bJ a2 λa3=>
 ar (decide (A>(u64.wrap (a3.tdiv 2)))) (
 cg (Ez d 2 (if e>o then e else o) a) λa4=>
 B ())<|
 B ())<|
 B ()) λ(a5:Unit)=>
 az d λa6=>
 dM (0≤(0:Int)∧(0:Int)<3)<|
 bJ ⟨a6.b,a6.o+4+(0:Int).toNat*1⟩ λa7=>
 R a7:=bI Tryz.func187 (uz 0x1c78245268dc4e989d712b61711a60710a5f70fa5e70ea5c00da5c1cca4b6952a92442031c218100594002513ffc30470609149a3713a6275c4ad85c46981c4297dc3e979c3a97003697073292da54aa491080c7086040165000966fc30a6fc110781b5cba56446a85284243202007940065040955fc30400410010801000690043a0ea5669e6d958b78d2d5edceeb52b72b51a77b56a71b50a76b55a70b4fa75b54a6fb4ea6d013a6d00da6d04ca6c94ba6b9a52adaa5269a65229a251e99e51a9940169941129903963882a820650000c2ac1101001001001)
instance acW(w' v i):bG (L7 w' v i) λR=>
 az w' λa=>
 oM a 8 λc=>
 ar c (
 az w' λd=>
 dM (0≤i∧i<3)<|
 bJ ⟨d.b,d.o+4+i.toNat*1⟩ λe=>
 R (decide (v≤e)))<|
 az w' λf=>
 dM (0≤i∧i<3)<|
 bJ ⟨f.b,f.o+4+i.toNat*1⟩ λg=>
 R (decide (v≥g)):=bI Tryz.func254 (uz 0xa)
instance acY(w' i t v):bG (Ez w' i t v) λR=>
 bQ<|
 az w' λa=>
 az w' λc=>
 dM (0≤i∧i<3)<|
 st ⟨a.b,a.o+1+i.toNat*1⟩ [aC t]<|
 dM (0≤i∧i<3)<|
 st ⟨c.b,c.o+4+i.toNat*1⟩ [aC v]<|
 R ():=bI Tryz.func256 (uz 0x208cd36a88b32980c26a3c922984b94e1e52881a50c59421250439400a5040003)
instance acZ(w' t v):bG (Ql w' t v) λR=>
 bQ<|
 az w' λa=>
 az w' λc=>
 az w' λd=>
 az w' λe=>
 dM (0≤(1:Int)∧(1:Int)<3)<|
 dM (0≤(2:Int)∧(2:Int)<3)<|
 dM (0≤(1:Int)∧(1:Int)<3)<|
 dM (0≤(2:Int)∧(2:Int)<3)<|
 bJ ⟨a.b,a.o+1+(1:Int).toNat*1⟩ λf=>
 bJ ⟨c.b,c.o+1+(2:Int).toNat*1⟩ λg=>
 bJ ⟨d.b,d.o+4+(1:Int).toNat*1⟩ λh=>
 bJ ⟨e.b,e.o+4+(2:Int).toNat*1⟩ λi=>
 az w' λj=>
 so j 1 [aC f,aC g,aC t]<|
 az w' λk=>
 so k 4 [aC h,aC i,aC v]<|
 R ():=bI Tryz.func257 (uz 0x20baa7eab5e947765b1e72a6c66a5a688d9b5d70c36d5d22c659128555024450f2030989404e500e9413250079400a5001940025143)
instance adF(Nv bw):bG (Vo Nv bw) λR=>
 R (decide ((u64.wrap ((if bw>Nv then bw else Nv)-(if bw<Nv then bw else Nv)))≤(u64.wrap (Nv.tdiv 8)))):=bI Tryz.func298 (uz 8)
instance aaN(d o a):bG (LQ d o a) λR=>
 az d λb=>
 dx b 1 λc=>
 loop [.bool,.int .i64] ((decide (o>c)),0) λe (f:Bool×Int)=>
 ar (decide (f.2<((a.len:Nat):Int))) (
 bQ<|
 ar f.1 (
 e (true,(i64.wrap (f.2+1))))<|
 idx a f.2 2 λg=>
 az d λh=>
 dx g 1 λi=>
 dx h 1 λj=>
 ar (decide (i>j)) (
 e (true,(i64.wrap (f.2+1))))<|
 idx a f.2 2 λk=>
 idx a f.2 2 λl=>
 bJ k λm=>
 dx l 1 λn=>
 e ((decide (m≥n)),(i64.wrap (f.2+1))))<|
 ar f.1 (
 R (⟨none,0,0⟩,0,11))<|
 loop H9 (⟨none,0,0⟩,⟨none,0,0⟩,0) λp (q:Ia)=>
 az d λr=>
 fb r λs=>
 ar (decide (q.2.2<((s.len:Nat):Int))) (
 az d λt=>
 fb t λu=>
 idx u q.2.2 9 λv=>
 ld aE v λw=>
 new [zu,zu,zu,zu,zu,zu,a_ false,a_ false,a_ false] λx=>
 st ⟨x,0⟩ (Ks.mk aE w)<|
 join [.bool,.bool] (λy=>
 bQ<|
 bJ ⟨x,1⟩ λz=>
 rE ⟨x,7⟩ λA=>
 ar (!A) (
 ld aE ⟨x,0⟩ λB=>
 cM (Um B a) λC=>
 cw ⟨x,1⟩ (Ks.mk cu z)<|
 y ((decide (z≤o)),C))<|
 y ((decide (z≤o)),false)) λ(D:Bool×Bool)=>
 join cl (λE=>
 join cb (λF=>
 ar D.1 (
 rE ⟨x,7⟩ λG=>
 F ((!G)||((!D.1)&&D.2)))<|
 F ((!D.1)&&D.2)) λ(H:Bool)=>
 ar H (
 ld aE ⟨x,0⟩ λI=>
 new [aC I.1,aC I.2.1,aC I.2.2.1,aC I.2.2.2.1,aC I.2.2.2.2.1,aC I.2.2.2.2.2.1,a_ I.2.2.2.2.2.2.1,a_ I.2.2.2.2.2.2.2.1,a_ I.2.2.2.2.2.2.2.2] λJ=>
 mi 9 q.2.1 ⟨some ⟨J,0⟩,1,1⟩ λK=>
 E K)<|
 E q.2.1) λ(L:Sl)=>
 ar D.1 (
 p (q.1,L,(i64.wrap (q.2.2+1))))<|
 join [] (λM=>
 ar D.2 (
 st ⟨x,7⟩ [a_ true]<|
 st ⟨x,8⟩ [a_ false]<|
 M ())<|
 M ()) λ(N:Unit)=>
 ld aE ⟨x,0⟩ λO=>
 new [aC O.1,aC O.2.1,aC O.2.2.1,aC O.2.2.2.1,aC O.2.2.2.2.1,aC O.2.2.2.2.2.1,a_ O.2.2.2.2.2.2.1,a_ O.2.2.2.2.2.2.2.1,a_ O.2.2.2.2.2.2.2.2] λQ=>
 mi 9 q.1 ⟨some ⟨Q,0⟩,1,1⟩ λS=>
 p (S,L,(i64.wrap (q.2.2+1))))<|
 loop Sr (0,0,(i64.wrap (((q.1.len:Nat):Int)-1))) λT (U:Sz)=>
 ar (decide (U.2.2≥0)) (
 idx q.1 U.2.2 9 λV=>
 az (some V) λX=>
 oM X 7 λY=>
 ar Y (
 T (U.1,(i64.wrap (U.2.1+1)),(i64.wrap (U.2.2-1))))<|
 az (some V) λZ=>
 oM Z 8 λa0=>
 ar ((!a0)&&(decide (U.2.1≥3))) (
 az (some V) λa1=>
 so a1 8 [a_ true]<|
 bQ<|
 az (some V) λa2=>
 az (some V) λa3=>
 dx a2 1 λa4=>
 bJ a3 λa5=>
 T ((u64.wrap ((u64.wrap (U.1+a4))-a5)),U.2.1,(i64.wrap (U.2.2-1))))<|
 T (U.1,U.2.1,(i64.wrap (U.2.2-1))))<|
 az d λa6=>
 st a6 [aX q.1]<|
 R (q.2.1,U.1,0):=bI Tryz.func116 (uz 0x800081afff2e667ffd5fff2a953ffd0fff16963ffc9953fff1255fffc8952fff0e55bffc7951fff0a54c69530650110c00410010010010800420480414c14804431820010400400080042011c00a5fc110430112070d9943266d82e969960ab98089a58388a47193483a4504e12504294e02533f0c24023c21000420480413443042c318200104004904082a6a6a5e669a23798b67797a62792a66796a61791a6591e56d81f790b5e294a5e093a5e28fa5e08ea4d7123296d748bb5a48aa56486a59489a55485a58488a544d212d4801e948a0e94820a904902580308120104a089086080041001001)
instance ab3(b s):bG (UA b s) λR=>
 new (Ks.mk cy s) λa=>
 new [zu,zu] λc=>
 bo (Qn b) λd=>
 ar (decide (d<0)) (
 st ⟨c,0⟩ [zu,zu]<|
 ld cr ⟨c,0⟩ λ(e:Int×Int)=>
 R (e,false))<|
 az b λf=>
 fb f λg=>
 mi 9 ⟨none,0,0⟩ g λh=>
 bQ<|
 ld cy ⟨a,0⟩ λi=>
 idx h d 9 λj=>
 so j 8 [a_ false]<|
 cw ⟨a,0⟩ (Ks.mk cy i)<|
 idx h d 9 λk=>
 so k 2 (Ks.mk cy i)<|
 az b λl=>
 st l [aX h]<|
 bQ<|
 idx h d 9 λm=>
 idx h d 9 λn=>
 bJ m λo=>
 dx n 1 λp=>
 st ⟨c,0⟩ [aC o,aC p]<|
 ld cr ⟨c,0⟩ λ(q:Int×Int)=>
 R (q,true):=bI Tryz.func199 (uz 0x80c89b10ba9a54aa491080d7587a52442a461a51c59460651c095e0c100182584aaa426581f2298c79a21a579d1690c49460e50811c09450c1001241001001)
instance aaS(b):bG (JF b) λR=>
 loop [.int .u64,.int .i64] (0,0) λa (c:Int×Int)=>
 az b λd=>
 fb d λe=>
 ar (decide (c.2<((e.len:Nat):Int))) (
 join cb (λf=>
 az b λg=>
 fb g λh=>
 idx h c.2 9 λi=>
 oM i 7 λj=>
 ar (!j) (
 az b λk=>
 fb k λl=>
 idx l c.2 9 λm=>
 oM m 8 λn=>
 f (!n))<|
 f false) λ(o:Bool)=>
 ar o (
 bQ<|
 az b λp=>
 az b λq=>
 fb p λr=>
 fb q λs=>
 idx r c.2 9 λt=>
 idx s c.2 9 λu=>
 dx t 1 λv=>
 bJ u λw=>
 a ((u64.wrap ((u64.wrap (c.1+v))-w)),(i64.wrap (c.2+1))))<|
 a (c.1,(i64.wrap (c.2+1))))<|
 R c.1:=bI Tryz.func121 (uz 0x1c00208d39a2692a59449a512101df78fa56546a4d10c0cb0843a500a9441650019430258430400a1044081201044003086080041001001)
instance aaU(b):bG (TZ b) λR=>
 aT (JF b) λa=>
 loop [.sl,.int .i64] (⟨none,0,0⟩,0) λc (d:Sl×Int)=>
 az b λe=>
 fb e λf=>
 ar (decide (d.2<((f.len:Nat):Int))) (
 az b λg=>
 fb g λh=>
 idx h d.2 9 λi=>
 ld aE i λj=>
 new [zu,zu,zu,zu,zu,zu,a_ false,a_ false,a_ false] λk=>
 st ⟨k,0⟩ (Ks.mk aE j)<|
 join [] (λl=>
 rE ⟨k,8⟩ λm=>
 ar m (
 st ⟨k,8⟩ [a_ true]<|
 l ())<|
 rE ⟨k,7⟩ λn=>
 st ⟨k,8⟩ [a_ (!n)]<|
 l ()) λ(o:Unit)=>
 ld aE ⟨k,0⟩ λp=>
 new [aC p.1,aC p.2.1,aC p.2.2.1,aC p.2.2.2.1,aC p.2.2.2.2.1,aC p.2.2.2.2.2.1,a_ p.2.2.2.2.2.2.1,a_ p.2.2.2.2.2.2.2.1,a_ p.2.2.2.2.2.2.2.2] λq=>
 mi 9 d.1 ⟨some ⟨q,0⟩,1,1⟩ λr=>
 c (r,(i64.wrap (d.2+1))))<|
 az b λs=>
 st s [aX d.1]<|
 R a:=bI Tryz.func123 (uz 0x200000004001081201045104086080041001001001)
instance abZ(b):bG (Uw b) λR=>
 new [zu,zu] λa=>
 bo (Qn b) λc=>
 ar (decide (c<0)) (
 st ⟨a,0⟩ [zu,zu]<|
 ld cr ⟨a,0⟩ λ(d:Int×Int)=>
 R (d,false))<|
 bQ<|
 az b λe=>
 az b λf=>
 fb e λg=>
 fb f λh=>
 idx g c 9 λi=>
 idx h c 9 λj=>
 bJ i λk=>
 dx j 1 λl=>
 st ⟨a,0⟩ [aC k,aC l]<|
 ld cr ⟨a,0⟩ λ(m:Int×Int)=>
 R (m,true):=bI Tryz.func195 (uz 0x8128a1091aa0610a4f1ce19d70da4e345a4b0ca0890443250089441250009490c1241001001)
instance ab5(b from' to' s):bG (UC b from' to' s) λR=>
 new (Ks.mk cy s) λa=>
 az b λc=>
 dx c 1 λd=>
 ar ((from' !=d)||(decide (to'≤from'))) (
 R 1)<|
 az b λe=>
 fb e λf=>
 ar (decide (((f.len:Nat):Int)≥4096)) (
 R 5)<|
 bQ<|
 ld cy ⟨a,0⟩ λg=>
 az b λh=>
 fb h λi=>
 both (
 mi 9 ⟨none,0,0⟩ i λj=>
 cw ⟨a,0⟩ (Ks.mk cy g)<|
 new [aC from',aC to',aC g.1,aC g.2.1,aC g.2.2.1,aC g.2.2.2.1,a_ g.2.2.2.2,a_ false,a_ false] λk=>
 cw h (Ks.mk cl i)<|
 mi 9 j ⟨some ⟨k,0⟩,1,1⟩ λl=>
 az b λm=>
 st m [aX l]<|
 az b λn=>
 so n 1 [aC to']<|
 R 0)<|
 new [aC from',aC to',aC g.1,aC g.2.1,aC g.2.2.1,aC g.2.2.2.1,a_ g.2.2.2.2,a_ false,a_ false] λo=>
 cw h (Ks.mk cl i)<|
 mi 9 ⟨none,0,0⟩ i λp=>
 cw ⟨a,0⟩ (Ks.mk cy g)<|
 mi 9 p ⟨some ⟨o,0⟩,1,1⟩ λq=>
 az b λr=>
 st r [aX q]<|
 az b λt=>
 so t 1 [aC to']<|
 R 0:=bI Tryz.func201 (uz 0x881e70ea8d44c95b58ba9516668a9a079c3aa3513256d62ea68a9951671036585c9b421c89421e50469400650009590c1241241001)
instance ac7(b):bG (Qn b) λR=>
 loop ci 0 λa (c:Int)=>
 az b λd=>
 fb d λe=>
 ar (decide (c<((e.len:Nat):Int))) (
 az b λf=>
 fb f λg=>
 idx g c 9 λh=>
 oM h 8 λi=>
 ar i (
 R c)<|
 a (i64.wrap (c+1)))<|
 R (-1):=bI Tryz.func265 (uz 0x7009081201043046080041001)
instance aeb(d):bG (ZD d) λR=>
 loop [.sl,.int .i64] (⟨none,0,0⟩,0) λa (b:Sl×Int)=>
 ar ((decide (b.2<((d.len:Nat):Int)))&&(decide (((b.1.len:Nat):Int)<300))) (
 bo (SF d b.2) λc=>
 bo (SF d (i64.wrap (b.2+1))) λe=>
 bo (SF d (i64.wrap (b.2+2))) λf=>
 bo (SF d (i64.wrap (b.2+3))) λg=>
 bo (SF d (i64.wrap (b.2+4))) λh=>
 bo (SF d (i64.wrap (b.2+5))) λi=>
 bC XJ λ(j:eN)=>
 new [zi,zi,zi,zi,zu,zu,a_ false,zi,zi] λk=>
 st ⟨k,0⟩ (Ks.mk bk j)<|
 st ⟨k,0⟩ [aJ (i64.wrap (f*100))]<|
 st ⟨k,5⟩ [aC (u64.wrap (i64.wrap (g*10000)))]<|
 st ⟨k,2⟩ [aJ h]<|
 st ⟨k,6⟩ [a_ ((i.tmod 2)==1)]<|
 ld bk ⟨k,0⟩ λl=>
 new [zi,zi,zi,zu,zu,aX ⟨none,0,0⟩,zi,zi,zi,zi,zu,zu,a_ false,zi,zi] λm=>
 st ⟨m,0⟩ [aJ (c.tmod 10),aJ (e.tmod 9),aJ (i64.wrap (f*100)),aC (u64.wrap (i64.wrap ((i64.wrap (g*1000))+h))),aC (u64.wrap (i64.wrap ((i64.wrap (g*100000000))+(i64.wrap (h*1000000))))),aX ⟨none,0,0⟩,aJ l.1,aJ l.2.1,aJ l.2.2.1,aJ l.2.2.2.1,aC l.2.2.2.2.1,aC l.2.2.2.2.2.1,a_ l.2.2.2.2.2.2.1,aJ l.2.2.2.2.2.2.2.1,aJ l.2.2.2.2.2.2.2.2]<|
 join [] (λn=>
 ar ((i.tmod 2)==1) (
 new [aC (u64.wrap (i64.wrap (h*100))),aC (u64.wrap (i64.wrap ((i64.wrap (h*100))+(i64.wrap (i*100)))))] λo=>
 st ⟨m,5⟩ [aX ⟨some ⟨o,0⟩,1,1⟩]<|
 n ())<|
 n ()) λ(p:Unit)=>
 ld bE ⟨m,0⟩ λq=>
 new [aJ q.1,aJ q.2.1,aJ q.2.2.1,aC q.2.2.2.1,aC q.2.2.2.2.1,aX q.2.2.2.2.2.1,aJ q.2.2.2.2.2.2.1,aJ q.2.2.2.2.2.2.2.1,aJ q.2.2.2.2.2.2.2.2.1,aJ q.2.2.2.2.2.2.2.2.2.1,aC q.2.2.2.2.2.2.2.2.2.2.1,aC q.2.2.2.2.2.2.2.2.2.2.2.1,a_ q.2.2.2.2.2.2.2.2.2.2.2.2.1,aJ q.2.2.2.2.2.2.2.2.2.2.2.2.2.1,aJ q.2.2.2.2.2.2.2.2.2.2.2.2.2.2] λr=>
 mi 15 b.1 ⟨some ⟨r,0⟩,1,1⟩ λs=>
 a (s,(i64.wrap (b.2+6))))<|
 R b.1:=bI Tryz.func19 (uz 0x1c0008004001001001001081201044103086080041001001)
instance aeg(m d):bG (ZI m d) λR=>
 new (Ks.mk bE d) λa=>
 new [aX ⟨none,0,0⟩,aX ⟨none,0,0⟩,aX ⟨none,0,0⟩,zu] λb=>
 dN ⟨a,0⟩ λc=>
 join cb (λe=>
 ar (c==1) (
 e (c==1))<|
 ar (c==2) (
 e (c==2))<|
 ar (c==3) (
 e (c==3))<|
 ar (c==4) (
 e (c==4))<|
 ar (c==7) (
 e (c==7))<|
 e (c==9)) λ(f:Bool)=>
 ar f (
 ld bE ⟨a,0⟩ λg=>
 bC (ZR m g) λ(h:Eh×Int)=>
 st ⟨b,0⟩ (Ks.mk eI h.1)<|
 ld eI ⟨b,0⟩ λi=>
 R (i,h.2))<|
 ar (c==5) (
 bJ ⟨a,4⟩ λj=>
 ar (decide (j>4611686018427387904)) (
 st ⟨b,0⟩ [aX ⟨none,0,0⟩,aX ⟨none,0,0⟩,aX ⟨none,0,0⟩,zu]<|
 ld eI ⟨b,0⟩ λk=>
 R (k,3))<|
 bQ<|
 bJ ⟨a,4⟩ λl=>
 az m λn=>
 bJ n λo=>
 ar (decide (l<o)) (
 st ⟨b,0⟩ [aX ⟨none,0,0⟩,aX ⟨none,0,0⟩,aX ⟨none,0,0⟩,zu]<|
 ld eI ⟨b,0⟩ λp=>
 R (p,4))<|
 bJ ⟨a,4⟩ λq=>
 az m λr=>
 st r [aC q]<|
 st ⟨b,0⟩ [aX ⟨none,0,0⟩,aX ⟨none,0,0⟩,aX ⟨none,0,0⟩,zu]<|
 ld eI ⟨b,0⟩ λs=>
 R (s,0))<|
 ar (c==6) (
 bC (ZS m) λ(t:Eh)=>
 st ⟨b,0⟩ (Ks.mk eI t)<|
 ld eI ⟨b,0⟩ λu=>
 R (u,0))<|
 ar (c==8) (
 ld bk ⟨a,6⟩ λv=>
 cM (Y1 v) λw=>
 ar (!w) (
 st ⟨b,0⟩ [aX ⟨none,0,0⟩,aX ⟨none,0,0⟩,aX ⟨none,0,0⟩,zu]<|
 ld eI ⟨b,0⟩ λx=>
 R (x,13))<|
 ld bk ⟨a,6⟩ λy=>
 az m λz=>
 so z 1 (Ks.mk bk y)<|
 st ⟨b,0⟩ [aX ⟨none,0,0⟩,aX ⟨none,0,0⟩,aX ⟨none,0,0⟩,zu]<|
 ld eI ⟨b,0⟩ λA=>
 R (A,0))<|
 st ⟨b,0⟩ [aX ⟨none,0,0⟩,aX ⟨none,0,0⟩,aX ⟨none,0,0⟩,zu]<|
 ld eI ⟨b,0⟩ λB=>
 R (B,12):=bI Tryz.func25 (uz 0x7a803205921a91440c100294302568304124104004705c089044080041001)
instance aeN(m i):bG (Z3 m i) λR=>
 new [aX ⟨none,0,0⟩,aX ⟨none,0,0⟩,aX ⟨none,0,0⟩,zu] λa=>
 new [aX ⟨none,0,0⟩,aX ⟨none,0,0⟩,aX ⟨none,0,0⟩,zu] λc=>
 az m λd=>
 dM (0≤i∧i<8)<|
 st ⟨d.b,d.o+132+i.toNat*1⟩ [.ptr none]<|
 az m λe=>
 bC (TW (some ⟨e.b,e.o+1⟩) i) λ(f:Sl)=>
 st ⟨c,1⟩ [aX f]<|
 loop ci 0 λg (h:Int)=>
 fb ⟨c,1⟩ λj=>
 ar (decide (h<((j.len:Nat):Int))) (
 az m λk=>
 bo (VD (some ⟨k.b,k.o+68⟩) i 5) λl=>
 fb ⟨c,2⟩ λn=>
 new [aJ 5] λp=>
 mi 1 n ⟨some ⟨p,0⟩,1,1⟩ λq=>
 st ⟨c,2⟩ [aX q]<|
 g (i64.wrap (h+1)))<|
 ld eI ⟨c,0⟩ λr=>
 st ⟨a,0⟩ (Ks.mk eI r)<|
 ld eI ⟨a,0⟩ λs=>
 R s:=bI Tryz.func72 (uz 0x7007081201046046080041001001001001)
instance aew(d):bG (ZS d) λR=>
 new [aX ⟨none,0,0⟩,aX ⟨none,0,0⟩,aX ⟨none,0,0⟩,zu] λa=>
 loop [.sl,.int .i64] (⟨none,0,0⟩,0) λc (e:Sl×Int)=>
 ar (decide (e.2<8)) (
 join cu (λf=>
 az d λg=>
 dM (0≤e.2∧e.2<8)<|
 s_ ⟨g.b,g.o+132+e.2.toNat*1⟩ λh=>
 ar (!h.isNone) (
 az d λi=>
 dM (0≤e.2∧e.2<8)<|
 s_ ⟨i.b,i.o+132+e.2.toNat*1⟩ λj=>
 az j λk=>
 fZ k 20 λl=>
 az l λm=>
 dx m 24 λn=>
 f n)<|
 f 18446744073709551615) λ(p:Int)=>
 new [aC p] λq=>
 mi 1 e.1 ⟨some ⟨q,0⟩,1,1⟩ λr=>
 c (r,(i64.wrap (e.2+1))))<|
 bQ<|
 az d λs=>
 az d λt=>
 bJ t λu=>
 both (
 bC (Y4 (some ⟨s.b,s.o+1⟩) u e.1) λ(v:k_×Bool)=>
 new [zi,zu,zi,zu,a_ false] λw=>
 cw t (Ks.mk cu u)<|
 st ⟨w,0⟩ (Ks.mk bc v.1)<|
 ar v.2 (
 bQ<|
 az d λx=>
 dN ⟨w,0⟩ λy=>
 bo (VD (some ⟨x.b,x.o+68⟩) y 1) λz=>
 ld bc ⟨w,0⟩ λA=>
 new [aJ A.1,aC A.2.1,aJ A.2.2.1,aC A.2.2.2.1,a_ A.2.2.2.2] λB=>
 st ⟨a,0⟩ [aX ⟨some ⟨B,0⟩,1,1⟩,aX ⟨none,0,0⟩,aX ⟨none,0,0⟩,zu]<|
 ld eI ⟨a,0⟩ λC=>
 R C)<|
 az d λD=>
 bC (Y5 (some ⟨D.b,D.o+1⟩)) λ(E:Int×Bool)=>
 ar (!E.2) (
 st ⟨a,0⟩ [aX ⟨none,0,0⟩,aX ⟨none,0,0⟩,aX ⟨none,0,0⟩,zu]<|
 ld eI ⟨a,0⟩ λF=>
 R F)<|
 st ⟨a,0⟩ [aX ⟨none,0,0⟩,aX ⟨none,0,0⟩,aX ⟨none,0,0⟩,aC (if E.1>1 then E.1 else 1)]<|
 ld eI ⟨a,0⟩ λG=>
 R G)<|
 new [zi,zu,zi,zu,a_ false] λH=>
 cw t (Ks.mk cu u)<|
 bC (Y4 (some ⟨s.b,s.o+1⟩) u e.1) λ(I:k_×Bool)=>
 st ⟨H,0⟩ (Ks.mk bc I.1)<|
 ar I.2 (
 bQ<|
 az d λJ=>
 dN ⟨H,0⟩ λK=>
 bo (VD (some ⟨J.b,J.o+68⟩) K 1) λL=>
 ld bc ⟨H,0⟩ λM=>
 new [aJ M.1,aC M.2.1,aJ M.2.2.1,aC M.2.2.2.1,a_ M.2.2.2.2] λN=>
 st ⟨a,0⟩ [aX ⟨some ⟨N,0⟩,1,1⟩,aX ⟨none,0,0⟩,aX ⟨none,0,0⟩,zu]<|
 ld eI ⟨a,0⟩ λO=>
 R O)<|
 az d λQ=>
 bC (Y5 (some ⟨Q.b,Q.o+1⟩)) λ(S:Int×Bool)=>
 ar (!S.2) (
 st ⟨a,0⟩ [aX ⟨none,0,0⟩,aX ⟨none,0,0⟩,aX ⟨none,0,0⟩,zu]<|
 ld eI ⟨a,0⟩ λT=>
 R T)<|
 st ⟨a,0⟩ [aX ⟨none,0,0⟩,aX ⟨none,0,0⟩,aX ⟨none,0,0⟩,aC (if S.1>1 then S.1 else 1)]<|
 ld eI ⟨a,0⟩ λU=>
 R U:=bI Tryz.func48 (uz 0x2801e055316a0840460e50009710c104004181b3a668636a40b9502a52585d322e32281b3a668636a32240b9502a52585d322f1850840431e5003940025943040008005044001081201044103086080041001001)
instance aeS(d o a):bG (Z6 d o a) λR=>
 loop [] () λc (e:Unit)=>
 az d λf=>
 bJ f λg=>
 bC (PZ o g) λ(h:k_×Int)=>
 new [zi,zu,zi,zu,a_ false] λi=>
 st ⟨i,0⟩ (Ks.mk bc h.1)<|
 ar (h.2 !=0) (
 R ())<|
 bQ<|
 ld bc ⟨i,0⟩ λj=>
 az d λk=>
 az d λl=>
 bJ l λm=>
 bC (T0 (some ⟨k.b,k.o+1⟩) j m) λ(n:Int×Int)=>
 bQ<|
 az d λp=>
 az o λq=>
 dN q λr=>
 bo (VD (some ⟨p.b,p.o+68⟩) r 0) λs=>
 ar (n.1 !=0) (
 bQ<|
 az d λt=>
 az o λu=>
 dN u λv=>
 bo (VD (some ⟨t.b,t.o+68⟩) v n.1) λw=>
 bQ<|
 ld bc ⟨i,0⟩ λx=>
 az a λy=>
 az a λz=>
 jn y 1 λA=>
 jn z 2 λB=>
 both (
 new [aJ x.1,aC x.2.1,aJ x.2.2.1,aC x.2.2.2.1,a_ x.2.2.2.2] λC=>
 sc z 2 B<|
 sc y 1 A<|
 both (
 mi 5 A ⟨some ⟨C,0⟩,1,1⟩ λD=>
 sc z 2 B<|
 new [aJ n.1] λE=>
 sc z 2 B<|
 sc y 1 A<|
 cw ⟨i,0⟩ (Ks.mk bc x)<|
 mi 1 B ⟨some ⟨E,0⟩,1,1⟩ λF=>
 az a λG=>
 so G 1 [aX D]<|
 az a λH=>
 so H 2 [aX F]<|
 dN ⟨i,2⟩ λI=>
 bo (VC o I) λJ=>
 R ())<|
 new [aJ n.1] λK=>
 sc z 2 B<|
 sc y 1 A<|
 cw ⟨i,0⟩ (Ks.mk bc x)<|
 mi 5 A ⟨some ⟨C,0⟩,1,1⟩ λL=>
 sc z 2 B<|
 mi 1 B ⟨some ⟨K,0⟩,1,1⟩ λM=>
 az a λN=>
 so N 1 [aX L]<|
 az a λO=>
 so O 2 [aX M]<|
 dN ⟨i,2⟩ λQ=>
 bo (VC o Q) λS=>
 R ())<|
 new [aJ n.1] λT=>
 sc z 2 B<|
 sc y 1 A<|
 cw ⟨i,0⟩ (Ks.mk bc x)<|
 new [aJ x.1,aC x.2.1,aJ x.2.2.1,aC x.2.2.2.1,a_ x.2.2.2.2] λU=>
 sc z 2 B<|
 sc y 1 A<|
 mi 5 A ⟨some ⟨U,0⟩,1,1⟩ λV=>
 sc z 2 B<|
 mi 1 B ⟨some ⟨T,0⟩,1,1⟩ λX=>
 az a λY=>
 so Y 1 [aX V]<|
 az a λZ=>
 so Z 2 [aX X]<|
 dN ⟨i,2⟩ λa0=>
 bo (VC o a0) λa1=>
 R ())<|
 c ():=bI Tryz.func77 (uz 0x7824815aa3525493962652a9145095f74fa98588a971e678e9a092056a8d49524e58994aa4514257dd3ea61622a78e9a092056a8d49524e58994aa4514257dd3ea78e998588ad71e73052c428320d9422651869420a5081942025cc30606174c8b861421012079410e500096a0c10400605d31ea1850840410e50009600c181b36668c9902e540a9496144c8b871821410049460e50009550c1201001080182)
instance aev(d o):bG (ZR d o) λR=>
 new (Ks.mk bE o) λa=>
 new [aX ⟨none,0,0⟩,aX ⟨none,0,0⟩,aX ⟨none,0,0⟩,zu] λc=>
 join [] (λe=>
 dN ⟨a,1⟩ λf=>
 ar (decide (f<0)) (
 st ⟨c,0⟩ [aX ⟨none,0,0⟩,aX ⟨none,0,0⟩,aX ⟨none,0,0⟩,zu]<|
 ld eI ⟨c,0⟩ λg=>
 R (g,8))<|
 dN ⟨a,1⟩ λh=>
 ar (decide (h≥8)) (
 st ⟨c,0⟩ [aX ⟨none,0,0⟩,aX ⟨none,0,0⟩,aX ⟨none,0,0⟩,zu]<|
 ld eI ⟨c,0⟩ λi=>
 R (i,8))<|
 e ()) λ(j:Unit)=>
 bQ<|
 dN ⟨a,1⟩ λk=>
 az d λl=>
 dM (0≤k∧k<8)<|
 s_ ⟨l.b,l.o+132+k.toNat*1⟩ λm=>
 dN ⟨a,0⟩ λn=>
 ar (n==1) (
 ar (!m.isNone) (
 st ⟨c,0⟩ [aX ⟨none,0,0⟩,aX ⟨none,0,0⟩,aX ⟨none,0,0⟩,zu]<|
 ld eI ⟨c,0⟩ λp=>
 R (p,9))<|
 bQ<|
 dN ⟨a,1⟩ λq=>
 dN ⟨a,1⟩ λr=>
 az d λs=>
 az d λt=>
 lo bk s 1 λ(u:eN)=>
 lU (Z2 r u) λv=>
 cw ⟨a,1⟩ (Ks.mk ci q)<|
 dM (0≤q∧q<8)<|
 st ⟨t.b,t.o+132+q.toNat*1⟩ [.ptr v]<|
 st ⟨c,0⟩ [aX ⟨none,0,0⟩,aX ⟨none,0,0⟩,aX ⟨none,0,0⟩,zu]<|
 ld eI ⟨c,0⟩ λw=>
 R (w,0))<|
 ar m.isNone (
 st ⟨c,0⟩ [aX ⟨none,0,0⟩,aX ⟨none,0,0⟩,aX ⟨none,0,0⟩,zu]<|
 ld eI ⟨c,0⟩ λx=>
 R (x,10))<|
 dN ⟨a,0⟩ λy=>
 ar (y==9) (
 dN ⟨a,1⟩ λz=>
 bC (Z3 d z) λ(A:Eh)=>
 st ⟨c,0⟩ (Ks.mk eI A)<|
 ld eI ⟨c,0⟩ λB=>
 R (B,0))<|
 join ci (λC=>
 dN ⟨a,0⟩ λD=>
 ar (D==2) (
 bQ<|
 az m λE=>
 dN ⟨a,2⟩ λF=>
 bo (Y3 (some ⟨E.b,E.o+3⟩) F) λG=>
 C G)<|
 ar (D==3) (
 bQ<|
 az d λH=>
 bJ ⟨a,3⟩ λI=>
 fb ⟨a,5⟩ λJ=>
 bJ H λK=>
 bo (Z4 m K I J) λL=>
 C L)<|
 ar (D==4) (
 az d λM=>
 bJ M λN=>
 cg (Z5 m N) λO=>
 C 0)<|
 dN ⟨a,2⟩ λQ=>
 bo (VC m Q) λS=>
 C S) λ(T:Int)=>
 new [aX ⟨none,0,0⟩,aX ⟨none,0,0⟩,aX ⟨none,0,0⟩,zu] λU=>
 join [] (λV=>
 ar (T==0) (
 cg (Z6 d m (some ⟨U,0⟩)) λX=>
 V ())<|
 V ()) λ(Y:Unit)=>
 ld eI ⟨U,0⟩ λZ=>
 st ⟨c,0⟩ (Ks.mk eI Z)<|
 ld eI ⟨c,0⟩ λa0=>
 R (a0,T):=bI Tryz.func47 (uz 0x1c800400122068a9995d5449c840c81820c794316500194602523f0c10018161a655316a0840430e5180940fc304004200104704400124124100781e6cea9d4cda5a54aa8920c1d12e51840801650c394306500095e0c12410400418171e61954c5a444439420c1940025443049004001)
instance aeu(d):bG (Y1 d) λR=>
 new (Ks.mk bk d) λa=>
 dN ⟨a,0⟩ λb=>
 ar (decide (b≥100)) (
 dN ⟨a,0⟩ λc=>
 ar (decide (c≤65536)) (
 dN ⟨a,1⟩ λe=>
 ar (decide (e≥100)) (
 dN ⟨a,1⟩ λf=>
 ar (decide (f≤65536)) (
 dN ⟨a,2⟩ λg=>
 ar (decide (g≥1)) (
 dN ⟨a,2⟩ λh=>
 ar (decide (h≤512)) (
 dN ⟨a,3⟩ λi=>
 ar (decide (i≥1)) (
 dN ⟨a,3⟩ λj=>
 ar (decide (j≤512)) (
 bJ ⟨a,4⟩ λk=>
 ar (decide (k≤4611686018427387904)) (
 dN ⟨a,7⟩ λl=>
 ar (decide (l≥1)) (
 dN ⟨a,7⟩ λm=>
 ar (decide (m≤1073741824)) (
 dN ⟨a,8⟩ λn=>
 ar (decide (n≥100)) (
 dN ⟨a,8⟩ λo=>
 R (decide (o≤9000)))<|
 R false)<|
 R false)<|
 R false)<|
 R false)<|
 R false)<|
 R false)<|
 R false)<|
 R false)<|
 R false)<|
 R false)<|
 R false)<|
 R false:=bI Tryz.func46 (uz 8)
instance aef(c):bG (ZH c) λR=>
 new (Ks.mk bk c) λa=>
 ld bk ⟨a,0⟩ λb=>
 cM (Y1 b) λd=>
 ar (!d) (
 R (none,13))<|
 ld bk ⟨a,0⟩ λe=>
 new [zu,aJ e.1,aJ e.2.1,aJ e.2.2.1,aJ e.2.2.2.1,aC e.2.2.2.2.1,aC e.2.2.2.2.2.1,a_ e.2.2.2.2.2.2.1,aJ e.2.2.2.2.2.2.2.1,aJ e.2.2.2.2.2.2.2.2,zi,zi,zi,zu,zu,aX ⟨none,0,0⟩,zi,zi,zi,zu,zu,aX ⟨none,0,0⟩,zi,zi,zi,zu,zu,aX ⟨none,0,0⟩,zi,zi,zi,zu,zu,aX ⟨none,0,0⟩,zi,zi,zi,zu,zu,aX ⟨none,0,0⟩,zi,zi,zi,zu,zu,aX ⟨none,0,0⟩,zi,zi,zi,zu,zu,aX ⟨none,0,0⟩,zi,zi,zi,zu,zu,aX ⟨none,0,0⟩,a_ false,a_ false,a_ false,a_ false,a_ false,a_ false,a_ false,a_ false,aX ⟨none,0,0⟩,aX ⟨none,0,0⟩,zi,zi,zi,zi,zi,zi,zi,zi,zi,zi,zi,zi,zi,zi,zi,zi,zi,zi,zi,zi,zi,zi,zi,zi,zi,zi,zi,zi,zi,zi,zi,zi,zi,zi,zi,zi,zi,zi,zi,zi,zi,zi,zi,zi,zi,zi,zi,zi,zi,zi,zi,zi,zi,zi,zi,zi,zi,zi,zi,zi,zi,zi,zi,zi,.ptr none,.ptr none,.ptr none,.ptr none,.ptr none,.ptr none,.ptr none,.ptr none] λf=>
 R ((some ⟨f,0⟩),0):=bI Tryz.func24 (uz 0xa)
instance aeM(id c):bG (Z2 id c) λR=>
 new (Ks.mk bk c) λa=>
 bQ<|
 dN ⟨a,8⟩ λb=>
 dN ⟨a,7⟩ λd=>
 dN ⟨a,8⟩ λe=>
 lU (TU (u64.wrap (if e>0 then e else 0))) λf=>
 cw ⟨a,7⟩ (Ks.mk ci d)<|
 cw ⟨a,8⟩ (Ks.mk ci b)<|
 new [aJ id,aJ b,aJ d,aJ 1073741824,zu,zu,zu,aX ⟨none,0,0⟩,zu,zu,zu,zu,zu,a_ false,zu,zu,zu,zu,zu,a_ false,.ptr f,zu,zu] λg=>
 R (some ⟨g,0⟩):=bI Tryz.func71 (uz 0x2074d99c3263ca24714bd4e2a62481c40831a51610c39430650009440c1001)
instance aea:bG XJ λR=>
 new [zi,zi,zi,zi,zu,zu,a_ false,zi,zi] λa=>
 st ⟨a,0⟩ [aJ 3000,aJ 15000,aJ 100,aJ 50,aC 10000000000,zu,a_ false,aJ 100000,aJ 1000]<|
 ld bk ⟨a,0⟩ λb=>
 R b:=bI Tryz.func18 (uz 8)
instance aaM(q i):bG (TW q i) λR=>
 join [] (λa=>
 ar ((decide (i<0))||(decide (i≥8))) (
 R ⟨none,0,0⟩)<|
 az q λc=>
 dM (0≤i∧i<8)<|
 rE ⟨c.b,c.o+57+i.toNat*1⟩ λd=>
 ar (!d) (
 R ⟨none,0,0⟩)<|
 a ()) λ(e:Unit)=>
 az q λf=>
 dM (0≤i∧i<8)<|
 fb ⟨f.b,f.o+9+i.toNat*6+5⟩ λg=>
 az q λh=>
 cM (P9 (some ⟨h.b,h.o+65⟩) i) λj=>
 bQ<|
 az q λk=>
 az q λl=>
 dM (0≤i∧i<8)<|
 st ⟨k.b,k.o+57+i.toNat*1⟩ [a_ false]<|
 dM (0≤i∧i<8)<|
 st ⟨l.b,l.o+9+i.toNat*6⟩ [zi,zi,zi,zu,zu,aX ⟨none,0,0⟩]<|
 R g:=bI Tryz.func115 (uz 0x783bd4cabad0ba78226df21e9e4a9761a5cc99711651210439400a5040003040040049004001)
instance aeT(d o a):bG (Y4 d o a) λR=>
 new [zi,zu,zi,zu,a_ false] λc=>
 join [] (λe=>
 bo (LR d) λf=>
 loop ci f λg (h:Int)=>
 join [] (λi=>
 ar (decide (h≥0)) (
 az d λj=>
 dM (0≤h∧h<8)<|
 ld oO ⟨j.b,j.o+9+h.toNat*6⟩ λk=>
 aT (Gl k) λl=>
 ar (decide (l≤o)) (
 i ())<|
 e ())<|
 e ()) λ(m:Unit)=>
 cg (Gm d h 2) λn=>
 bo (LR d) λp=>
 g p) λ(q:Unit)=>
 loop [] () λr (s:Unit)=>
 az d λt=>
 bC (T1 (some ⟨t.b,t.o+65⟩)) λ(u:Int×Bool×Bool)=>
 ar (!u.2.2) (
 st ⟨c,0⟩ [zi,zu,zi,zu,a_ false]<|
 ld bc ⟨c,0⟩ λv=>
 R (v,false))<|
 az d λw=>
 dM (0≤u.1∧u.1<8)<|
 az (some ⟨w.b,w.o+9+u.1.toNat*6⟩) λx=>
 gV x 1 λy=>
 ar (decide (y≤0)) (
 bQ<|
 az (some ⟨w.b,w.o+9+u.1.toNat*6⟩) λz=>
 az d λA=>
 gV z 1 λB=>
 dN A λC=>
 az (some ⟨w.b,w.o+9+u.1.toNat*6⟩) λD=>
 so D 1 [aJ (i64.wrap (B+C))]<|
 cg (Gm d u.1 2) λE=>
 r ())<|
 join cb (λF=>
 az (some ⟨w.b,w.o+9+u.1.toNat*6⟩) λG=>
 jn G 5 λH=>
 ar ((((H.len:Nat):Int)==0)&&u.2.1) (
 az d λI=>
 jn I 66 λJ=>
 F (decide (((J.len:Nat):Int)>0)))<|
 F false) λ(K:Bool)=>
 ar K (
 cg (Gm d u.1 2) λL=>
 r ())<|
 az (some ⟨w.b,w.o+9+u.1.toNat*6⟩) λM=>
 jn M 5 λN=>
 ar (((N.len:Nat):Int)==0) (
 cg (Gm d u.1 0) λO=>
 az (some ⟨w.b,w.o+9+u.1.toNat*6⟩) λQ=>
 so Q 4 [aC o]<|
 r ())<|
 az (some ⟨w.b,w.o+9+u.1.toNat*6⟩) λS=>
 ld oO S λT=>
 aT (Gl T) λU=>
 ar (decide (U>o)) (
 cg (Gm d u.1 3) λV=>
 r ())<|
 az (some ⟨w.b,w.o+9+u.1.toNat*6⟩) λX=>
 jn X 5 λY=>
 idx Y 0 5 λZ=>
 ld bc Z λa0=>
 new [zi,zu,zi,zu,a_ false] λa1=>
 st ⟨a1,0⟩ (Ks.mk bc a0)<|
 az (some ⟨w.b,w.o+9+u.1.toNat*6⟩) λa2=>
 jn a2 5 λa3=>
 D9 a3 (some 1) none none 5 λa4=>
 mi 5 ⟨none,0,0⟩ a4 λa5=>
 az (some ⟨w.b,w.o+9+u.1.toNat*6⟩) λa6=>
 so a6 5 [aX a5]<|
 bQ<|
 az (some ⟨w.b,w.o+9+u.1.toNat*6⟩) λa7=>
 dN ⟨a1,2⟩ λa8=>
 gV a7 1 λa9=>
 az (some ⟨w.b,w.o+9+u.1.toNat*6⟩) λb0=>
 so b0 1 [aJ (i64.wrap (a9-a8))]<|
 bQ<|
 dN ⟨a1,2⟩ λb1=>
 az d λb2=>
 dx b2 5 λb3=>
 aT (T3 a u.1) λb4=>
 lA b2 5 b3<|
 cw ⟨a1,2⟩ (Ks.mk ci b1)<|
 aT (T2 b4 b3) λb5=>
 cw ⟨a1,2⟩ (Ks.mk ci b1)<|
 aT (LS b1 b5) λb6=>
 aT (qF o b6) λb7=>
 az (some ⟨w.b,w.o+9+u.1.toNat*6⟩) λb8=>
 so b8 3 [aC b7]<|
 ld bc ⟨a1,0⟩ λb9=>
 st ⟨c,0⟩ (Ks.mk bc b9)<|
 ld bc ⟨c,0⟩ λc0=>
 R (c0,true):=bI Tryz.func78 (uz 0x78217d1a9044f95e48ea9d50da9c5cca96546a8b28920300794916508494d0a504194c0252ff0c181a60aa89448957547a440c608d16530194c02507f0c10010010010011c1001001002d3f04402075b36a3112e56952a92481070c608016530194c0258ff0c1040042001241001080182000081200101201182001004001)
instance aaW(d o a):bG (T0 d o a) λR=>
 new (Ks.mk bc o) λc=>
 join [] (λe=>
 dN ⟨c,0⟩ λf=>
 ar (decide (f<0)) (
 R (0,8))<|
 dN ⟨c,0⟩ λg=>
 ar (decide (g≥8)) (
 R (0,8))<|
 e ()) λ(h:Unit)=>
 join [] (λi=>
 dN ⟨c,2⟩ λj=>
 ar (decide (j<1)) (
 R (0,1))<|
 dN ⟨c,2⟩ λk=>
 ar (decide (k>65536)) (
 R (0,1))<|
 i ()) λ(l:Unit)=>
 cg (UD d a) λm=>
 bQ<|
 dN ⟨c,0⟩ λn=>
 az d λp=>
 dM (0≤n∧n<8)<|
 az d λq=>
 dx q 4 λr=>
 aT (qF a r) λs=>
 join [] (λt=>
 bQ<|
 az d λu=>
 gV u 2 λv=>
 bo (UE d) λw=>
 EW u 2 v<|
 ar (decide (w≥v)) (
 R (2,0))<|
 bQ<|
 az (some ⟨p.b,p.o+9+n.toNat*6⟩) λx=>
 az d λy=>
 jn x 5 λz=>
 gV y 3 λA=>
 ar (decide (((z.len:Nat):Int)≥A)) (
 R (3,0))<|
 bJ ⟨c,3⟩ λB=>
 ar (decide (B>s)) (
 az d λC=>
 oM C 6 λD=>
 ar D (
 R (4,0))<|
 t ())<|
 t ()) λ(E:Unit)=>
 bJ ⟨c,3⟩ λF=>
 st ⟨c,3⟩ [aC (if s<F then s else F)]<|
 join [] (λG=>
 bQ<|
 dN ⟨c,0⟩ λH=>
 az d λI=>
 dM (0≤H∧H<8)<|
 rE ⟨I.b,I.o+57+H.toNat*1⟩ λJ=>
 ar (!J) (
 bQ<|
 dN ⟨c,0⟩ λK=>
 az d λL=>
 dM (0≤K∧K<8)<|
 st ⟨L.b,L.o+57+K.toNat*1⟩ [a_ true]<|
 bQ<|
 dN ⟨c,0⟩ λM=>
 az d λN=>
 gV N 1 λO=>
 az (some ⟨p.b,p.o+9+n.toNat*6⟩) λQ=>
 st Q [aJ M,aJ O,zi,zu,zu,aX ⟨none,0,0⟩]<|
 G ())<|
 join cb (λS=>
 az (some ⟨p.b,p.o+9+n.toNat*6⟩) λT=>
 gV T 2 λU=>
 ar (U==0) (
 az (some ⟨p.b,p.o+9+n.toNat*6⟩) λV=>
 dx V 4 λX=>
 aT (qF X 40000000) λY=>
 S (decide (Y≤a)))<|
 S false) λ(Z:Bool)=>
 ar Z (
 bQ<|
 az (some ⟨p.b,p.o+9+n.toNat*6⟩) λa0=>
 az d λa1=>
 gV a0 1 λa2=>
 dN a1 λa3=>
 az (some ⟨p.b,p.o+9+n.toNat*6⟩) λa4=>
 so a4 1 [aJ (if a3>a2 then a3 else a2)]<|
 G ())<|
 G ()) λ(a5:Unit)=>
 bQ<|
 ld bc ⟨c,0⟩ λa6=>
 az (some ⟨p.b,p.o+9+n.toNat*6⟩) λa7=>
 jn a7 5 λa8=>
 both (
 mi 5 ⟨none,0,0⟩ a8 λa9=>
 cw ⟨c,0⟩ (Ks.mk bc a6)<|
 new [aJ a6.1,aC a6.2.1,aJ a6.2.2.1,aC a6.2.2.2.1,a_ a6.2.2.2.2] λb0=>
 sc a7 5 a8<|
 mi 5 a9 ⟨some ⟨b0,0⟩,1,1⟩ λb1=>
 az (some ⟨p.b,p.o+9+n.toNat*6⟩) λb2=>
 so b2 5 [aX b1]<|
 az (some ⟨p.b,p.o+9+n.toNat*6⟩) λb3=>
 gV b3 2 λb4=>
 ar (b4==0) (
 az (some ⟨p.b,p.o+9+n.toNat*6⟩) λb5=>
 so b5 2 [aJ 1]<|
 az (some ⟨p.b,p.o+9+n.toNat*6⟩) λb6=>
 so b6 4 [zu]<|
 bQ<|
 az d λb7=>
 dN ⟨c,0⟩ λb8=>
 bo (LZ (some ⟨b7.b,b7.o+65⟩) b8 true) λb9=>
 R (0,0))<|
 R (0,0))<|
 new [aJ a6.1,aC a6.2.1,aJ a6.2.2.1,aC a6.2.2.2.1,a_ a6.2.2.2.2] λc0=>
 sc a7 5 a8<|
 mi 5 ⟨none,0,0⟩ a8 λc1=>
 cw ⟨c,0⟩ (Ks.mk bc a6)<|
 mi 5 c1 ⟨some ⟨c0,0⟩,1,1⟩ λc2=>
 az (some ⟨p.b,p.o+9+n.toNat*6⟩) λc3=>
 so c3 5 [aX c2]<|
 az (some ⟨p.b,p.o+9+n.toNat*6⟩) λc4=>
 gV c4 2 λc5=>
 ar (c5==0) (
 az (some ⟨p.b,p.o+9+n.toNat*6⟩) λc6=>
 so c6 2 [aJ 1]<|
 az (some ⟨p.b,p.o+9+n.toNat*6⟩) λc7=>
 so c7 4 [zu]<|
 bQ<|
 az d λc8=>
 dN ⟨c,0⟩ λc9=>
 bo (LZ (some ⟨c8.b,c8.o+65⟩) c9 true) λd0=>
 R (0,0))<|
 R (0,0):=bI Tryz.func125 (uz 0x702055316a0840440e500095afff0c00410010606d92ea29126561622a5459971e681b64ba8a449958588a971e65459c40c2106948065200944fff0c102075b36a3112e56952a92481070c6080165201948025dbf0c1002dbf04481a64aa912656132291c61440800e51019480257bf0e05869954c5a4444394210194002563f0c10601c65531691110e5084065000950fc304010005381b2e66952a92442031c2181005948025cc3047060608997487a51066185103002940025a830420040018161a65531691110e508406500095c0c1001240109004001)
instance ab7(q):bG (UE q) λR=>
 loop [.int .i64,.int .i64] (0,0) λa (c:Int×Int)=>
 ar (decide (c.2<8)) (
 az q λd=>
 dM (0≤c.2∧c.2<8)<|
 fb ⟨d.b,d.o+9+c.2.toNat*6+5⟩ λe=>
 a ((i64.wrap (c.1+((e.len:Nat):Int))),(i64.wrap (c.2+1))))<|
 R c.1:=bI Tryz.func203 (uz 0x7000081201044043086080041001001)
instance aeV(q):bG (Y5 q) λR=>
 bo (LR q) λa=>
 ar (decide (a<0)) (
 R (0,false))<|
 az q λc=>
 dM (0≤a∧a<8)<|
 ld oO ⟨c.b,c.o+9+a.toNat*6⟩ λd=>
 aT (Gl d) λe=>
 R (e,true):=bI Tryz.func80 (uz 0x17)
instance ab6(q af):bG (UD q af) λR=>
 loop ci 0 λa (c:Int)=>
 ar (decide (c<8)) (
 join cb (λd=>
 az q λe=>
 dM (0≤c∧c<8)<|
 rE ⟨e.b,e.o+57+c.toNat*1⟩ λf=>
 ar f (
 az q λg=>
 dM (0≤c∧c<8)<|
 dN ⟨g.b,g.o+9+c.toNat*6+2⟩ λh=>
 ar (h==0) (
 az q λi=>
 dM (0≤c∧c<8)<|
 bJ ⟨i.b,i.o+9+c.toNat*6+4⟩ λj=>
 aT (qF j 3000000000) λk=>
 d (decide (k≤af)))<|
 d false)<|
 d false) λ(l:Bool)=>
 ar l (
 bQ<|
 az q λm=>
 az q λn=>
 dM (0≤c∧c<8)<|
 st ⟨m.b,m.o+57+c.toNat*1⟩ [a_ false]<|
 dM (0≤c∧c<8)<|
 st ⟨n.b,n.o+9+c.toNat*6⟩ [zi,zi,zi,zu,zu,aX ⟨none,0,0⟩]<|
 a (i64.wrap (c+1)))<|
 a (i64.wrap (c+1)))<|
 R ():=bI Tryz.func202 (uz 0x20fb832af772e9ec89bad47a7c2a5e46976265d059448430029440650009410c1002901102048041101182001)
instance aaX(q):bG (LR q) λR=>
 loop [.int .i64,.int .i64] ((-1),0) λa (c:Int×Int)=>
 ar (decide (c.2<8)) (
 join cb (λd=>
 bQ<|
 az q λe=>
 dM (0≤c.2∧c.2<8)<|
 rE ⟨e.b,e.o+57+c.2.toNat*1⟩ λf=>
 ar f (
 az q λg=>
 dM (0≤c.2∧c.2<8)<|
 dN ⟨g.b,g.o+9+c.2.toNat*6+2⟩ λh=>
 ar (h==3) (
 ar (decide (c.1<0)) (
 d true)<|
 az q λi=>
 az q λj=>
 dM (0≤c.2∧c.2<8)<|
 dM (0≤c.1∧c.1<8)<|
 ld oO ⟨i.b,i.o+9+c.2.toNat*6⟩ λk=>
 ld oO ⟨j.b,j.o+9+c.1.toNat*6⟩ λl=>
 aT (Gl k) λm=>
 cw ⟨j.b,j.o+9+c.1.toNat*6⟩ (Ks.mk oO l)<|
 aT (Gl l) λn=>
 d (decide (m<n)))<|
 d false)<|
 d false) λ(p:Bool)=>
 ar p (
 a (c.2,(i64.wrap (c.2+1))))<|
 a (c.1,(i64.wrap (c.2+1))))<|
 R c.1:=bI Tryz.func126 (uz 0x1c01e0d21929ce4863b72ae48adc6486aaa46aac24829a64669bed91fb689a462dba47a99e45e9b247699645a99037299006e99045699005298e14e98a14a984346941f3cfa5e3cea5d3cda5c3cca5b64f2ed68f2a960f2693c42293c01e918530a1290c90a51019400252030ad044081201044043086080041001001)
instance aaZ(q i place):bG (Gm q i place) λR=>
 az q λa=>
 cM (P9 (some ⟨a.b,a.o+65⟩) i) λc=>
 az q λd=>
 dM (0≤i∧i<8)<|
 st ⟨d.b,d.o+9+i.toNat*6+2⟩ [aJ place]<|
 ar ((place==1)||(place==2)) (
 az q λe=>
 bo (LZ (some ⟨e.b,e.o+65⟩) i (place==1)) λf=>
 R ())<|
 R ():=bI Tryz.func128 (uz 0x10)
instance ad6(c l):bG (PT c l) λR=>
 new (Ks.mk bk c) λa=>
 ld bk ⟨a,0⟩ λb=>
 bC (ZH b) λ(d:bO×Int)=>
 ar (d.2 !=0) (
 new [aJ d.2] λe=>
 R (⟨none,0,0⟩,⟨some ⟨e,0⟩,1,1⟩))<|
 loop H9 (⟨none,0,0⟩,⟨none,0,0⟩,0) λf (g:Ia)=>
 ar (decide (g.2.2<((l.len:Nat):Int))) (
 idx l g.2.2 15 λh=>
 ld bE h λi=>
 bC (ZI d.1 i) λ(j:Eh×Int)=>
 new [aX ⟨none,0,0⟩,aX ⟨none,0,0⟩,aX ⟨none,0,0⟩,zu] λk=>
 st ⟨k,0⟩ (Ks.mk eI j.1)<|
 ld eI ⟨k,0⟩ λm=>
 new [aX m.1,aX m.2.1,aX m.2.2.1,aC m.2.2.2] λn=>
 mi 4 g.1 ⟨some ⟨n,0⟩,1,1⟩ λo=>
 new [aJ j.2] λp=>
 mi 1 g.2.1 ⟨some ⟨p,0⟩,1,1⟩ λq=>
 f (o,q,(i64.wrap (g.2.2+1))))<|
 R (g.1,g.2.1):=bI Tryz.func10 (uz 0x700708120104a1091080c6080041001001241001001)
instance aeP(d o a a'):bG (Z4 d o a a') λR=>
 az d λc=>
 bC (LQ (some ⟨c.b,c.o+7⟩) a a') λ(e:Sl×Int×Int)=>
 ar (e.2.2 !=0) (
 R e.2.2)<|
 az d λf=>
 bo (TX (some ⟨f.b,f.o+3⟩) a) λg=>
 loop ci 0 λh (i:Int)=>
 ar (decide (i<((e.1.len:Nat):Int))) (
 bQ<|
 az d λj=>
 idx e.1 i 9 λk=>
 idx e.1 i 9 λl=>
 idx e.1 i 9 λm=>
 dx k 1 λn=>
 bJ l λp=>
 lo cy m 2 λ(q:pZ)=>
 cg (TY (some ⟨j.b,j.o+9⟩) o (u64.wrap (n-p)) q) λr=>
 h (i64.wrap (i+1)))<|
 bQ<|
 az d λs=>
 az d λt=>
 az d λu=>
 fZ s 20 λv=>
 aT (JF (some ⟨u.b,u.o+7⟩)) λw=>
 lG s 20 v<|
 bC (PY (some ⟨t.b,t.o+9⟩) o e.2.1 w) λ(x:jT)=>
 lG s 20 v<|
 bo (JG d) λy=>
 lG s 20 v<|
 bC (PX v x (u64.wrap y)) λ(z:gd)=>
 R 0:=bI Tryz.func74 (uz 0x1e085e511b907cf99d6585cdc9c3260cb1822850403a500994a2250479401250009790c102091f5135327993a94cd2123070a1811a5b68ba56546a413109493e530a94926530594912504394002590308120104c046080041001241001001)
instance aeR(s n):bG (VC s n) λR=>
 join [] (λa=>
 ar (decide (n<1)) (
 R 1)<|
 az s λb=>
 dx b 21 λc=>
 ar (decide ((u64.wrap n)>c)) (
 R 1)<|
 a ()) λ(d:Unit)=>
 az s λe=>
 dx e 21 λf=>
 az s λg=>
 so g 21 [aC (u64.wrap (f-(u64.wrap n)))]<|
 R 0:=bI Tryz.func76 (uz 0x209004001)
instance aaV(d o):bG (PZ d o) λR=>
 new [zi,zu,zi,zu,a_ false] λa=>
 az d λc=>
 bC (Uw (some ⟨c.b,c.o+7⟩)) λ(e:(Int×Int)×Bool)=>
 new [zu,zu] λf=>
 st ⟨f,0⟩ (Ks.mk cr e.1)<|
 az d λg=>
 aT (JF (some ⟨g.b,g.o+7⟩)) λh=>
 join cb (λi=>
 bQ<|
 ar (!e.2) (
 az d λj=>
 az d λk=>
 dx j 5 λl=>
 dx k 6 λm=>
 i (l==m))<|
 i false) λ(n:Bool)=>
 ar n (
 az d λp=>
 fZ p 20 λq=>
 az q λr=>
 dx r 25 λs=>
 ar (decide (h<s)) (
 az d λt=>
 cg (Ux (some ⟨t.b,t.o+9⟩) h) λu=>
 st ⟨a,0⟩ [zi,zu,zi,zu,a_ false]<|
 ld bc ⟨a,0⟩ λv=>
 R (v,7))<|
 st ⟨a,0⟩ [zi,zu,zi,zu,a_ false]<|
 ld bc ⟨a,0⟩ λw=>
 R (w,7))<|
 join cb (λx=>
 bQ<|
 az d λy=>
 fZ y 20 λz=>
 az z λA=>
 dx A 25 λB=>
 ar (decide (h≥B)) (
 x true)<|
 az d λC=>
 az d λD=>
 az d λE=>
 dx C 21 λF=>
 fZ D 20 λG=>
 gV E 2 λH=>
 az G λI=>
 dx I 24 λJ=>
 bo (JG d) λK=>
 lA I 24 J<|
 EW E 2 H<|
 lG D 20 G<|
 lA C 21 F<|
 aT (Uy J K H) λL=>
 lA C 21 F<|
 ar (decide (F≥L)) (
 x true)<|
 ar (!e.2) (
 az d λM=>
 jn M 7 λN=>
 x (decide (((N.len:Nat):Int)≥4096)))<|
 x false) λ(O:Bool)=>
 ar O (
 st ⟨a,0⟩ [zi,zu,zi,zu,a_ false]<|
 ld bc ⟨a,0⟩ λQ=>
 R (Q,5))<|
 az d λS=>
 bC (Uz (some ⟨S.b,S.o+9⟩) o h) λ(T:pZ)=>
 new [zu,zu,zu,zu,a_ false] λU=>
 st ⟨U,0⟩ (Ks.mk cy T)<|
 join [] (λV=>
 ar e.2 (
 bQ<|
 ld cy ⟨U,0⟩ λX=>
 az d λY=>
 bC (UA (some ⟨Y.b,Y.o+7⟩) X) λ(Z:(Int×Int)×Bool)=>
 V ())<|
 bQ<|
 az d λa0=>
 bo (JG d) λa1=>
 bC (UB (some ⟨a0.b,a0.o+3⟩) a1) λ(a2:(Int×Int)×Bool)=>
 st ⟨f,0⟩ (Ks.mk cr a2.1)<|
 bQ<|
 ld cy ⟨U,0⟩ λa3=>
 az d λa4=>
 bJ ⟨f,0⟩ λa5=>
 bJ ⟨f,1⟩ λa6=>
 bo (UC (some ⟨a4.b,a4.o+7⟩) a5 a6 a3) λa7=>
 V ()) λ(a8:Unit)=>
 bJ ⟨f,1⟩ λa9=>
 bJ ⟨f,0⟩ λb0=>
 bQ<|
 az d λb1=>
 bJ ⟨f,0⟩ λb2=>
 az d λb3=>
 dN b1 λb4=>
 dx b3 22 λb5=>
 new [zi,zu,zi,zu,a_ false] λb6=>
 lA b3 22 b5<|
 cw b1 (Ks.mk ci b4)<|
 cw ⟨f,0⟩ (Ks.mk cu b2)<|
 st ⟨b6,0⟩ [aJ b4,aC b2,aJ (i64.wrap (u64.wrap (a9-b0))),aC (if b5>o then b5 else o),a_ e.2]<|
 bQ<|
 bJ ⟨b6,3⟩ λb7=>
 az d λb8=>
 fZ b8 20 λb9=>
 az b9 λc0=>
 dx c0 24 λc1=>
 aT (LS (i64.wrap (u64.wrap (a9-b0))) c1) λc2=>
 cw ⟨b6,3⟩ (Ks.mk cu b7)<|
 aT (qF b7 c2) λc3=>
 az d λc4=>
 so c4 22 [aC c3]<|
 az d λc5=>
 dx c5 21 λc6=>
 aT (qF c6 (u64.wrap (i64.wrap (u64.wrap (a9-b0))))) λc7=>
 az d λc8=>
 so c8 21 [aC c7]<|
 ld bc ⟨b6,0⟩ λc9=>
 st ⟨a,0⟩ (Ks.mk bc c9)<|
 ld bc ⟨a,0⟩ λd0=>
 R (d0,0):=bI Tryz.func124 (uz 0x881f74fa8e44d95c4cca9b50ba8a2481c614200494a0e52c194002557ffc30607cb42a3e279d5d650ed5c60ca4b0ca0891411cd94022504794a1a51849400251bffc3040060617553232086101247946165183940025dbf0e05c626a4089501e51954c5a94126081003940025bbf0c18144c4a820490e5000968fc304004010004c83abeaa79cafa6de32a29df29e9db29a9d72969d32929cf28e9c808a9c6f869c2f829bc77e97ad69da6c79a72dae795a6f299a5aa91a5298da4e989a4a9a9a6a985a46975a369a5a66981a42971a329a1a6297da3e96da2e96805e96805696803a96802a9258448a471851030800652009740c283f04406b81e4cea5d61336d7133295d31e96d32e95931a96932a95531696532695131294c02294c00e90811c09560c2941101001001001)
instance aeQ(s af):bG (Z5 s af) λR=>
 az s λa=>
 aT (TZ (some ⟨a.b,a.o+7⟩)) λc=>
 bQ<|
 az s λd=>
 az s λe=>
 az s λf=>
 fZ d 20 λg=>
 aT (JF (some ⟨f.b,f.o+7⟩)) λh=>
 lG d 20 g<|
 bC (PY (some ⟨e.b,e.o+9⟩) af c h) λ(i:jT)=>
 lG d 20 g<|
 bo (JG s) λj=>
 lG d 20 g<|
 bC (PX g i (u64.wrap j)) λ(k:gd)=>
 R ():=bI Tryz.func75 (uz 0x82178c46e41f3e675960f37270c9832c608a14100e9402651089411e5004940025203001)
instance aaT(s):bG (JG s) λR=>
 bQ<|
 az s λa=>
 az s λb=>
 fZ a 20 λc=>
 gV b 1 λd=>
 az c λe=>
 dx e 24 λf=>
 bo (Uv f d) λg=>
 R g:=bI Tryz.func122 (uz 0x80e3263492ea18510a0c90880401e50009420c1001)
instance aec(outs errs):bG (ZE outs errs) λR=>
 loop [.str,.int .i64] ((⟨#[]⟩:ByteArray),0) λa (b:ByteArray×Int)=>
 ar (decide (b.2<((errs.len:Nat):Int))) (
 idx errs b.2 1 λc=>
 dN c λd=>
 bC (Mj (u64.wrap (if d>0 then d else 0))) λ(e:ByteArray)=>
 dM (((b.1.size+e.size:Nat):Int)≤i64.max)<|
 ar (decide (b.2<((outs.len:Nat):Int))) (
 bQ<|
 idx outs b.2 4 λf=>
 idx outs b.2 4 λg=>
 fb f λh=>
 jn g 1 λi=>
 bC (Y0 (⟨#[32,43]⟩:ByteArray) h) λ(j:ByteArray)=>
 sc g 1 i<|
 dM ((((b.1++e).size+j.size:Nat):Int)≤i64.max)<|
 bC (Y0 (⟨#[32,45]⟩:ByteArray) i) λ(k:ByteArray)=>
 dM (((((b.1++e)++j).size+k.size:Nat):Int)≤i64.max)<|
 idx outs b.2 4 λl=>
 dx l 3 λm=>
 ar (m !=0) (
 dM ((((((b.1++e)++j)++k).size+(⟨#[32,64]⟩:ByteArray).size:Nat):Int)≤i64.max)<|
 idx outs b.2 4 λn=>
 dx n 3 λo=>
 bC (Mj o) λ(p:ByteArray)=>
 dM (((((((b.1++e)++j)++k)++(⟨#[32,64]⟩:ByteArray)).size+p.size:Nat):Int)≤i64.max)<|
 dM ((((((((b.1++e)++j)++k)++(⟨#[32,64]⟩:ByteArray))++p).size+(⟨#[10]⟩:ByteArray).size:Nat):Int)≤i64.max)<|
 a (((((((b.1++e)++j)++k)++(⟨#[32,64]⟩:ByteArray))++p)++(⟨#[10]⟩:ByteArray)),(i64.wrap (b.2+1))))<|
 dM ((((((b.1++e)++j)++k).size+(⟨#[10]⟩:ByteArray).size:Nat):Int)≤i64.max)<|
 a (((((b.1++e)++j)++k)++(⟨#[10]⟩:ByteArray)),(i64.wrap (b.2+1))))<|
 dM ((((b.1++e).size+(⟨#[10]⟩:ByteArray).size:Nat):Int)≤i64.max)<|
 a (((b.1++e)++(⟨#[10]⟩:ByteArray)),(i64.wrap (b.2+1))))<|
 R b.1:=bI Tryz.func20 (.s .o (.s .o (.s (.s .o (.b (.l [(5,.lf .str),(6,qi)] (.s (.s .o (.s .o .o)) (.s (.b (.s .o (.s (.s .o (.s (.s (.d (.f 0 [5] (.f 1 [0] (.f 2 [6] (.f 8 [0] (.f 9 [6] (.f 3 [27,28] (.f 10 [34,35] (.f 4 [29] (.f 11 [36] (.f 5 [30] (.f 12 [37] (.w 6 [31] (.f 7 [26,32] (.w 13 [38] (.f 14 [33,39] (.w 15 [40] .aK))))))))))))))))) (.s .o (.s .o .o))) .o)) .o))) .o))))) (.s .o .o))))
instance aaY(f):bG (Gl f) λR=>
 new (Ks.mk oO f) λa=>
 bQ<|
 bJ ⟨a,3⟩ λb=>
 fb ⟨a,5⟩ λc=>
 idx c 0 5 λd=>
 dx d 3 λe=>
 R (if e>b then e else b):=bI Tryz.func127 (uz 0x80a2262441e91851030410a50409420c1001)
instance aek(b i):bG (SF b i) λR=>
 ar (decide (i<((b.len:Nat):Int))) (
 idx b i 1 λa=>
 ld [.int .u8] a λ(c:Int)=>
 R (i64.wrap c))<|
 R 0:=bI Tryz.func36 (uz 0xa)
instance aa4(rates i):bG (T3 rates i) λR=>
 ar (decide (i<((rates.len:Nat):Int))) (
 idx rates i 1 λa=>
 bJ a λb=>
 R b)<|
 R 18446744073709551615:=bI Tryz.func133 (uz 0xa)
end Go.X
