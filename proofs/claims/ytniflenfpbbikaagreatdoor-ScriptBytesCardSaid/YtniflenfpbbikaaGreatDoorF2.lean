/- Readings of functions. -/
import Derived.Test.YtniflenfpbbikaaGreatDoorG
set_option linter.all false
namespace Go.X
open IntKind (u64 i64)
open Go.Proofs
def vd(x y c:Int)(R:Rs.T [qu,qu]→WP):WP:=
 dM ((0≤x∧0≤y)∧0≤c∧c≤1)<|
 R ((x+y+c)%18446744073709551616,(x+y+c)/18446744073709551616)
theorem rS(x y c:Int)(R:Rs.T [qu,qu]→WP)(w:World)(h:vd x y c R w):
   ky Tryz.prog lK ([vu x,vu y,vu c].map V1.enc) w λv w'=>∃x,v=(nb (Rs.mk [qu,qu] x)).enc∧R x w':=by
 obtain⟨hp,h⟩:=h;exact CB Tryz.func219 (by kernel_rfl) (by kernel_rfl) (by kernel_rfl) (x:=add64Entry) (by kernel_rfl) (run_add64 x y c hp.1.1 hp.1.2 hp.2.1 hp.2.2 w) ⟨_,rfl,h⟩
instance aem(sign l):bG (Y0 sign l) λR=>
 loop [.str,.int .i64] ((⟨#[]⟩:ByteArray),0) λa (b:ByteArray×Int)=>
 ar (decide (b.2<((l.len:Nat):Int))) (
 bQ<|
 dM (((b.1.size+sign.size:Nat):Int)≤i64.max)<|
 idx l b.2 5 λc=>
 idx l b.2 5 λd=>
 idx l b.2 5 λe=>
 dN c λf=>
 dx d 1 λg=>
 gV e 2 λh=>
 bC (Mj (u64.wrap (if f>0 then f else 0))) λ(i:ByteArray)=>
 EW e 2 h<|
 lA d 1 g<|
 dM ((((b.1++sign).size+i.size:Nat):Int)≤i64.max)<|
 dM (((((b.1++sign)++i).size+(⟨#[58]⟩:ByteArray).size:Nat):Int)≤i64.max)<|
 bC (Mj g) λ(j:ByteArray)=>
 EW e 2 h<|
 dM ((((((b.1++sign)++i)++(⟨#[58]⟩:ByteArray)).size+j.size:Nat):Int)≤i64.max)<|
 dM (((((((b.1++sign)++i)++(⟨#[58]⟩:ByteArray))++j).size+(⟨#[58]⟩:ByteArray).size:Nat):Int)≤i64.max)<|
 bC (Mj (u64.wrap (if h>0 then h else 0))) λ(k:ByteArray)=>
 dM ((((((((b.1++sign)++i)++(⟨#[58]⟩:ByteArray))++j)++(⟨#[58]⟩:ByteArray)).size+k.size:Nat):Int)≤i64.max)<|
 a (((((((b.1++sign)++i)++(⟨#[58]⟩:ByteArray))++j)++(⟨#[58]⟩:ByteArray))++k),(i64.wrap (b.2+1))))<|
 R b.1:=bI Tryz.func38 (.s .o (.s .o (.s (.s .o (.b (.l [(5,.lf .str),(6,qi)] (.s (.s .o (.s .o .o)) (.s (.b (.d (.f 0 [5] (.f 1 [0] (.f 3 [1] (.f 4 [6] (.f 13 [1] (.f 14 [6] (.f 21 [1] (.f 22 [6] (.f 2 [13,14] (.f 5 [16,17] (.f 15 [26,27] (.f 23 [34,35] (.f 6 [18] (.f 16 [28] (.f 24 [36] (.f 7 [19] (.f 17 [29] (.f 25 [37] (.f 8 [20] (.f 26 [38] (.f 9 [21] (.f 27 [39] (.w 10 [22] (.f 11 [15,23] (.f 12 [24] (.w 18 [30] (.f 19 [25,31] (.f 20 [32] (.w 28 [40] (.f 29 [33,41] (.w 30 [42] .aK))))))))))))))))))))))))))))))))) .o))))) (.s .o .o))))
instance abM(p l):bG (Um p l) λR=>
 new (Ks.mk aE p) λa=>
 loop ci 0 λb (c:Int)=>
 ar (decide (c<((l.len:Nat):Int))) (
 bQ<|
 idx l c 2 λd=>
 bJ ⟨a,0⟩ λe=>
 bJ d λf=>
 ar (decide (f≤e)) (
 idx l c 2 λg=>
 bJ ⟨a,1⟩ λh=>
 dx g 1 λi=>
 ar (decide (i≥h)) (
 R true)<|
 b (i64.wrap (c+1)))<|
 b (i64.wrap (c+1)))<|
 R false:=bI Tryz.func182 (uz 0x1c032085946981e650b5d64da5c64ca5f64fa5b6992ed6423a96452a9641269217547a440c634c0a908594506504094b0c1081201045046080041001)
instance aeq(c to'):bG (ZN c to') λR=>
 ar c.isNone (
 R 2)<|
 ar (decide (to'>4611686018427387904)) (
 R 3)<|
 az c λa=>
 bJ a λb=>
 ar (decide (to'<b)) (
 R 4)<|
 az c λd=>
 st d [aC to']<|
 R 0:=bI Tryz.func42 (uz 0x215081001)
instance ae7(c):bG (c98 c) λR=>
 ar c.isNone (
 R 0)<|
 az c λa=>
 bJ a λb=>
 R b:=bI Tryz.func98 (uz 0xa)
instance aeo(lh):bG (ZL lh) λR=>
 new [aC lh] λa=>
 aT (ZV ⟨some ⟨a,0⟩,1,1⟩) λb=>
 new [aC b] λc=>
 R (some ⟨c,0⟩):=bI Tryz.func40 (uz 8)
instance aeA(l):bG (ZV l) λR=>
 loop [.int .u64,.int .i64] (4611686018427387904,0) λa (b:Int×Int)=>
 ar (decide (b.2<((l.len:Nat):Int))) (
 idx l b.2 1 λc=>
 bJ c λd=>
 ar (decide (d≥b.1)) (
 a (b.1,(i64.wrap (b.2+1))))<|
 a (d,(i64.wrap (b.2+1))))<|
 R b.1:=bI Tryz.func59 (uz 0x70110811c1001048003086080041001001001)
instance ade(x y):bG (Qo x y) λR=>
 cM (Qt x) λa=>
 cM (Qt y) λb=>
 ar a (
 ar b (
 R 0)<|
 R (-1))<|
 ar b (
 R 1)<|
 ar (decide (x<y)) (
 R (-1))<|
 ar (decide (x>y)) (
 R 1)<|
 R 0:=bI Tryz.func271 (uz 0x2c)
instance adb(vals):bG (U_ vals) λR=>
 loop ci 0 λa (b:Int)=>
 ar (decide (b<((vals.len:Nat):Int))) (
 idx vals b 1 λc=>
 dN c λd=>
 ar (d !=0) (
 R d)<|
 a (i64.wrap (b+1)))<|
 R 0:=bI Tryz.func270 (uz 0x700f0811c1001048046080041001001)
instance adG(x):bG (Qt x) λR=>
 R (x !=x):=bI Tryz.func299 (uz 8)
instance adn(c):bG (Vc c) λR=>
 ar (!c.isNone) (
 az c λa=>
 dN a λb=>
 ar (b==0) (
 R 320)<|
 ar (b==1) (
 R 192)<|
 R 256)<|
 R 256:=bI Tryz.func280 (uz 0x1c0342001040041001)
instance acs(c):bG (UI c) λR=>
 ar c.isNone (
 R 0)<|
 az c λa=>
 dN a λb=>
 R b:=bI Tryz.func225 (uz 0xa)
instance adP(c af phase):bG (Qw c af phase) λR=>
 ar (!c.isNone) (
 az c λa=>
 st a [aJ ((i64.wrap ((phase.tmod 8)+8)).tmod 8)]<|
 az c λb=>
 so b 1 [aC af]<|
 R ())<|
 R ():=bI Tryz.func308 (uz 8)
instance adu(c af bX bn flight up one):bG (Vg c af bX bn flight up one) λR=>
 loop cb false λa (b:Bool)=>
 join [] (λd=>
 ar (!c.isNone) (
 az c λe=>
 dx e 1 λf=>
 aT (y8 af f) λg=>
 cM (Vs c (decide (g>bX)) bn flight up one) λh=>
 ar h (
 d ())<|
 R b)<|
 R b) λ(i:Unit)=>
 az c λj=>
 dN j λk=>
 cg (Qw c af (i64.wrap (k+1))) λl=>
 R true:=bI Tryz.func287 (uz 0x1c808800408f046081001001001)
instance adO(c over bn flight up one):bG (Vs c over bn flight up one) λR=>
 az c λa=>
 dN a λb=>
 ar (b==0) (
 R (over&&((decide (bn>0))||(decide (flight≥up)))))<|
 ar (b==1) (
 R (over||(decide (flight≤one))))<|
 R over:=bI Tryz.func307 (uz 0x1cd080041001)
instance abl:bG T9 λR=>
 new [zi,zu] λa=>
 R (some ⟨a,0⟩):=bI Tryz.func156 (uz 8)
instance abf(a b):bG (T5 a b) λR=>
 loop [.int .u64,.int .i64] (18446744073709551615,0) λc (d:Int×Int)=>
 ar (decide (d.2<2)) (
 Ya [.int .u64] [aC a,aC b] d.2 2 1 λ(e:Int)=>
 ar (e==0) (
 c (d.1,(i64.wrap (d.2+1))))<|
 c ((if e<d.1 then e else d.1),(i64.wrap (d.2+1))))<|
 R d.1:=bI Tryz.func151 (uz 0x70110811c100104b005086080041001001001)
instance abe(size aY):bG (Be size aY) λR=>
 ar ((decide (size<1))||(aY==18446744073709551615)) (
 R 0)<|
 aT (Ex (u64.wrap size) 1000000000 aY) λa=>
 R (if 1000000000<a then 1000000000 else a):=bI Tryz.func150 (uz 0xa)
instance aee(m d):bG (ZG m d) λR=>
 new (Ks.mk bE d) λa=>
 new [aX ⟨none,0,0⟩,aX ⟨none,0,0⟩,aX ⟨none,0,0⟩,zu] λb=>
 ar m.isNone (
 st ⟨b,0⟩ [aX ⟨none,0,0⟩,aX ⟨none,0,0⟩,aX ⟨none,0,0⟩,zu]<|
 ld eI ⟨b,0⟩ λc=>
 R (c,2))<|
 new [aX ⟨none,0,0⟩,aX ⟨none,0,0⟩,aX ⟨none,0,0⟩,zu] λe=>
 join ci (λf=>
 dN ⟨a,0⟩ λg=>
 ar (g==5) (
 bQ<|
 az m λh=>
 bJ ⟨a,4⟩ λi=>
 fZ h 9 λj=>
 bo (ZN j i) λk=>
 f k)<|
 ar (g==6) (
 cg (ZO m (some ⟨e,0⟩)) λl=>
 f 0)<|
 ar (g==8) (
 ld bk ⟨a,6⟩ λn=>
 bo (ZP m n) λo=>
 f o)<|
 join cb (λp=>
 ar (g==1) (
 p (g==1))<|
 ar (g==2) (
 p (g==2))<|
 ar (g==3) (
 p (g==3))<|
 ar (g==4) (
 p (g==4))<|
 ar (g==7) (
 p (g==7))<|
 p (g==9)) λ(q:Bool)=>
 ar q (
 ld bE ⟨a,0⟩ λr=>
 bo (ZQ m r (some ⟨e,0⟩)) λs=>
 f s)<|
 f 12) λ(t:Int)=>
 ar (t !=0) (
 st ⟨b,0⟩ [aX ⟨none,0,0⟩,aX ⟨none,0,0⟩,aX ⟨none,0,0⟩,zu]<|
 ld eI ⟨b,0⟩ λu=>
 R (u,t))<|
 ld eI ⟨e,0⟩ λv=>
 st ⟨b,0⟩ (Ks.mk eI v)<|
 ld eI ⟨b,0⟩ λw=>
 R (w,0):=bI Tryz.func23 (uz 0x1d1dc0a00440010010010018171e65941aa0c21410c4940025383040042001047044001001241001)
instance aeC(m):bG (VB m) λR=>
 ar m.isNone (
 R 0)<|
 az m λa=>
 fZ a 9 λb=>
 aT (c98 b) λc=>
 R c:=bI Tryz.func61 (uz 0xa)
instance aaE(m o s fate):bG (PV m o s fate) λR=>
 new (Ks.mk bc s) λa=>
 bQ<|
 az m λb=>
 dN ⟨a,0⟩ λc=>
 fZ b 19 λd=>
 bo (SG d c fate) λe=>
 bQ<|
 ld bc ⟨a,0⟩ λf=>
 az o λg=>
 az o λh=>
 jn g 1 λi=>
 jn h 2 λj=>
 both (
 new [aJ f.1,aC f.2.1,aJ f.2.2.1,aC f.2.2.2.1,a_ f.2.2.2.2] λk=>
 sc h 2 j<|
 sc g 1 i<|
 both (
 mi 5 i ⟨some ⟨k,0⟩,1,1⟩ λl=>
 sc h 2 j<|
 new [aJ fate] λn=>
 sc h 2 j<|
 sc g 1 i<|
 cw ⟨a,0⟩ (Ks.mk bc f)<|
 mi 1 j ⟨some ⟨n,0⟩,1,1⟩ λp=>
 az o λq=>
 so q 1 [aX l]<|
 az o λr=>
 so r 2 [aX p]<|
 R ())<|
 new [aJ fate] λt=>
 sc h 2 j<|
 sc g 1 i<|
 cw ⟨a,0⟩ (Ks.mk bc f)<|
 mi 5 i ⟨some ⟨k,0⟩,1,1⟩ λu=>
 sc h 2 j<|
 mi 1 j ⟨some ⟨t,0⟩,1,1⟩ λv=>
 az o λw=>
 so w 1 [aX u]<|
 az o λx=>
 so x 2 [aX v]<|
 R ())<|
 new [aJ fate] λy=>
 sc h 2 j<|
 sc g 1 i<|
 cw ⟨a,0⟩ (Ks.mk bc f)<|
 new [aJ f.1,aC f.2.1,aJ f.2.2.1,aC f.2.2.2.1,a_ f.2.2.2.2] λz=>
 sc h 2 j<|
 sc g 1 i<|
 mi 5 i ⟨some ⟨z,0⟩,1,1⟩ λA=>
 sc h 2 j<|
 mi 1 j ⟨some ⟨y,0⟩,1,1⟩ λB=>
 az o λC=>
 so C 1 [aX A]<|
 az o λD=>
 so D 2 [aX B]<|
 R ():=bI Tryz.func107 (uz 0x824815aa3525493962652a9145095f74fa98588a971e678e9a092056a8d49524e58994aa4514257dd3ea61622a78e9a092056a8d49524e58994aa4514257dd3ea78e998588ad71e73052c42830cd9412651869410a50419410253c380e34b1ee0c21410c69461250009470c1001)
instance aet(d o a):bG (ZQ d o a) λR=>
 new (Ks.mk bE o) λc=>
 dN ⟨c,1⟩ λe=>
 cM (ZX e) λf=>
 ar (!f) (
 R 8)<|
 bQ<|
 dN ⟨c,1⟩ λg=>
 az d λh=>
 dM (0≤g∧g<8)<|
 s_ ⟨h.b,h.o+10+g.toNat*1⟩ λi=>
 dN ⟨c,0⟩ λj=>
 ar ((j==1)&&(!i.isNone)) (
 R 9)<|
 dN ⟨c,0⟩ λk=>
 ar (k==1) (
 bQ<|
 dN ⟨c,1⟩ λl=>
 dN ⟨c,1⟩ λm=>
 az d λn=>
 az d λp=>
 ld bk n λq=>
 lU (ZY m q) λr=>
 cw ⟨c,1⟩ (Ks.mk ci l)<|
 dM (0≤l∧l<8)<|
 st ⟨p.b,p.o+10+l.toNat*1⟩ [.ptr r]<|
 R 0)<|
 ar i.isNone (
 R 10)<|
 dN ⟨c,0⟩ λs=>
 ar (s==9) (
 dN ⟨c,1⟩ λt=>
 cg (ZZ d t a) λu=>
 R 0)<|
 bQ<|
 ld bE ⟨c,0⟩ λv=>
 aT (VB d) λw=>
 cw ⟨c,0⟩ (Ks.mk bE v)<|
 bo (Z0 i v w) λx=>
 ar (x==0) (
 dN ⟨c,1⟩ λy=>
 cg (Z1 d y a) λz=>
 R x)<|
 R x:=bI Tryz.func45 (uz 0x4a054599449112e4c39800a5101947025e0306d1e075a36a71332965526a20b1d12a518408016510394406500095f0c10400470400420605c798654f16910d0e508406500094c0c1241001)
instance aer(m o):bG (ZO m o) λR=>
 bQ<|
 az m λa=>
 fZ a 18 λb=>
 both (
 aT (VB m) λc=>
 lG a 18 b<|
 both (
 bC (XQ m) λ(d:Sl)=>
 lG a 18 b<|
 both (
 bC (W5 b c d) λ(e:k_×Bool)=>
 new [zi,zu,zi,zu,a_ false] λf=>
 lG a 18 b<|
 st ⟨f,0⟩ (Ks.mk bc e.1)<|
 ar e.2 (
 bQ<|
 az m λg=>
 dN ⟨f,0⟩ λh=>
 fZ g 19 λi=>
 bo (SG i h 1) λj=>
 ld bc ⟨f,0⟩ λk=>
 new [aJ k.1,aC k.2.1,aJ k.2.2.1,aC k.2.2.2.1,a_ k.2.2.2.2] λl=>
 az o λn=>
 st n [aX ⟨some ⟨l,0⟩,1,1⟩]<|
 R ())<|
 az m λp=>
 fZ p 18 λq=>
 bC (W6 q) λ(r:Int×Bool)=>
 ar r.2 (
 az o λs=>
 so s 3 [aC (if 1>r.1 then 1 else r.1)]<|
 R ())<|
 R ())<|
 new [zi,zu,zi,zu,a_ false] λt=>
 lG a 18 b<|
 bC (W5 b c d) λ(u:k_×Bool)=>
 st ⟨t,0⟩ (Ks.mk bc u.1)<|
 ar u.2 (
 bQ<|
 az m λv=>
 dN ⟨t,0⟩ λw=>
 fZ v 19 λx=>
 bo (SG x w 1) λy=>
 ld bc ⟨t,0⟩ λz=>
 new [aJ z.1,aC z.2.1,aJ z.2.2.1,aC z.2.2.2.1,a_ z.2.2.2.2] λA=>
 az o λB=>
 st B [aX ⟨some ⟨A,0⟩,1,1⟩]<|
 R ())<|
 az m λC=>
 fZ C 18 λD=>
 bC (W6 D) λ(E:Int×Bool)=>
 ar E.2 (
 az o λF=>
 so F 3 [aC (if 1>E.1 then 1 else E.1)]<|
 R ())<|
 R ())<|
 new [zi,zu,zi,zu,a_ false] λG=>
 lG a 18 b<|
 bC (XQ m) λ(H:Sl)=>
 lG a 18 b<|
 bC (W5 b c H) λ(I:k_×Bool)=>
 st ⟨G,0⟩ (Ks.mk bc I.1)<|
 ar I.2 (
 bQ<|
 az m λJ=>
 dN ⟨G,0⟩ λK=>
 fZ J 19 λL=>
 bo (SG L K 1) λM=>
 ld bc ⟨G,0⟩ λN=>
 new [aJ N.1,aC N.2.1,aJ N.2.2.1,aC N.2.2.2.1,a_ N.2.2.2.2] λO=>
 az o λQ=>
 st Q [aX ⟨some ⟨O,0⟩,1,1⟩]<|
 R ())<|
 az m λS=>
 fZ S 18 λT=>
 bC (W6 T) λ(U:Int×Bool)=>
 ar U.2 (
 az o λV=>
 so V 3 [aC (if 1>U.1 then 1 else U.1)]<|
 R ())<|
 R ())<|
 new [zi,zu,zi,zu,a_ false] λX=>
 lG a 18 b<|
 aT (VB m) λY=>
 lG a 18 b<|
 bC (XQ m) λ(Z:Sl)=>
 lG a 18 b<|
 bC (W5 b Y Z) λ(a0:k_×Bool)=>
 st ⟨X,0⟩ (Ks.mk bc a0.1)<|
 ar a0.2 (
 bQ<|
 az m λa1=>
 dN ⟨X,0⟩ λa2=>
 fZ a1 19 λa3=>
 bo (SG a3 a2 1) λa4=>
 ld bc ⟨X,0⟩ λa5=>
 new [aJ a5.1,aC a5.2.1,aJ a5.2.2.1,aC a5.2.2.2.1,a_ a5.2.2.2.2] λa6=>
 az o λa7=>
 st a7 [aX ⟨some ⟨a6,0⟩,1,1⟩]<|
 R ())<|
 az m λa8=>
 fZ a8 18 λa9=>
 bC (W6 a9) λ(b0:Int×Bool)=>
 ar b0.2 (
 az o λb1=>
 so b1 3 [aC (if 1>b0.1 then 1 else b0.1)]<|
 R ())<|
 R ():=bI Tryz.func43 (uz 0xb007816506a830850441250009540c104004181b3a668436a20b9482a525838c22e3c798d16632281b3a668436a20b9482a525838c22e3c798c8a06ce99a10da882e520a94960e308b8c8a06ce99a10da8c8882e520a94960e308bcf1e73459c30810069401250009480c1)
instance aeL(m i o):bG (Z1 m i o) λR=>
 az m λa=>
 dM (0≤i∧i<8)<|
 s_ ⟨a.b,a.o+10+i.toNat*1⟩ λc=>
 loop [] () λd (e:Unit)=>
 aT (VB m) λf=>
 bC (TS c f) λ(g:k_×Int)=>
 new [zi,zu,zi,zu,a_ false] λh=>
 st ⟨h,0⟩ (Ks.mk bc g.1)<|
 ar (g.2 !=0) (
 R ())<|
 az m λj=>
 fZ j 19 λk=>
 bo (SG k i 0) λl=>
 bQ<|
 ld bc ⟨h,0⟩ λn=>
 az m λp=>
 fZ p 18 λq=>
 aT (VB m) λr=>
 lG p 18 q<|
 cw ⟨h,0⟩ (Ks.mk bc n)<|
 bC (TT q n r) λ(s:Int×Int)=>
 ar (s.1==0) (
 d ())<|
 ld bc ⟨h,0⟩ λt=>
 cg (PV m o t s.1) λu=>
 dN ⟨h,2⟩ λv=>
 bo (PW c v) λw=>
 R ():=bI Tryz.func70 (uz 0xba068c9992e640a9502652175541ee5869830810059471250009600c1001201001080182001001)
instance aeD(m):bG (XQ m) λR=>
 az m λa=>
 lo Xn a 10 λ(b:Zw)=>
 loop [.sl,.int .i64] (⟨none,0,0⟩,0) λc (d:Sl×Int)=>
 ar (decide (d.2<8)) (
 Ya [.ptr] (Ks.mk Xn b) d.2 8 1 λ(e:bO)=>
 join cu (λf=>
 ar (!e.isNone) (
 bC (c99 e) λ(g:gd)=>
 f g.2.2.1)<|
 f 18446744073709551615) λ(h:Int)=>
 new [aC h] λi=>
 mi 1 d.1 ⟨some ⟨i,0⟩,1,1⟩ λj=>
 c (j,(i64.wrap (d.2+1))))<|
 R d.1:=bI Tryz.func62 (uz 0x1c00080060440010010811c100104b103086080041001001)
instance aes(m c):bG (ZP m c) λR=>
 new (Ks.mk bk c) λa=>
 bQ<|
 ld bk ⟨a,0⟩ λb=>
 az m λd=>
 fZ d 18 λe=>
 bo (ZW e b) λf=>
 ar (f==0) (
 ld bk ⟨a,0⟩ λg=>
 az m λh=>
 st h (Ks.mk bk g)<|
 R f)<|
 R f:=bI Tryz.func44 (uz 0x1280b1a628916a0c20431250009450c1001)
instance aeJ(m i o):bG (ZZ m i o) λR=>
 az m λa=>
 dM (0≤i∧i<8)<|
 st ⟨a.b,a.o+10+i.toNat*1⟩ [.ptr none]<|
 az m λc=>
 fZ c 18 λd=>
 bC (TO d i) λ(e:Sl)=>
 loop ci 0 λf (g:Int)=>
 ar (decide (g<((e.len:Nat):Int))) (
 idx e g 5 λh=>
 ld bc h λj=>
 new [zi,zu,zi,zu,a_ false] λk=>
 st ⟨k,0⟩ (Ks.mk bc j)<|
 ld bc ⟨k,0⟩ λl=>
 cg (PV m o l 5) λn=>
 f (i64.wrap (g+1)))<|
 R ():=bI Tryz.func68 (uz 0x1c2047040041501182001001)
instance aed(c):bG (ZF c) λR=>
 new (Ks.mk bk c) λa=>
 ld bk ⟨a,0⟩ λb=>
 bC (ZK b) λ(d:bO×Int)=>
 ar (d.2 !=0) (
 R (none,d.2))<|
 bQ<|
 ld bk ⟨a,0⟩ λe=>
 lU (ZL 0) λf=>
 cw ⟨a,0⟩ (Ks.mk bk e)<|
 lU ZM λg=>
 cw ⟨a,0⟩ (Ks.mk bk e)<|
 new [aJ e.1,aJ e.2.1,aJ e.2.2.1,aJ e.2.2.2.1,aC e.2.2.2.2.1,aC e.2.2.2.2.2.1,a_ e.2.2.2.2.2.2.1,aJ e.2.2.2.2.2.2.2.1,aJ e.2.2.2.2.2.2.2.2,.ptr f,.ptr none,.ptr none,.ptr none,.ptr none,.ptr none,.ptr none,.ptr none,.ptr none,.ptr d.1,.ptr g] λh=>
 R ((some ⟨h,0⟩),0):=bI Tryz.func22 (uz 0x8078a21a68459a07cf384c438818840a50010c1241001001)
instance aeH(i):bG (ZX i) λR=>
 R ((decide (i≥0))&&(decide (i<8))):=bI Tryz.func66 (uz 8)
instance aeK(s d af):bG (Z0 s d af) λR=>
 new (Ks.mk bE d) λa=>
 dN ⟨a,0⟩ λb=>
 ar (b==2) (
 dN ⟨a,2⟩ λc=>
 bo (TP s c) λe=>
 R e)<|
 ar (b==3) (
 bJ ⟨a,3⟩ λf=>
 fb ⟨a,5⟩ λg=>
 bo (TQ s af f g) λh=>
 R h)<|
 ar (b==4) (
 bo (TR s af) λi=>
 R i)<|
 dN ⟨a,2⟩ λj=>
 bo (PW s j) λk=>
 R k:=bI Tryz.func69 (uz 0x1d5080041001)
instance aex(c):bG (Y2 c) λR=>
 new (Ks.mk bk c) λa=>
 dN ⟨a,0⟩ λb=>
 cM (Mk b 100 65536) λd=>
 ar d (
 dN ⟨a,1⟩ λe=>
 cM (Mk e 100 65536) λf=>
 ar f (
 dN ⟨a,2⟩ λg=>
 cM (Mk g 1 512) λh=>
 ar h (
 dN ⟨a,3⟩ λi=>
 cM (Mk i 1 512) λj=>
 ar j (
 bJ ⟨a,4⟩ λk=>
 ar (decide (k≤4611686018427387904)) (
 dN ⟨a,7⟩ λl=>
 cM (Mk l 1 1073741824) λm=>
 ar m (
 dN ⟨a,8⟩ λn=>
 cM (Mk n 100 9000) λo=>
 R o)<|
 R false)<|
 R false)<|
 R false)<|
 R false)<|
 R false)<|
 R false:=bI Tryz.func56 (uz 8)
instance aen(c):bG (ZK c) λR=>
 new (Ks.mk bk c) λa=>
 ld bk ⟨a,0⟩ λb=>
 cM (Y2 b) λd=>
 ar (!d) (
 R (none,13))<|
 bQ<|
 ld bk ⟨a,0⟩ λe=>
 lU ZT λf=>
 cw ⟨a,0⟩ (Ks.mk bk e)<|
 lU (ZU 8) λg=>
 cw ⟨a,0⟩ (Ks.mk bk e)<|
 new [aJ e.1,aJ e.2.1,aJ e.2.2.1,aJ e.2.2.2.1,aC e.2.2.2.2.1,aC e.2.2.2.2.2.1,a_ e.2.2.2.2.2.2.1,aJ e.2.2.2.2.2.2.2.1,aJ e.2.2.2.2.2.2.2.2,.ptr none,.ptr none,.ptr none,.ptr none,.ptr none,.ptr none,.ptr none,.ptr none,.ptr f,.ptr g,zi] λh=>
 R ((some ⟨h,0⟩),0):=bI Tryz.func39 (uz 0x80688b1662849892070ed0a20620010c1241001)
instance aaD(q sock):bG (TO q sock) λR=>
 cM (Ub q sock) λa=>
 ar (!a) (
 R ⟨none,0,0⟩)<|
 az q λc=>
 dM (0≤sock∧sock<8)<|
 s_ ⟨c.b,c.o+9+sock.toNat*1⟩ λd=>
 join [] (λe=>
 bo (JH q sock) λf=>
 ar (f==3) (
 bQ<|
 az q λg=>
 fZ g 18 λh=>
 bC (Y9 d sock) λ(i:(Int×Int))=>
 lG g 18 h<|
 bo (P1 h i) λj=>
 e ())<|
 e ()) λ(k:Unit)=>
 az q λl=>
 fZ l 17 λm=>
 cM (LX m sock) λn=>
 az q λp=>
 dM (0≤sock∧sock<8)<|
 st ⟨p.b,p.o+9+sock.toNat*1⟩ [.ptr none]<|
 bQ<|
 az q λr=>
 az d λs=>
 gV r 19 λt=>
 jn s 3 λu=>
 az q λv=>
 so v 19 [aJ (i64.wrap (t-((u.len:Nat):Int)))]<|
 az d λw=>
 jn w 3 λx=>
 bC (Uc x) λ(y:Sl)=>
 R y:=bI Tryz.func106 (uz 0x781c68ca8b44a959509a481c3182141144940025983040040040817507a96546a830810459451250009530c1001004001241001)
instance aeB(d o a):bG (W5 d o a) λR=>
 new [zi,zu,zi,zu,a_ false] λc=>
 ar d.isNone (
 st ⟨c,0⟩ [zi,zu,zi,zu,a_ false]<|
 ld bc ⟨c,0⟩ λe=>
 R (e,false))<|
 cg (Z8 d o) λf=>
 loop [] () λg (h:Unit)=>
 az d λi=>
 fZ i 17 λj=>
 bC (XR j) λ(k:Int×Bool×Bool)=>
 ar (!k.2.2) (
 st ⟨c,0⟩ [zi,zu,zi,zu,a_ false]<|
 ld bc ⟨c,0⟩ λl=>
 R (l,false))<|
 az d λm=>
 dM (0≤k.1∧k.1<8)<|
 s_ ⟨m.b,m.o+9+k.1.toNat*1⟩ λn=>
 az n λp=>
 dN p λq=>
 ar (decide (q≤0)) (
 bQ<|
 az n λr=>
 az d λs=>
 dN r λt=>
 dN s λu=>
 az n λv=>
 st v [aJ (i64.wrap (t+u))]<|
 az d λw=>
 fZ w 17 λx=>
 cM (Y6 x) λy=>
 g ())<|
 join cb (λz=>
 az n λA=>
 jn A 3 λB=>
 ar ((((B.len:Nat):Int)==0)&&k.2.1) (
 cM (Z9 d) λC=>
 z C)<|
 z false) λ(D:Bool)=>
 ar D (
 az d λE=>
 fZ E 17 λF=>
 cM (Y6 F) λG=>
 g ())<|
 az n λH=>
 jn H 3 λI=>
 ar (((I.len:Nat):Int)==0) (
 az d λJ=>
 fZ J 17 λK=>
 cM (Y7 K) λL=>
 az n λM=>
 so M 2 [aC o]<|
 g ())<|
 aT (Y8 n) λN=>
 ar (decide (N>o)) (
 az d λO=>
 fZ O 17 λQ=>
 cM (Y7 Q) λS=>
 bQ<|
 az d λT=>
 fZ T 18 λU=>
 bC (Y9 n k.1) λ(V:(Int×Int))=>
 lG T 18 U<|
 bo (Z_ U V) λX=>
 g ())<|
 join cu (λY=>
 ar (decide (k.1<((a.len:Nat):Int))) (
 idx a k.1 1 λZ=>
 bJ Z λa0=>
 Y a0)<|
 Y 18446744073709551615) λ(a1:Int)=>
 bC (c97 d n o a1) λ(a2:k_)=>
 st ⟨c,0⟩ (Ks.mk bc a2)<|
 ld bc ⟨c,0⟩ λa3=>
 R (a3,true):=bI Tryz.func60 (uz 0x71c800c044001817507a96546a8308120594b125000975fc3001040047040040040089fc110081c68ca8b44a959509a481c318214100494b025d83041001080048040042006081001001241001)
instance aaK(q s af):bG (TT q s af) λR=>
 new (Ks.mk bc s) λa=>
 ar q.isNone (
 R (0,2))<|
 dN ⟨a,0⟩ λc=>
 cM (Mk c 0 7) λd=>
 ar (!d) (
 R (0,8))<|
 dN ⟨a,2⟩ λe=>
 cM (Mk e 1 65536) λf=>
 ar (!f) (
 R (0,1))<|
 cg (Ui q af) λg=>
 bo (Uj q (some ⟨a,0⟩) af) λh=>
 ar (h==0) (
 dN ⟨a,0⟩ λi=>
 cg (Uk q i af) λj=>
 bQ<|
 dN ⟨a,0⟩ λk=>
 az q λl=>
 dM (0≤k∧k<8)<|
 s_ ⟨l.b,l.o+9+k.toNat*1⟩ λm=>
 bQ<|
 ld bc ⟨a,0⟩ λn=>
 az m λp=>
 jn p 3 λr=>
 new [aJ n.1,aC n.2.1,aJ n.2.2.1,aC n.2.2.2.1,a_ n.2.2.2.2] λt=>
 sc p 3 r<|
 mi 5 r ⟨some ⟨t,0⟩,1,1⟩ λu=>
 az m λv=>
 so v 3 [aX u]<|
 az q λw=>
 gV w 19 λx=>
 az q λy=>
 so y 19 [aJ (i64.wrap (x+1))]<|
 R (h,0))<|
 R (h,0):=bI Tryz.func113 (uz 0x1c00206982aa2512255d51ea5869840c210594906524096a0c18171e61954c5a444439421019400258c3040041001040040055081001)
instance aeG(q c):bG (ZW q c) λR=>
 new (Ks.mk bk c) λa=>
 ar q.isNone (
 R 2)<|
 ld bk ⟨a,0⟩ λb=>
 cM (Y2 b) λd=>
 ar (!d) (
 R 13)<|
 ld bk ⟨a,0⟩ λe=>
 az q λf=>
 st f (Ks.mk bk e)<|
 R 0:=bI Tryz.func65 (uz 0x20d081001)
instance aeF(q):bG (W6 q) λR=>
 ar q.isNone (
 R (0,false))<|
 az q λa=>
 fZ a 18 λb=>
 bC (TK b) λ(c:(Int×Int)×Bool)=>
 new [zu,zu] λd=>
 st ⟨d,0⟩ (Ks.mk cr c.1)<|
 bJ ⟨d,0⟩ λe=>
 R (e,c.2):=bI Tryz.func64 (uz 0x16)
instance abG(q af):bG (Ui q af) λR=>
 loop ci 0 λa (c:Int)=>
 ar (decide (c<8)) (
 cM (Qh q c 3000000000 af) λd=>
 ar d (
 az q λe=>
 dM (0≤c∧c<8)<|
 st ⟨e.b,e.o+9+c.toNat*1⟩ [.ptr none]<|
 a (i64.wrap (c+1)))<|
 a (i64.wrap (c+1)))<|
 R ():=bI Tryz.func176 (uz 0x2c2047040041141182001)
instance aeY(q af):PA (Z8 q af) λn0 R=>
 new [aC af] λa=>
 new [aX ⟨none,0,0⟩] λb=>
 join [] (λc=>
 az q λd=>
 fZ d 18 λe=>
 bC (P0 e) λ(f:Fv)=>
 qP Tryz.prog f [.agg [.int .u64,.int .u64]] (λ(g:(Int×Int)) h i j=>
 new [zu,zu] λk=>
 st ⟨k,0⟩ (Ks.mk cr g)<|
 h<|
 bJ ⟨k,0⟩ λl=>
 bJ ⟨a,0⟩ λm=>
 ar (decide (l>m)) (
 j 2)<|
 fb ⟨b,0⟩ λn=>
 ld cr ⟨k,0⟩ λ(o:Int×Int)=>
 new [aC o.1,aC o.2] λp=>
 mi 2 n ⟨some ⟨p,0⟩,1,1⟩ λr=>
 st ⟨b,0⟩ [aX r]<|
 i) λs=>pB 0 s (c ())<|
 pB 2 s (c ())<|
 gX) λ(t:Unit)=>
 fb ⟨b,0⟩ λu=>
 loop ci 0 λv (w:Int)=>
 ar (decide (w<((u.len:Nat):Int))) (
 idx u w 2 λx=>
 ld cr x λ(y:Int×Int)=>
 new [zu,zu] λz=>
 st ⟨z,0⟩ (Ks.mk cr y)<|
 bQ<|
 ld cr ⟨z,0⟩ λ(A:Int×Int)=>
 az q λB=>
 fZ B 18 λC=>
 bo (P1 C A) λD=>
 bQ<|
 az q λE=>
 bJ ⟨z,1⟩ λF=>
 fZ E 17 λG=>
 bo (LU G (i64.wrap F) false) λH=>
 v (i64.wrap (w+1)))<|
 lV n0<|R ():=VH Tryz.func89 (.s .o (.s .o (.j [] (.s .o (.b (.r [.agg [.int .u64,.int .u64]] .o (.b (.s (.s .o (.s .o .o)) .o))))) (.s .o (.b (.l [(24,qi)] (.s .o (.s (.s .o .o) (.s (.b (.s .o (.s (.d (.f 0 [0] (.f 4 [7] (.f 1 [28] (.f 2 [29] (.f 3 [30] (.w 5 [31,32] .aK))))))) (.d (.f 0 [0] (.f 4 [7] (.f 1 [34] (.f 5 [38] (.f 2 [35] (.f 6 [39] (.f 3 [36] (.w 7 [37,40] .aK)))))))))))) .o)))))))))
instance abH(d o a):bG (Uj d o a) λR=>
 bQ<|
 az o λc=>
 az d λe=>
 dN c λf=>
 dM (0≤f∧f<8)<|
 s_ ⟨e.b,e.o+9+f.toNat*1⟩ λg=>
 az d λh=>
 dx h 4 λi=>
 aT (oL a i) λj=>
 join [] (λk=>
 bQ<|
 az d λl=>
 az d λm=>
 gV l 19 λn=>
 gV m 2 λp=>
 ar (decide (n≥p)) (
 R 2)<|
 join cb (λq=>
 bQ<|
 ar (!g.isNone) (
 az g λr=>
 az d λs=>
 jn r 3 λt=>
 gV s 3 λu=>
 q (decide (((t.len:Nat):Int)≥u)))<|
 q false) λ(v:Bool)=>
 ar v (
 R 3)<|
 az o λw=>
 dx w 3 λx=>
 ar (decide (x>j)) (
 az d λy=>
 oM y 6 λz=>
 ar z (
 R 4)<|
 k ())<|
 k ()) λ(A:Unit)=>
 az o λB=>
 dx B 3 λC=>
 az o λD=>
 so D 3 [aC (if j<C then j else C)]<|
 R 0:=bI Tryz.func177 (uz 0x21381f3e67933a97584cdb5c4cca574c7a5b4cba564c6a5a4caa554c5a594c9a544c4a53008a531c3a420470259030a40441c181a2a66542692070c60850401250009590c10801000606499883cd1e91060c91650810650009480c1001)
instance abp(q sock):bG (Ub q sock) λR=>
 ar (!q.isNone) (
 cM (Mk sock 0 7) λa=>
 ar a (
 az q λc=>
 dM (0≤sock∧sock<8)<|
 s_ ⟨c.b,c.o+9+sock.toNat*1⟩ λd=>
 R (!d.isNone))<|
 R false)<|
 R false:=bI Tryz.func160 (uz 8)
instance acO(q sock rq af):bG (Qh q sock rq af) λR=>
 az q λa=>
 dM (0≤sock∧sock<8)<|
 s_ ⟨a.b,a.o+9+sock.toNat*1⟩ λc=>
 ar (!c.isNone) (
 bo (JH q sock) λd=>
 ar (d==0) (
 az c λe=>
 dx e 2 λf=>
 aT (oL f rq) λg=>
 R (decide (g≤af)))<|
 R false)<|
 R false:=bI Tryz.func246 (uz 0xb)
instance ae1(q):PA (Z9 q) λn0 R=>
 new [a_ false] λa=>
 az q λb=>
 fZ b 17 λc=>
 bC (LW c) λ(d:Fv)=>
 qP Tryz.prog d [qi,qb] (λ(e:Int×Bool) f g h=>
 f<|
 ar (!e.2) (
 st ⟨a,0⟩ [a_ true]<|
 h 1)<|
 g) λi=>pB 0 i (st ⟨a,0⟩ [a_ false]<|
 rE ⟨a,0⟩ λj=>
 lV n0<|R j)<|
 pB 1 i (rE ⟨a,0⟩ λk=>
 lV n0<|R k)<|
 gX:=VH Tryz.func92 (.s .o (.s (.s .o (.b (.r [qi,qb] .o (.b (.s .o (.s (.s .o .o) .o)))))) (.s .o .o)))
instance abq(q sock):bG (JH q sock) λR=>
 az q λa=>
 fZ a 17 λc=>
 bo (L2 c sock) λd=>
 ar (d !=0) (
 R d)<|
 az q λe=>
 dM (0≤sock∧sock<8)<|
 s_ ⟨e.b,e.o+9+sock.toNat*1⟩ λf=>
 ar (!f.isNone) (
 az f λg=>
 jn g 3 λh=>
 ar (decide (((h.len:Nat):Int)>0)) (
 R 3)<|
 R 0)<|
 R 0:=bI Tryz.func161 (uz 0x2f)
instance ae6(q f af aY):bG (c97 q f af aY) λR=>
 new [zi,zu,zi,zu,a_ false] λa=>
 az f λb=>
 jn b 3 λc=>
 idx c 0 5 λd=>
 ld bc d λe=>
 new [zi,zu,zi,zu,a_ false] λg=>
 st ⟨g,0⟩ (Ks.mk bc e)<|
 az f λh=>
 jn h 3 λi=>
 D9 i (some 1) none none 5 λj=>
 az f λk=>
 so k 3 [aX j]<|
 az q λl=>
 gV l 19 λm=>
 az q λn=>
 so n 19 [aJ (i64.wrap (m-1))]<|
 bQ<|
 az f λo=>
 dN ⟨g,2⟩ λp=>
 dN o λr=>
 az f λs=>
 st s [aJ (i64.wrap (r-p))]<|
 bQ<|
 dN ⟨g,2⟩ λt=>
 az q λu=>
 dx u 5 λv=>
 aT (T5 aY v) λw=>
 cw ⟨g,2⟩ (Ks.mk ci t)<|
 aT (Be t w) λx=>
 aT (oL af x) λy=>
 az f λz=>
 so z 1 [aC y]<|
 ld bc ⟨g,0⟩ λA=>
 st ⟨a,0⟩ (Ks.mk bc A)<|
 ld bc ⟨a,0⟩ λB=>
 R B:=bI Tryz.func97 (uz 0x781f74fa8e44d95c48ca9b50ba9a54aa892071830059431252429420650409670c18195c9a88447956506a4308504912504095e0c1001001001001)
instance abI(d o a):bG (Uk d o a) λR=>
 az d λc=>
 dM (0≤o∧o<8)<|
 s_ ⟨c.b,c.o+9+o.toNat*1⟩ λe=>
 join [] (λf=>
 ar e.isNone (
 bQ<|
 az d λg=>
 az d λh=>
 gV g 1 λi=>
 new [aJ i,zu,zu,aX ⟨none,0,0⟩] λj=>
 dM (0≤o∧o<8)<|
 st ⟨h.b,h.o+9+o.toNat*1⟩ [.ptr (some ⟨j,0⟩)]<|
 f ())<|
 bo (JH d o) λk=>
 ar (k !=0) (
 R ())<|
 cM (Qh d o 40000000 a) λl=>
 ar l (
 bQ<|
 az e λm=>
 az d λn=>
 dN m λp=>
 dN n λq=>
 az e λr=>
 st r [aJ (if q>p then q else p)]<|
 f ())<|
 f ()) λ(s:Unit)=>
 az d λt=>
 dM (0≤o∧o<8)<|
 s_ ⟨t.b,t.o+9+o.toNat*1⟩ λu=>
 az u λv=>
 so v 2 [zu]<|
 az d λw=>
 fZ w 17 λx=>
 bo (LU x o true) λy=>
 R ():=bI Tryz.func178 (uz 0x1c081d6cda8c44b95a54aa492041c31820059460651809650c100100100181c64ca9b48ba582261c614a1112650c00a50419400253c3040042004001)
instance ae3(f):bG (Y8 f) λR=>
 bQ<|
 az f λa=>
 az f λb=>
 dx a 1 λc=>
 jn b 3 λd=>
 idx d 0 5 λe=>
 dx e 3 λg=>
 R (if g>c then g else c):=bI Tryz.func94 (uz 0x80e3263462e92892070c60850401250009420c1001)
instance ae5(f sock):bG (Y9 f sock) λR=>
 new [zu,zu] λa=>
 aT (Y8 f) λb=>
 st ⟨a,0⟩ [aC b,aC (u64.wrap sock)]<|
 ld cr ⟨a,0⟩ λ(c:Int×Int)=>
 R c:=bI Tryz.func96 (uz 8)
instance aeW(v lo hi):bG (Mk v lo hi) λR=>
 R ((decide (v≥lo))&&(decide (v≤hi))):=bI Tryz.func87 (uz 8)
instance aeE(l sock fate):bG (SG l sock fate) λR=>
 bo (TJ l sock) λa=>
 ar (a !=0) (
 R a)<|
 az l λc=>
 dM (0≤sock∧sock<8)<|
 join [] (λd=>
 ar ((decide (fate<0))||(decide (fate≥6))) (
 R 1)<|
 ar (fate==0) (
 az (some ⟨c.b,c.o+sock.toNat*8⟩) λe=>
 gV e 7 λf=>
 az (some ⟨c.b,c.o+sock.toNat*8⟩) λg=>
 so g 7 [aJ (i64.wrap (f+1))]<|
 d ())<|
 az (some ⟨c.b,c.o+sock.toNat*8⟩) λh=>
 gV h 7 λi=>
 ar (i==0) (
 R 7)<|
 az (some ⟨c.b,c.o+sock.toNat*8⟩) λj=>
 gV j 7 λk=>
 az (some ⟨c.b,c.o+sock.toNat*8⟩) λm=>
 so m 7 [aJ (i64.wrap (k-1))]<|
 d ()) λ(n:Unit)=>
 bQ<|
 az (some ⟨c.b,c.o+sock.toNat*8⟩) λp=>
 az (some ⟨c.b,c.o+sock.toNat*8⟩) λq=>
 dM (0≤fate∧fate<6)<|
 dN ⟨p.b,p.o+1+fate.toNat*1⟩ λr=>
 dM (0≤fate∧fate<6)<|
 st ⟨q.b,q.o+1+fate.toNat*1⟩ [aJ (i64.wrap (r+1))]<|
 R 0:=bI Tryz.func63 (uz 0x781a5caa99489a46154484a480d11e54429420652009710c1c020040013c1001)
instance aax(l sock):bG (TJ l sock) λR=>
 ar l.isNone (
 R 2)<|
 ar ((decide (sock<0))||(decide (sock≥8))) (
 R 8)<|
 R 0:=bI Tryz.func100 (uz 0x1cd081001)
instance aep:bG ZM λR=>
 new [zi,zi,zi,zi,zi,zi,zi,zi,zi,zi,zi,zi,zi,zi,zi,zi,zi,zi,zi,zi,zi,zi,zi,zi,zi,zi,zi,zi,zi,zi,zi,zi,zi,zi,zi,zi,zi,zi,zi,zi,zi,zi,zi,zi,zi,zi,zi,zi,zi,zi,zi,zi,zi,zi,zi,zi,zi,zi,zi,zi,zi,zi,zi,zi] λa=>
 R (some ⟨a,0⟩):=bI Tryz.func41 (uz 8)
instance aa8(l):bG (LW l) λR=>
 new [.ptr l] λa=>
 R (.mk (.func jQ) [] [V1.enc (.lf (.ptr (some ⟨a,0⟩)))]):=bI Tryz.func143 (uz 8)
instance acf(yield c0):bG (XL yield c0) λR=>
 s_ c0 λa=>
 ar a.isNone (
 R ())<|
 s_ c0 λb=>
 az b λc=>
 fb c λd=>
 bQ<|
 s_ c0 λe=>
 s_ c0 λf=>
 az e λg=>
 az f λh=>
 fb g λi=>
 jn h 1 λj=>
 new [aX i,aX j] λk=>
 bC (UH ⟨some ⟨k,0⟩,2,2⟩) λ(l:Sl)=>
 loop ci 0 λm (n:Int)=>
 ar (decide (n<((l.len:Nat):Int))) (
 idx l n 1 λo=>
 dN o λp=>
 xT Tryz.prog yield [vi p,.lf (.bool (decide (n<((d.len:Nat):Int))))] [qb] λ(q:Bool)=>
 ar (!q) (
 R ())<|
 m (i64.wrap (n+1)))<|
 R ():=bI Tryz.func213 (uz 0x2c204704004160118280a649998508a870c608504b84112504094c0c1001201)
instance ae0(l):bG (Y6 l) λR=>
 bC (XR l) λ(a:Int×Bool×Bool)=>
 ar a.2.2 (
 cM (LX l a.1) λb=>
 ar b (
 bo (LU l a.1 false) λc=>
 R (c==0))<|
 R false)<|
 R false:=bI Tryz.func91 (uz 0xb)
instance ae2(l):bG (Y7 l) λR=>
 bC (XR l) λ(a:Int×Bool×Bool)=>
 ar a.2.2 (
 cM (LX l a.1) λb=>
 R b)<|
 R false:=bI Tryz.func93 (uz 0xb)
instance aeZ(l):PA (XR l) λn0 R=>
 new [zi] λa=>
 new [a_ false] λb=>
 new [a_ false] λc=>
 join [] (λd=>
 bC (LW l) λ(e:Fv)=>
 qP Tryz.prog e [qi,qb] (λ(f:Int×Bool) g h i=>
 g<|
 st ⟨a,0⟩ [aJ f.1]<|
 st ⟨b,0⟩ [a_ f.2]<|
 st ⟨c,0⟩ [a_ true]<|
 i 1) λj=>pB 0 j (d ())<|
 pB 1 j (dN ⟨a,0⟩ λk=>
 rE ⟨b,0⟩ λm=>
 rE ⟨c,0⟩ λn=>
 lV n0<|R (k,m,n))<|
 gX) λ(o:Unit)=>
 st ⟨a,0⟩ [zi]<|
 st ⟨b,0⟩ [a_ false]<|
 st ⟨c,0⟩ [a_ false]<|
 dN ⟨a,0⟩ λp=>
 rE ⟨b,0⟩ λq=>
 rE ⟨c,0⟩ λr=>
 lV n0<|R (p,q,r):=VH Tryz.func90 (.s .o (.j [] (.s .o (.b (.r [qi,qb] (.s .o .o) (.b (.s .o .o))))) (.s .o .o)))
instance ace(l sock):PA (L2 l sock) λn0 R=>
 new [aJ sock] λa=>
 new [zi] λb=>
 bC (LW l) λ(c:Fv)=>
 qP Tryz.prog c [qi,qb] (λ(d:Int×Bool) e f g=>
 e<|
 dN ⟨a,0⟩ λh=>
 ar (d.1 !=h) (
 f)<|
 ar d.2 (
 st ⟨b,0⟩ [aJ 1]<|
 g 1)<|
 st ⟨b,0⟩ [aJ 2]<|
 g 1) λi=>pB 0 i (st ⟨b,0⟩ [zi]<|
 dN ⟨b,0⟩ λj=>
 lV n0<|R j)<|
 pB 1 i (dN ⟨b,0⟩ λk=>
 lV n0<|R k)<|
 gX:=VH Tryz.func212 (.s .o (.s (.s .o (.b (.r [qi,qb] (.s .o .o) (.b (.s (.s .o (.s .o .o)) (.s (.s .o (.s (.s .o .o) .o)) (.s .o .o))))))) (.s .o .o)))
instance aa7(l sock fresh):bG (LU l sock fresh) λR=>
 ar l.isNone (
 R 2)<|
 ar ((decide (sock<0))||(decide (sock≥8))) (
 R 8)<|
 bo (L2 l sock) λa=>
 ar (a !=0) (
 R 6)<|
 ar fresh (
 az l λb=>
 fb b λc=>
 new [aJ sock] λd=>
 mi 1 c ⟨some ⟨d,0⟩,1,1⟩ λe=>
 az l λf=>
 st f [aX e]<|
 R 0)<|
 az l λg=>
 jn g 1 λh=>
 new [aJ sock] λi=>
 mi 1 h ⟨some ⟨i,0⟩,1,1⟩ λj=>
 az l λk=>
 so k 1 [aX j]<|
 R 0:=bI Tryz.func142 (uz 0x1f2081001)
instance aa9(l sock):bG (LX l sock) λR=>
 new [aJ sock] λa=>
 dN ⟨a,0⟩ λb=>
 bo (L2 l b) λc=>
 ar (c==0) (
 R false)<|
 bQ<|
 az l λd=>
 az l λe=>
 fb d λf=>
 jn e 1 λg=>
 bC (P_ f (.mk (.func fR) [] [V1.enc (.lf (.ptr (some ⟨a,0⟩)))])) λ(h:Sl)=>
 sc e 1 g<|
 bC (P_ g (.mk (.func fR) [] [V1.enc (.lf (.ptr (some ⟨a,0⟩)))])) λ(i:Sl)=>
 az l λj=>
 st j [aX h]<|
 az l λk=>
 so k 1 [aX i]<|
 R true:=bI Tryz.func144 (uz 0x7822793aa14a5311960610a8f2ce95d70da97587a8b14a1090c53250089451a500294006500094a0c1001241001)
instance ach(s c0):bG (XM s c0) λR=>
 dN c0 λa=>
 R (s==a):=bI Tryz.func215 (uz 8)
instance aey:bG ZT λR=>
 new [aX ⟨none,0,0⟩,aX ⟨none,0,0⟩] λa=>
 R (some ⟨a,0⟩):=bI Tryz.func57 (uz 8)
instance adI(x y):bG (Qu x y) λR=>
 dM (0≤(32:Int))<|
 dM (0≤(32:Int))<|
 dM (0≤(32:Int))<|
 dM (0≤(32:Int))<|
 dM (0≤(32:Int))<|
 R ((u64.wrap ((u64.wrap ((u64.wrap ((x.fdiv (2^min (32:Int).toNat u64.bits))*(y.fdiv (2^min (32:Int).toNat u64.bits))))+((u64.wrap ((u64.wrap ((x.fdiv (2^min (32:Int).toNat u64.bits))*(u64.wrap (BitVec.ofInt u64.bits y&&&BitVec.ofInt u64.bits 4294967295).toNat)))+((u64.wrap ((u64.wrap (BitVec.ofInt u64.bits x&&&BitVec.ofInt u64.bits 4294967295).toNat)*(u64.wrap (BitVec.ofInt u64.bits y&&&BitVec.ofInt u64.bits 4294967295).toNat))).fdiv (2^min (32:Int).toNat u64.bits)))).fdiv (2^min (32:Int).toNat u64.bits))))+((u64.wrap ((u64.wrap (BitVec.ofInt u64.bits (u64.wrap ((u64.wrap ((x.fdiv (2^min (32:Int).toNat u64.bits))*(u64.wrap (BitVec.ofInt u64.bits y&&&BitVec.ofInt u64.bits 4294967295).toNat)))+((u64.wrap ((u64.wrap (BitVec.ofInt u64.bits x&&&BitVec.ofInt u64.bits 4294967295).toNat)*(u64.wrap (BitVec.ofInt u64.bits y&&&BitVec.ofInt u64.bits 4294967295).toNat))).fdiv (2^min (32:Int).toNat u64.bits))))&&&BitVec.ofInt u64.bits 4294967295).toNat)+(u64.wrap ((u64.wrap (BitVec.ofInt u64.bits x&&&BitVec.ofInt u64.bits 4294967295).toNat)*(y.fdiv (2^min (32:Int).toNat u64.bits)))))).fdiv (2^min (32:Int).toNat u64.bits)))),(u64.wrap (x*y))):=bI Tryz.func301 (uz 0x33)
instance abk:bG T8 λR=>
 new [zu,zi,a_ false] λa=>
 R (some ⟨a,0⟩):=bI Tryz.func155 (uz 8)
instance acu(p):bG (Ey p) λR=>
 ar (!p.isNone) (
 az p λa=>
 oM a 2 λb=>
 R b)<|
 R false:=bI Tryz.func226 (uz 8)
instance adw(p start limited bw):bG (Vh p start limited bw) λR=>
 join [] (λa=>
 loop [] () λb (c:Unit)=>
 join [] (λd=>
 ar (!p.isNone) (
 az p λe=>
 oM e 2 λf=>
 ar (((!f)&&start)&&(!limited)) (
 d ())<|
 a ())<|
 a ()) λ(g:Unit)=>
 az p λh=>
 bJ h λi=>
 aT (Ex i 320 256) λj=>
 ar (decide (bw≥j)) (
 az p λk=>
 st k [aC bw]<|
 az p λl=>
 so l 1 [zi]<|
 a ())<|
 az p λm=>
 gV m 1 λn=>
 az p λo=>
 so o 1 [aJ (i64.wrap (n+1))]<|
 az p λq=>
 gV q 1 λr=>
 az p λs=>
 so s 2 [a_ (r==3)]<|
 a ()) λ(t:Unit)=>
 cM (Ey p) λu=>
 R u:=bI Tryz.func289 (uz 0x7682200100182004001001)
instance abn:bG Ua λR=>
 new [a_ false,a_ false,zu,zi,zu,zu,zu,zu] λa=>
 R (some ⟨a,0⟩):=bI Tryz.func158 (uz 8)
instance ads(d o a):bG (Ve d o a) λR=>
 new (Ks.mk aW a) λb=>
 loop [] () λc (e:Unit)=>
 ar (!d.isNone) (
 bQ<|
 az d λf=>
 bJ ⟨b,6⟩ λg=>
 dx f 4 λh=>
 aT (oL h g) λi=>
 az d λj=>
 so j 4 [aC i]<|
 join cb (λk=>
 az d λl=>
 rE l λm=>
 ar (!m) (
 az d λn=>
 oM n 1 λp=>
 k (!p))<|
 k false) λ(q:Bool)=>
 ar q (
 bJ ⟨b,6⟩ λr=>
 ar (decide (r>0)) (
 ld aW ⟨b,0⟩ λs=>
 cg (Qv d s) λt=>
 R ())<|
 R ())<|
 join [] (λu=>
 az d λv=>
 rE v λw=>
 ar (!w) (
 rE ⟨b,8⟩ λx=>
 ar x (
 cg (Mf d) λy=>
 R ())<|
 u ())<|
 u ()) λ(z:Unit)=>
 join [] (λA=>
 ar o (
 az d λB=>
 gV B 3 λC=>
 az d λD=>
 so D 3 [aJ (i64.wrap (C+1))]<|
 A ())<|
 A ()) λ(E:Unit)=>
 az d λF=>
 rE F λG=>
 ar G (
 join cb (λH=>
 ar o (
 az d λI=>
 gV I 3 λJ=>
 H (J==48))<|
 H false) λ(K:Bool)=>
 ar K (
 cg (Mf d) λL=>
 az d λM=>
 so M 3 [zi]<|
 R ())<|
 R ())<|
 az d λN=>
 gV N 3 λO=>
 ar (decide (O>16)) (
 cg (Mf d) λQ=>
 R ())<|
 join cb (λS=>
 az d λT=>
 gV T 3 λU=>
 ar (decide (U≥4)) (
 bJ ⟨b,6⟩ λV=>
 S (decide (V>0)))<|
 S false) λ(X:Bool)=>
 ar X (
 ld aW ⟨b,0⟩ λY=>
 cg (Vq d Y) λZ=>
 R ())<|
 R ())<|
 R ():=bI Tryz.func285 (uz 0x70024bf044001001300084fc1101001081200109004d0009d04406068f2aa24822538c1ea1031821459400650009470c1088040182001001)
instance adl(p):bG (Qp p) λR=>
 join [] (λa=>
 ar p.isNone (
 R (0,false))<|
 az p λb=>
 rE b λc=>
 ar (!c) (
 R (0,false))<|
 a ()) λ(d:Unit)=>
 az p λe=>
 dx e 2 λf=>
 R (f,true):=bI Tryz.func278 (uz 0x1c9004001)
instance adK(p s):bG (Qv p s) λR=>
 new (Ks.mk aW s) λa=>
 bQ<|
 bJ ⟨a,0⟩ λb=>
 bJ ⟨a,1⟩ λc=>
 az p λd=>
 dx d 4 λe=>
 az p λf=>
 so f 1 [a_ true]<|
 cw ⟨a,1⟩ (Ks.mk cu c)<|
 cw ⟨a,0⟩ (Ks.mk cu b)<|
 az p λg=>
 so g 3 [zi]<|
 cw ⟨a,1⟩ (Ks.mk cu c)<|
 cw ⟨a,0⟩ (Ks.mk cu b)<|
 az p λh=>
 so h 5 [aC b,aC c,aC e]<|
 R ():=bI Tryz.func303 (uz 0x2088f52a8539464a581199f42514f95e3a634432538a20bb4a2481840079431650c39400a50019400250c3001)
instance adM(d o):bG (Vq d o) λR=>
 new (Ks.mk aW o) λa=>
 ld aW ⟨a,0⟩ λb=>
 bC (Vx d b) λ(c:Int×Bool)=>
 ar (!c.2) (
 R ())<|
 join cb (λe=>
 bQ<|
 az d λf=>
 dx f 2 λg=>
 ar (decide (g>0)) (
 az d λh=>
 az d λi=>
 dx h 2 λj=>
 dx i 2 λk=>
 aT (Vy j c.1) λl=>
 lA i 2 k<|
 e (decide (l≤(u64.wrap (k.tdiv 8)))))<|
 e false) λ(m:Bool)=>
 ar m (
 bQ<|
 az d λn=>
 az d λp=>
 dx n 2 λq=>
 dx p 2 λr=>
 az d λs=>
 so s 2 [aC (u64.wrap ((u64.wrap ((u64.wrap (q.tdiv 2))+(u64.wrap (c.1.tdiv 2))))+(u64.wrap (BitVec.ofInt u64.bits (u64.wrap (BitVec.ofInt u64.bits r&&&BitVec.ofInt u64.bits c.1).toNat)&&&BitVec.ofInt u64.bits 1).toNat)))]<|
 az d λt=>
 st t [a_ true]<|
 az d λu=>
 so u 3 [zi]<|
 R ())<|
 az d λv=>
 so v 2 [aC c.1]<|
 ld aW ⟨a,0⟩ λw=>
 cg (Qv d w) λx=>
 R ():=bI Tryz.func305 (uz 0x1c0823853a92451960650a4f61622979d3a914c10b0ca1c210d9402651069400650009690c10608d39a2592a6171646d6da58bba0590a5f58fa59589a5e58ea58588a5d58da57587a5600ca5610aa56006a451030810009560c2581100040042001001)
instance adL(p):bG (Mf p) λR=>
 az p λa=>
 st a [a_ false]<|
 az p λb=>
 so b 1 [a_ false]<|
 az p λc=>
 so c 2 [zu]<|
 R ():=bI Tryz.func304 .o
instance adY(p s):bG (Vx p s) λR=>
 new (Ks.mk aW s) λa=>
 bQ<|
 bJ ⟨a,1⟩ λb=>
 az p λc=>
 az p λd=>
 az p λe=>
 bJ ⟨a,0⟩ λf=>
 az p λg=>
 dx d 4 λh=>
 dx c 6 λi=>
 dx e 7 λj=>
 dx g 5 λk=>
 aT (y8 b i) λl=>
 lA g 5 k<|
 lA e 7 j<|
 lA d 4 h<|
 cw ⟨a,0⟩ (Ks.mk cu f)<|
 aT (y8 h j) λm=>
 lA g 5 k<|
 cw ⟨a,0⟩ (Ks.mk cu f)<|
 aT (y8 f k) λn=>
 ar ((l==0)||(n==0)) (
 R (0,false))<|
 aT (Ex l 50 256) λo=>
 ar (decide (m<o)) (
 R (0,false))<|
 aT (Ex l 1000000000 n) λq=>
 R (q,true):=bI Tryz.func317 (uz 0x1d82a72689b9986a6a6466a85c46a3ca1ea6101973cb15638a1154cd2430405250d29403250089400a50c09480c1001)
instance adZ(a b):bG (Vy a b) λR=>
 R (u64.wrap ((if b>a then b else a)-(if b<a then b else a))):=bI Tryz.func318 (uz 8)
instance abm:bG T_ λR=>
 new [zu,zu,a_ false,zu,a_ false] λa=>
 R (some ⟨a,0⟩):=bI Tryz.func157 (uz 8)
instance acp(p):bG (Gq p) λR=>
 ar p.isNone (
 R 0)<|
 az p λa=>
 bJ a λb=>
 R b:=bI Tryz.func222 (uz 0xa)
instance adS(d o a a' a'' a'''):bG (Vt d o a a' a'' a''') λR=>
 loop [.bool,.bool] (false,false) λb (c:Bool×Bool)=>
 ar (!d.isNone) (
 join cb (λe=>
 az d λf=>
 bJ f λg=>
 ar (decide (g>0)) (
 az d λh=>
 dx h 1 λi=>
 aT (oL i 10000000000) λj=>
 e (decide (o>j)))<|
 e false) λ(k:Bool)=>
 join [] (λl=>
 join cb (λm=>
 ar (decide (a>0)) (
 az d λn=>
 bJ n λp=>
 ar (p==0) (
 m true)<|
 az d λq=>
 bJ q λr=>
 m ((decide (a≤r))||k))<|
 m false) λ(s:Bool)=>
 ar s (
 az d λt=>
 st t [aC a]<|
 az d λu=>
 so u 1 [aC o]<|
 l ())<|
 l ()) λ(v:Unit)=>
 join cb (λw=>
 ar k (
 az d λx=>
 oM x 2 λy=>
 w (!y))<|
 w false) λ(z:Bool)=>
 ar z (
 az d λA=>
 so A 2 [a_ true]<|
 az d λB=>
 so B 3 [zu]<|
 az d λC=>
 so C 4 [a_ false]<|
 R (true,c.2))<|
 az d λD=>
 oM D 2 λE=>
 ar E (
 cM (VA d o a' a'' a''') λF=>
 R (c.1,F))<|
 R (c.1,false))<|
 R (c.1,c.2):=bI Tryz.func311 (uz 0x1c7380085fc11011c00b404400400240110220108f08e086081001001001)
instance ad4(p af start flight floor):bG (VA p af start flight floor) λR=>
 az p λa=>
 dx a 3 λb=>
 ar (b==0) (
 ar (decide (flight≤floor)) (
 aT (oL af 200000000) λc=>
 az p λd=>
 so d 3 [aC c]<|
 az p λe=>
 so e 4 [a_ false]<|
 R false)<|
 R false)<|
 az p λf=>
 oM f 4 λg=>
 az p λh=>
 so h 4 [a_ (g||start)]<|
 join [] (λi=>
 az p λj=>
 oM j 4 λk=>
 ar (!k) (
 R false)<|
 az p λl=>
 dx l 3 λm=>
 ar (decide (af≤m)) (
 R false)<|
 i ()) λ(n:Unit)=>
 az p λo=>
 so o 1 [aC af]<|
 az p λq=>
 so q 2 [a_ false]<|
 R true:=bI Tryz.func323 (uz 0x2090040016c1001)
instance aez(n):bG (ZU n) λR=>
 lU (Z7 (if 4096<(if 0>n then 0 else n)then 4096 else(if 0>n then 0 else n))) λa=>
 new [.ptr a,aX ⟨none,0,0⟩,zi,zi,aJ (if 4096<(if 0>n then 0 else n)then 4096 else(if 0>n then 0 else n))] λb=>
 R (some ⟨b,0⟩):=bI Tryz.func58 (uz 0xb)
instance aa5(t):bG (P0 t) λR=>
 new [.ptr t] λa=>
 R (.mk (.func jR) [] [V1.enc (.lf (.ptr (some ⟨a,0⟩)))]):=bI Tryz.func140 (uz 8)
instance ab9(yield c0):bG (XK yield c0) λR=>
 s_ c0 λa=>
 bo (L0 a) λb=>
 ar (b==(-1)) (
 R ())<|
 bQ<|
 s_ c0 λc=>
 s_ c0 λd=>
 bo (L0 d) λe=>
 cw c0 (Ks.mk cp c)<|
 bC (L1 c e) λ(f:Sl)=>
 loop cl f λg (h:Sl)=>
 ar (decide (((h.len:Nat):Int)>0)) (
 idx h (i64.wrap (((h.len:Nat):Int)-1)) 1 λi=>
 dN i λj=>
 D9 h none (some (i64.wrap (((h.len:Nat):Int)-1))) none 1 λk=>
 s_ c0 λl=>
 az l λm=>
 jn m 1 λn=>
 idx n j 5 λo=>
 ld cr o λ(p:Int×Int)=>
 xT Tryz.prog yield [.agg (Ks.mk cr p)] [qb] λ(q:Bool)=>
 ar (!q) (
 R ())<|
 bQ<|
 s_ c0 λr=>
 s_ c0 λs=>
 az s λt=>
 jn t 1 λu=>
 idx u j 5 λv=>
 gV v 3 λw=>
 bC (L1 r w) λ(x:Sl)=>
 mi 1 k x λy=>
 g y)<|
 R ():=bI Tryz.func207 (uz 0x2070c99b44ba9a48aa89217587a451031069410a50419430259032010010010880440c118280b1262880ea2429810409400c1201)
instance aa6(d o):bG (P1 d o) λR=>
 new (Ks.mk cr o) λa=>
 ar d.isNone (
 R 2)<|
 ld cr ⟨a,0⟩ λ(b:Int×Int)=>
 bC (P2 d b) λ(c:Sl)=>
 ld cr ⟨a,0⟩ λ(e:Int×Int)=>
 bo (P3 d c e) λf=>
 ar (f==(-1)) (
 R 7)<|
 join [.sl,.int .i64] (λg=>
 join cb (λh=>
 az d λi=>
 jn i 1 λj=>
 idx j f 5 λk=>
 gV k 2 λl=>
 ar (l !=(-1)) (
 az d λm=>
 jn m 1 λn=>
 idx n f 5 λp=>
 gV p 3 λq=>
 h (q !=(-1)))<|
 h false) λ(r:Bool)=>
 ar r (
 az d λs=>
 jn s 1 λt=>
 idx t f 5 λu=>
 gV u 3 λv=>
 bC (L1 d v) λ(w:Sl)=>
 idx w (i64.wrap (((w.len:Nat):Int)-1)) 1 λx=>
 dN x λy=>
 bQ<|
 az d λz=>
 az d λA=>
 jn z 1 λB=>
 jn A 1 λC=>
 idx C y 5 λD=>
 ld cr D λ(E:Int×Int)=>
 idx B f 5 λF=>
 st F (Ks.mk cr E)<|
 mi 1 c w λG=>
 g (G,y))<|
 g (c,f)) λ(H:Sl×Int)=>
 az d λI=>
 jn I 1 λJ=>
 idx J H.2 5 λK=>
 gV K 2 λL=>
 join ci (λM=>
 ar (L==(-1)) (
 az d λN=>
 jn N 1 λO=>
 idx O H.2 5 λQ=>
 gV Q 3 λS=>
 M S)<|
 M L) λ(T:Int)=>
 D9 H.1 none (some (i64.wrap (((H.1.len:Nat):Int)-1))) none 1 λU=>
 cg (UF d U H.2 T) λV=>
 az d λX=>
 gV X 3 λY=>
 az d λZ=>
 so Z 3 [aJ (i64.wrap (Y-1))]<|
 az d λa0=>
 s_ a0 λa1=>
 bo (UG a1 H.2) λa2=>
 R a2:=bI Tryz.func141 (uz 0xb2012411000400207dd3ea39550da4c2da64aa480c70860482650059461250009780c10010010400a8044046105084241001001241001)
instance ae4(d o):bG (Z_ d o) λR=>
 new (Ks.mk cr o) λa=>
 ar d.isNone (
 R 2)<|
 ld cr ⟨a,0⟩ λ(b:Int×Int)=>
 bC (P2 d b) λ(c:Sl)=>
 ld cr ⟨a,0⟩ λ(e:Int×Int)=>
 bo (P3 d c e) λf=>
 ar (f !=(-1)) (
 R 6)<|
 bQ<|
 az d λg=>
 az d λh=>
 gV g 3 λi=>
 gV h 4 λj=>
 ar (decide (i≥j)) (
 R 5)<|
 az d λk=>
 s_ k λl=>
 bC (P4 l) λ(m:Int×Int)=>
 ar (m.2 !=0) (
 R m.2)<|
 join [] (λn=>
 az d λp=>
 jn p 1 λq=>
 ar (m.1==((q.len:Nat):Int)) (
 az d λr=>
 jn r 1 λs=>
 new [zu,zu,zi,zi,zi] λt=>
 mi 5 s ⟨some ⟨t,0⟩,1,1⟩ λu=>
 az d λv=>
 so v 1 [aX u]<|
 n ())<|
 n ()) λ(w:Unit)=>
 bQ<|
 ld cr ⟨a,0⟩ λ(x:Int×Int)=>
 az d λy=>
 jn y 1 λz=>
 idx z m.1 5 λA=>
 st A [aC x.1,aC x.2,aJ (-1),aJ (-1),aJ 1]<|
 az d λB=>
 gV B 3 λC=>
 az d λD=>
 so D 3 [aJ (i64.wrap (C+1))]<|
 cg (T4 d c (-1) m.1) λE=>
 R 0:=bI Tryz.func95 (uz 0xb8185c8a95507a43086043165184940025e03048004241001320649998508a470c60850401250009530c11c1001081001241001)
instance aay(t):PA (TK t) λn0 R=>
 new [zu,zu] λa=>
 new [a_ false] λb=>
 join [] (λc=>
 bC (P0 t) λ(d:Fv)=>
 qP Tryz.prog d [.agg [.int .u64,.int .u64]] (λ(e:(Int×Int)) f g h=>
 new [zu,zu] λi=>
 st ⟨i,0⟩ (Ks.mk cr e)<|
 f<|
 ld cr ⟨i,0⟩ λ(j:Int×Int)=>
 st ⟨a,0⟩ (Ks.mk cr j)<|
 st ⟨b,0⟩ [a_ true]<|
 h 1) λk=>pB 0 k (c ())<|
 pB 1 k (ld cr ⟨a,0⟩ λ(l:Int×Int)=>
 rE ⟨b,0⟩ λm=>
 lV n0<|R (l,m))<|
 gX) λ(n:Unit)=>
 st ⟨a,0⟩ [zu,zu]<|
 st ⟨b,0⟩ [a_ false]<|
 ld cr ⟨a,0⟩ λ(o:Int×Int)=>
 rE ⟨b,0⟩ λp=>
 lV n0<|R (o,p):=VH Tryz.func101 (.s .o (.j [] (.s .o (.b (.r [.agg [.int .u64,.int .u64]] .o (.b (.s .o .o))))) (.s .o .o)))
instance acb(t gZ was i):bG (UF t gZ was i) λR=>
 loop Xm (was,i,(i64.wrap (((gZ.len:Nat):Int)-1))) λa (b:A_)=>
 ar (decide (b.2.2≥0)) (
 idx gZ b.2.2 1 λc=>
 dN c λd=>
 az t λe=>
 jn e 1 λf=>
 idx f d 5 λg=>
 gV g 2 λh=>
 ar (h==b.1) (
 az t λj=>
 jn j 1 λk=>
 idx k d 5 λl=>
 so l 2 [aJ b.2.1]<|
 bo (JI t d) λm=>
 a (d,m,(i64.wrap (b.2.2-1))))<|
 az t λn=>
 jn n 1 λo=>
 idx o d 5 λp=>
 so p 3 [aJ b.2.1]<|
 bo (JI t d) λq=>
 a (d,q,(i64.wrap (b.2.2-1))))<|
 az t λr=>
 so r 2 [aJ (i64.wrap (b.2.1+1))]<|
 R ():=bI Tryz.func210 (uz 0x110812010480430420c6080041)
instance acm(d o):bG (JI d o) λR=>
 cg (Gr d o) λa=>
 bo (L9 d o) λb=>
 ar (decide (b>1)) (
 az d λc=>
 jn c 1 λe=>
 idx e o 5 λf=>
 gV f 2 λg=>
 bo (L9 d g) λh=>
 ar (decide (h<0)) (
 bQ<|
 az d λi=>
 az d λj=>
 jn i 1 λk=>
 jn j 1 λl=>
 idx l o 5 λm=>
 gV m 2 λn=>
 bo (L_ d n) λp=>
 sc i 1 k<|
 idx k o 5 λq=>
 so q 2 [aJ p]<|
 bo (Ma d o) λr=>
 R r)<|
 bo (Ma d o) λs=>
 R s)<|
 ar (decide (b<(-1))) (
 az d λt=>
 jn t 1 λu=>
 idx u o 5 λv=>
 gV v 3 λw=>
 bo (L9 d w) λx=>
 ar (decide (x>0)) (
 bQ<|
 az d λy=>
 az d λz=>
 jn y 1 λA=>
 jn z 1 λB=>
 idx B o 5 λC=>
 gV C 3 λD=>
 bo (Ma d D) λE=>
 sc y 1 A<|
 idx A o 5 λF=>
 so F 3 [aJ E]<|
 bo (L_ d o) λG=>
 R G)<|
 bo (L_ d o) λH=>
 R H)<|
 R o:=bI Tryz.func218 (uz 0x1c01c08217d1a905543e97963aa34c6da2e92432021c104a9401a500594112500097b0c10010410011c08217d1a905543e97963aa34c6da2e92432021c104a9401a50059411250009590c1001041001080041001001)
instance aba(t gZ k):bG (P3 t gZ k) λR=>
 new (Ks.mk cr k) λa=>
 join cb (λb=>
 bQ<|
 ar (decide (((gZ.len:Nat):Int)>0)) (
 ld cr ⟨a,0⟩ λ(c:Int×Int)=>
 az t λd=>
 idx gZ (i64.wrap (((gZ.len:Nat):Int)-1)) 1 λe=>
 jn d 1 λf=>
 dN e λg=>
 idx f g 5 λh=>
 ld cr h λ(i:Int×Int)=>
 b ((i.1==c.1)&&(i.2==c.2)))<|
 b false) λ(j:Bool)=>
 ar j (
 idx gZ (i64.wrap (((gZ.len:Nat):Int)-1)) 1 λl=>
 dN l λm=>
 R m)<|
 R (-1):=bI Tryz.func146 (uz 0x1cc821311a607cc42d78c3a974c36971730cb5b30ba4f306a5a60c2ad38c16964c26934c1293053e93072293011e93000e90811c09490c26c1100041001)
instance abc(d o a a'):bG (T4 d o a a') λR=>
 loop Xm (a,a',(i64.wrap (((o.len:Nat):Int)-1))) λb (c:A_)=>
 ar (decide (c.2.2≥0)) (
 idx o c.2.2 1 λe=>
 dN e λf=>
 join cb (λg=>
 bQ<|
 az d λh=>
 jn h 1 λi=>
 idx i f 5 λj=>
 gV j 2 λk=>
 ar (k==c.1) (
 ar (c.1 !=(-1)) (
 g true)<|
 az d λl=>
 az d λm=>
 jn l 1 λn=>
 jn m 1 λp=>
 idx n c.2.1 5 λq=>
 idx p f 5 λr=>
 ld cr q λ(s:Int×Int)=>
 ld cr r λ(t:Int×Int)=>
 bo (Qa s t) λu=>
 g (decide (u<0)))<|
 g false) λ(v:Bool)=>
 ar v (
 az d λw=>
 jn w 1 λx=>
 idx x f 5 λy=>
 so y 2 [aJ c.2.1]<|
 bo (JI d f) λz=>
 b (f,z,(i64.wrap (c.2.2-1))))<|
 az d λA=>
 jn A 1 λB=>
 idx B f 5 λC=>
 so C 3 [aJ c.2.1]<|
 bo (JI d f) λD=>
 b (f,D,(i64.wrap (c.2.2-1))))<|
 az d λE=>
 so E 2 [aJ (i64.wrap (c.2.1+1))]<|
 R ():=bI Tryz.func148 (uz 0x1e0c5b869c1e6e0b6f79fa6e99e7aeb5e76995e569b1e72991e529aea79bb6389e4eda5e66985e469a1e62981e4299de5e97de3e97896a97805a97834a97803a975b36971b3296c22e9299609a47195505a430810889491250009540c2d811010010812010480430420c6080041)
instance adH(t i):bG (JL t i) λR=>
 ar (i==(-1)) (
 R 0)<|
 az t λa=>
 jn a 1 λb=>
 idx b i 5 λc=>
 gV c 4 λd=>
 R d:=bI Tryz.func300 (uz 0xa)
instance adg(t i):bG (L9 t i) λR=>
 bQ<|
 az t λa=>
 az t λb=>
 jn a 1 λc=>
 jn b 1 λd=>
 idx c i 5 λe=>
 idx d i 5 λf=>
 gV e 2 λg=>
 gV f 3 λh=>
 bo (JL t g) λj=>
 EW f 3 h<|
 sc b 1 d<|
 bo (JL t h) λk=>
 R (i64.wrap (j-k)):=bI Tryz.func273 (uz 0x209559a4394a633d3a8d149a922111e07d0a4a246a4e10d0cc0813e500b9402a50459400650009440c1001)
instance aca(t i):bG (L1 t i) λR=>
 loop [.int .i64,.sl] (i,⟨none,0,0⟩) λa (b:Int×Sl)=>
 ar (b.1 !=(-1)) (
 new [aJ b.1] λc=>
 mi 1 b.2 ⟨some ⟨c,0⟩,1,1⟩ λd=>
 az t λe=>
 jn e 1 λf=>
 idx f b.1 5 λg=>
 gV g 2 λh=>
 a (h,d))<|
 R b.2:=bI Tryz.func209 (uz 0x7000081201105041086081001001)
end Go.X
