/- A verified reading of Go code as a weakest precondition, and a logic of separate parts over it. -/
import Derived.Test.YtaimlgfepkopkaaGreatA0
set_option linter.all false
namespace Go.X
variable {P:Program}
abbrev Ax(cs:Ks)(x:Ks.T cs):Value:=.agg ((Ks.mk cs x).map Lf.enc).toArray
theorem HM{t:TypeId}{k:IntKind}{cs:Ks}{z:List Lf}(h:Je P t=some (k,cs,z)):∃kt et,P.underlying t=some (.map kt et)∧P.underlying kt=some (.int k)∧∀w:World,(zeroValue et).run P w=.ok (.agg (z.map Lf.enc).toArray) w:=by
 unfold Je at h;split at h
 ·rename_i kt et hu;split at h
  ·rename_i k1 cs1 i hk hs hi;split at h
   ·rename_i zs hz;split at h
    ·rename_i z1 hz1;cases h;refine⟨kt,et,hu,hk,λw=>?_⟩;have e:zs=(z.map Lf.enc).toArray:=by
      have h2:tN (.agg zs)=some (.agg z):=(by simp only[tN,hz1]);have h3:=vT h2;have h3:Value.agg (z.map Lf.enc).toArray=.agg zs:=h3;exact(Value.agg.inj h3).symm
     simp[zeroValue,typeInfo,hi,hz,e]
    ·cases h
   ·cases h
  ·cases h
 ·cases h
theorem yt{k:IntKind}{cs:Ks}{n:Int}:∀(l:List MapEntry) (m:List (Int×Ks.T cs)) (i:Nat),l.map (λe=>(e.key,e.val))=m.map (λx=>(Value.int k x.1,Ax cs x.2))→
  (getM m n=none∧Instr.findNow (.int k) (.int k n) l i=some none∧∀(y:Ks.T cs) (b:Nat),(l++[({key:=.int k n,val:=Ax cs y,born:=b}:MapEntry)]).map (λe=>(e.key,e.val))=(Ei m n y).map (λx=>(Value.int k x.1,Ax cs x.2)))∨
  (∃(j:Nat) (x:Ks.T cs),getM m n=some x∧Instr.findNow (.int k) (.int k n) l i=some (some (i+j,Ax cs x))∧(l[j]?).map (·.key)=some (.int k n)∧
   ∀y:Ks.T cs,(l.modify j λe=>{e with key:=.int k n,val:=Ax cs y}).map (λe=>(e.key,e.val))=(Ei m n y).map (λx=>(Value.int k x.1,Ax cs x.2)))
 |[],[],i,_=>.inl ⟨rfl,rfl,λy b=>rfl⟩
 |[],_::_,i,h=>by cases h
 |_::_,[],i,h=>by cases h
 |e::l,a::m,i,h=>by
  simp only[kq,List.cons.injEq,Prod.mk.injEq]at h;obtain⟨⟨h1,h2⟩,h3⟩:=h;by_cases hc:a.1=n
  ·refine .inr ⟨0,a.2,by simp[getM,hc],?_,by simp[h1,hc],λy=>?_⟩
   ·simp[Instr.findNow,Instr.sameNow,h1,hc,h2]
   ·simp only[List.modify_zero_cons,kq,Ei,aC hc,h3]
  ·have hc2:¬n=a.1:=λx=>hc x.symm;have e0:Instr.findNow (.int k) (.int k n) (e::l) i=Instr.findNow (.int k) (.int k n) l (i+1):=by
    have hb:(n==a.1)=false:=(by simpa using hc2);simp[Instr.findNow,Instr.sameNow,h1,hb]
   rcases yt (n:=n) l m (i+1) h3 with⟨g1,g2,g3⟩|⟨j,x,g1,g2,g3,g4⟩
   ·refine .inl ⟨by simp[getM,hc,g1],by rw[e0,g2],λy b=>?_⟩;have:=g3 y b;simp only[mY,kq,Ei,ay hc,this,h1,h2]
   ·refine .inr ⟨j+1,x,by simp[getM,hc,g1],by rw[e0,g2,Cz,Nat.add_comm 1 j],by simpa using g3,λy=>?_⟩;have:=g4 y;simp only[List.modify_succ_cons,kq,Ei,ay hc,this,h1,h2]
theorem FQ{w:World}{t:TypeId}{r:Nat}{k:IntKind}{cs:Ks}{z:List Lf}{m:List (Int×Ks.T cs)}{n:Int}(hm:Je P t=some (k,cs,z))(h:AD w r k cs m):
  (∀x,getM m n=some x→(Instr.lookup t (.map (some r)) (.int k n) true).run P w=.ok (.tuple #[Ax cs x,.bool true]) w)∧
  (getM m n=none→(Instr.lookup t (.map (some r)) (.int k n) true).run P w=.ok (.tuple #[.agg (z.map Lf.enc).toArray,.bool false]) w):=by
 obtain⟨kt,et,hu,hk,hz⟩:=HM hm;obtain⟨es,c,hb,he⟩:=h;have hck:=MapKept.run_checkKey (w:=w) (k:=.int k n) hk (by simp[MapKept.IsKey]) es.isEmpty 9999;rcases yt (n:=n) es.toList m 0 he with⟨g1,g2,_⟩|⟨j,x,g1,g2,_,_⟩
 ·have hf:=Cl (w:=w) hk g2;refine⟨λx hx=>(by rw[g1]at hx;cases hx),λ_=>?_⟩;simp only[Instr.lookup,cj,eZ hu,dp,Ch hb,dQ];rw[show(10000:Nat)=9999+1 from rfl,hck];simp only[dp,hf,hz,cj,dQ,gU]
 ·have hf:=Cl (w:=w) hk g2;refine⟨λy hy=>?_,λhx=>by rw[g1]at hx;cases hx⟩;rw[g1]at hy;cases hy;simp only[Instr.lookup,cj,eZ hu,dp,Ch hb,dQ];rw[show(10000:Nat)=9999+1 from rfl,hck];simp only[dp,hf,cj,dQ,gU]
theorem map_set{w:World}{r:Nat}{es:Array MapEntry}{c:Nat}(hb:w.heap[r]?=some (.map es c))(es':Array MapEntry)(c':Nat):
  jO (Dn r) w {w with heap:=w.heap.setIfInBounds r (.map es' c')}∧({w with heap:=w.heap.setIfInBounds r (.map es' c')}:World).heap[r]?=some (.map es' c')∧({w with heap:=w.heap.setIfInBounds r (.map es' c')}:World).heap.size=w.heap.size:=by
 have hs:=MapKept.heap_set (o':=.map es' c') hb;refine⟨⟨rfl,rfl,rfl,by simp,λk _ hk=>hs.2 k hk,λk hk=>?_⟩,hs.1,by simp⟩;by_cases e:k=r
 ·rw[e,hb]at hk;simp[lC]at hk
 ·exact(hs.2 k e).trans hk
theorem G7{w:World}{t:TypeId}{r:Nat}{k:IntKind}{cs:Ks}{z:List Lf}{m:List (Int×Ks.T cs)}{n:Int}{y:Ks.T cs}(hm:Je P t=some (k,cs,z))(h:AD w r k cs m):
  ∃w',(Instr.mapUpdate t (.map (some r)) (.int k n) (Ax cs y)).run P w=.ok () w'∧jO (Dn r) w w'∧AD w' r k cs (Ei m n y)∧w'.heap.size=w.heap.size:=by
 obtain⟨kt,et,hu,hk,_⟩:=HM hm;obtain⟨es,c,hb,he⟩:=h;have hck:=MapKept.run_checkKey (w:=w) (k:=.int k n) hk (by simp[MapKept.IsKey]) false 9999;have hst:=MapKept.run_keyThatStays (P:=P) (w:=w) (d:=.int k) (k:=.int k n) (by simp[MapKept.IsKey]);rcases yt (n:=n) es.toList m 0 he with⟨g1,g2,g3⟩|⟨j,x,g1,g2,g3,g4⟩
 ·have hf:=Cl (w:=w) hk g2;obtain⟨a1,a2,a3⟩:=map_set hb (es.push {key:=.int k n,val:=Ax cs y,born:=c}) (c+1);refine⟨_,?_,a1,⟨_,_,a2,?_⟩,a3⟩
  ·simp only[Instr.mapUpdate,cj,eZ hu,dp,Ch hb];rw[show(10000:Nat)=9999+1 from rfl,hck];simp only[dp,hf];exact MM _ hb
  ·rw[Array.toList_push];exact g3 y c
 ·have hf:=Cl (w:=w) hk g2;obtain⟨a1,a2,a3⟩:=map_set hb (es.modify j λe=>{e with key:=.int k n,val:=Ax cs y}) c;have hkey:((es[j]?).map (·.key)).getD (.int k n)=.int k n:=by
   rw[←Array.getElem?_toList,g3];rfl
  refine⟨_,?_,a1,⟨_,_,a2,?_⟩,a3⟩
  ·simp only[Instr.mapUpdate,cj,eZ hu,dp,Ch hb];rw[show(10000:Nat)=9999+1 from rfl,hck];simp only[dp,hf,nT,hkey];rw[cj,hst];exact MM _ hb
  ·rw[Array.toList_modify];exact g4 y
theorem As{w:World}{t el:TypeId}{z:List Lf}{n m:Int}{k1 k2:IntKind}(hu:P.underlying t=some (.slice el))(hz:lG P el=some z)(hzl:z.length=P.cellsOf el)(hpos:P.cellsOf el≠0)(hby:P.bytesOf el≤4096)
  (h:0≤n∧n≤m∧m≤4294967296):
  (Instr.makeSlice t (.int k1 n) (.int k2 m)).run P w=.ok (Lf.sl ⟨some ⟨w.heap.size,0⟩,n.toNat,m.toNat⟩).enc {w with heap:=w.heap.push (.cells ((kf m.toNat z).map Lf.enc).toArray el)}:=by
 have e1:IntKind.i64.wrap n=n:=by simp[IntKind.wrap,IntKind.bits,IntKind.signed];omega
 have e2:IntKind.i64.wrap m=m:=by simp[IntKind.wrap,IntKind.bits,IntKind.signed];omega
 obtain⟨i,hi⟩:∃i,P.info? el=some i:=by
  unfold Program.cellsOf at hpos;cases hh:P.info? el with
  |none=>rw[hh]at hpos;simp at hpos
  |some i=>exact⟨i,rfl⟩
 have hb:i.bytes=P.bytesOf el:=by simp[Program.bytesOf,hi]
 obtain⟨zv,hzv,hzc⟩:=mG hz w;have hbig:(i.bytes:Int)*m≤4096*4294967296:=by
  have h1:(i.bytes:Int)≤4096:=by omega
  exact Cr h1 h.2.2 (by omega) (by omega)
 have hc:(decide (m<0)||decide ((i.bytes:Int)*m>2^48)||decide (n<0)||decide (n>m))=false:=by
  simp only[Ck,Es];have:(4096*4294967296:Int)≤2^48:=by decide
  refine⟨⟨⟨by omega,by omega⟩,by omega⟩,by omega⟩
 simp only[Instr.makeSlice,cj,eZ hu,dp,asInt,asIntOf,dQ,typeInfo,wv,hi,e1,e2];rw[hc];simp only[iW,iX,cj,run_askRoom,dp,jv hpos,qC];by_cases h0:m.toNat*P.cellsOf el=0
 ·have hm:m.toNat=0:=by rcases Gr.1 h0 with h|h;exact h;exact absurd h hpos
  have e0:∀f:Nat→Value,Array.map f (Array.range 0)=#[]:=λf=>by rw[kD];simp
  simp[hm,newRow,Lf.enc,Sl.rj,Pt.addr,kf,e0]
 ·rw[ay h0];simp only[hzv,dp,dQ,cj,newRow,wA,hzc];simp only[Co,kT,hzl];rw[qj hzl (by omega)]
  rfl
theorem jP{x:Int}{k:IntKind}{y n:Nat}{code:BoundsCode}{w:World}(h:x=n)(hle:n≤y):(Instr.sliceBound (.int k x) y code).run P w=.ok n w:=by
 subst h;simp[Instr.sliceBound,asIntOf,hle]
def oZ:Option Int→Option Value→Prop
 |none,none=>True
 |some n,some v=>∃k,v=.int k n
 |_,_=>False
theorem tL{w:World}{bb:Bool}{len cap:Nat}{lo hi mx:Option Int}{vl vh vm:Option Value}{l h m:Nat}
  (el1:oZ lo vl) (el2:oZ hi vh) (el3:oZ mx vm) (hmh:mx.isSome=true→hi.isSome=true)
  (b1:vP lo 0 l) (b2:vP hi len h) (b3:vP mx cap m) (hlh:l≤h) (hhm:h≤m) (hmc:m≤cap):
  (Instr.sliceBounds bb len cap vl vh vm).run P w=.ok (l,h,m) w:=by
 unfold Instr.sliceBounds;cases mx with
 |none=>
  cases vm with
  |some v=>exact el3.elim
  |none=>
   simp only[vP]at b3;subst b3;cases hi with
   |none=>
    cases vh with
    |some v=>exact el2.elim
    |none=>
     simp only[vP]at b2;subst b2;cases lo with
     |none=>cases vl with
      |some v=>exact el1.elim
      |none=>simp only[vP]at b1;subst b1;simp
     |some n=>cases vl with
      |none=>exact el1.elim
      |some v=>obtain⟨k,rfl⟩:=el1;simp[jP b1 hlh]
   |some n2=>
    cases vh with
    |none=>exact el2.elim
    |some v2=>
     obtain⟨k2,rfl⟩:=el2;cases lo with
     |none=>cases vl with
      |some v=>exact el1.elim
      |none=>simp only[vP]at b1;subst b1;simp[jP b2 hhm]
     |some n=>cases vl with
      |none=>exact el1.elim
      |some v=>obtain⟨k,rfl⟩:=el1;simp[jP b1 hlh,jP b2 hhm]
 |some n3=>
  cases vm with
  |none=>exact el3.elim
  |some v3=>
   obtain⟨k3,rfl⟩:=el3;cases hi with
   |none=>exact absurd (hmh rfl) (by simp)
   |some n2=>
    cases vh with
    |none=>exact el2.elim
    |some v2=>
     obtain⟨k2,rfl⟩:=el2;cases lo with
     |none=>cases vl with
      |some v=>exact el1.elim
      |none=>simp only[vP]at b1;subst b1;simp[jP b2 hhm,jP b3 hmc]
     |some n=>cases vl with
      |none=>exact el1.elim
      |some v=>obtain⟨k,rfl⟩:=el1;simp[jP b1 hlh,jP b2 hhm,jP b3 hmc]
theorem JJ{w:World}{t el:TypeId}{s:Sl}{lo hi mx:Option Int}{vl vh vm:Option Value}{l h m:Nat}(hu:P.underlying t=some (.slice el))(hsz:P.cellsOf el≠0)
  (el1:oZ lo vl) (el2:oZ hi vh) (el3:oZ mx vm) (hmh:mx.isSome=true→hi.isSome=true)
  (hodd:s.A8=false) (hnz:s.cap≠0→s.p≠none) (b1:vP lo 0 l) (b2:vP hi s.len h) (b3:vP mx s.cap m) (hb:l≤h∧h≤m∧m≤s.cap):
  (Instr.sliceAt t (Lf.sl s).enc vl vh vm).run P w=.ok (Lf.sl (s.sub l h m (P.cellsOf el))).enc w:=by
 obtain⟨hlh,hhm,hmc⟩:=hb;have hbounds:(Instr.sliceBounds true s.len s.cap vl vh vm).run P w=.ok (l,h,m) w:=tL el1 el2 el3 hmh b1 b2 b3 hlh hhm hmc;unfold Instr.sliceAt;have hsub:(s.sub l h m (P.cellsOf el)).A8=false:=by
  cases hp:s.p with
  |none=>
   have hc:s.cap=0∨s.len≠0:=by
    rw[Sl.A8,hp]at hodd;by_cases h1:s.cap=0
    ·exact .inl h1
    ·refine .inr λh2=>?_;rw[h2]at hodd;cases hh:s.cap with
     |zero=>exact h1 hh
     |succ k=>rw[hh]at hodd;cases hodd
   have hm0:m=0∨s.len≠0:=(by omega);rcases zd (m-l)with h0|h0
   ·exact Sl.FV (s:=s.sub l h m _) h0
   ·exact absurd hp (hnz (by omega))
  |some q=>
   by_cases hml:m=l
   ·exact Sl.yO (q:=q) (by simp[Sl.sub,hml,hp])
   ·exact Sl.yO (q:=⟨q.b,q.o+l*P.cellsOf el⟩) (by simp[Sl.sub,hml,hp])
 simp only[Lf.enc,Sl.wX hodd,Sl.wX hsub,cj,eZ hu,dp,Instr.slice,hbounds,jv hsz,dQ];unfold Sl.sub;by_cases hml:m=l
 ·simp[hml]
 ·simp only[ay hml];cases s.p with
  |none=>simp
  |some q=>simp[add_eq,Pt.addr]
theorem BF{w:World}{t el:TypeId}{n:Nat}{p:Pt}{lo hi mx:Option Int}{vl vh vm:Option Value}{l h m:Nat}(hu:P.underlying t=some (.array n el))(hsz:P.cellsOf el≠0)
  (el1:oZ lo vl) (el2:oZ hi vh) (el3:oZ mx vm) (hmh:mx.isSome=true→hi.isSome=true)
  (b1:vP lo 0 l) (b2:vP hi n h) (b3:vP mx n m) (hb:l≤h∧h≤m∧m≤n):
  (Instr.sliceAt t (Lf.ptr (some p)).enc vl vh vm).run P w=.ok (Lf.sl ((⟨some p,n,n⟩:Sl).sub l h m (P.cellsOf el))).enc w:=by
 obtain⟨hlh,hhm,hmc⟩:=hb;have hbounds:(Instr.sliceBounds false n n vl vh vm).run P w=.ok (l,h,m) w:=tL el1 el2 el3 hmh b1 b2 b3 hlh hhm hmc;unfold Instr.sliceAt;simp only[Lf.enc,tw,cj,eZ hu,dp,Instr.sureAddr,dQ,hbounds,jv hsz];unfold Sl.sub;by_cases hml:m=l
 ·simp[hml,Sl.rj]
 ·simp[hml,Sl.rj,add_eq,Pt.addr]
theorem H2{t:TypeId}(h:Qd P t=true):P.underlying t=some .string:=by
 unfold Qd at h;split at h
 ·assumption
 ·cases h
theorem ID{t:TypeId}(h:Fg P t=true):∃e,P.underlying t=some (.slice e)∧P.underlying e=some (.int .u8):=by
 unfold Fg at h;split at h
 ·rename_i e he;split at h
  ·exact⟨e,he,by assumption⟩
  ·cases h
 ·cases h
theorem GZ{w:World}{t:TypeId}{s:ByteArray}{lo hi:Option Int}{vl vh vm:Option Value}{l h:Nat}(hu:P.underlying t=some .string)
  (el1:oZ lo vl) (el2:oZ hi vh) (el3:oZ none vm) (b1:vP lo 0 l) (b2:vP hi s.size h) (hb:l≤h∧h≤s.size):
  (Instr.sliceAt t (.string s) vl vh vm).run P w=.ok (.string (s.extract l h)) w:=by
 have hbounds:(Instr.sliceBounds false s.size s.size vl vh none).run P w=.ok (l,h,s.size) w:=tL (mx:=none) el1 el2 trivial (λhh=>by cases hh) b1 b2 rfl hb.1 hb.2 (fa _);have hvm:vm=none:=by cases vm with
  |none=>rfl
  |some v=>exact el3.elim
 subst hvm;unfold Instr.sliceAt Instr.slice;simp only[cj,eZ hu,dp,Option.isSome_none,iW,iX,dQ,hbounds]
theorem Kj{w:World}{src dst e:TypeId}{s:Sl}{l:List UInt8}(hs:P.underlying src=some (.slice e))(he:P.underlying e=some (.int .u8))(hd:P.underlying dst=some .string)(h:na w s 1 (W_ l))(hl:s.len=l.length):
  (convert src dst (Lf.sl s).enc).run P w=.ok (.string ⟨l.toArray⟩) w:=by
 obtain⟨h1,h2,h3⟩:=h;have nil:l=[]→∀a c,(convert src dst (.slice a 0 c)).run P w=.ok (.string ⟨l.toArray⟩) w:=by
  intro e0 a c;subst e0;cases a with
  |none=>rw[run_convert_bytes_string w src dst e none 0 c hs he hd];rfl
  |some a=>exact MP w src dst e a c [] hs he hd (λj hj=>absurd hj (by simp))
 cases hp:s.p with
 |none=>
  have h0:=h2 hp;obtain⟨a,c,hx,_⟩:=s.ly;show(convert src dst s.enc).run P w=_;rw[hx,h0];exact nil (jD (by omega)) a c
 |some q=>
  show(convert src dst s.enc).run P w=_;rw[Sl.wY hp,hl];refine MP w src dst e q.addr s.cap l hs he hd λj hj=>?_;have hr:=rQ (h3 q hp) j (.int .u8 (l[j].toNat:Int)) (by simp[W_,Lf.enc,hj]);exact hr
theorem IP{w:World}{ts:Array TypeId}{t ty el:TypeId}{z:List Lf}{s:Sl}{A:WP}(h0:ts[0]?=some ty)(hu:P.underlying ty=some (.slice el))(hz:lG P el=some z)(hpos:0<z.length)(h:WI z s A w):
  ∃w',(Builtin.clear_ ts t #[(Lf.sl s).enc]).run P w=.ok (.tuple #[]) w'∧lH w w'∧A w':=by
 obtain⟨zv,hzv,hzc⟩:=mG hz w;unfold Builtin.clear_;simp only[h0,Lf.enc,Bh,zo,cj,eZ hu,dp];rcases h with⟨hn,hA⟩|⟨q,C,hp,hl,hb,hle,hk⟩
 ·refine⟨w,?_,lH.refl w,hA⟩;obtain⟨a,c,hx,hy,_⟩:=s.ly;rw[hx];rcases hn with hn|hn
  ·cases ho:s.A8 with
   |true=>
    rw[(Sl.L_ ho).2.1];cases a<;>simp
   |false=>rw[(hy ho).1,hn];simp
  ·rw[hn];cases a<;>simp
 ·obtain⟨w',r1,r2,r3,r4⟩:=nn (P:=P) (kf s.len z) C q.o 0 hb (by rw[qd];simpa using hle);rw[vk]at r3;refine⟨w',?_,r2.wW,hk w' r2 r3 r4⟩;rw[Sl.wY hp];simp only[cj,hzv,dp,hzc];rw[i_ rfl hpos];simp only[Pt.addr];rw[r1]
  rfl
section
variable {e:Env} {a:Act} {c:E1} {w:World} {r:Option Nat}
theorem nj(hA:lU e a)(hc:eW c a){x:Option Operand}{n:Option Int}(h:Eb e c x=some n):oZ n (x.map a.eval):=by
 unfold Eb at h;cases x with
 |none=>cases h;trivial
 |some x=>
  simp only at h;split at h
  ·rename_i k m hm;cases h;exact⟨k,bu hA hc hm⟩
  ·cases h
theorem xx(w:World)(ls:List Lf)(T:TypeId):jO D5 w {w with heap:=w.heap.push (.cells (ls.map Lf.enc).toArray T)}∧AC {w with heap:=w.heap.push (.cells (ls.map Lf.enc).toArray T)} w.heap.size ls∧({w with heap:=w.heap.push (.cells (ls.map Lf.enc).toArray T)}:World).heap.size=w.heap.size+1:=
 ⟨jQ w _,vO w ls T,by simp⟩
theorem yA{t el:TypeId}{d:TypeDesc}{q:Pt}{len cap:Nat}{k:IntKind}{n:Int}(hu:P.underlying t=some (.slice el))(hd:P.underlying el=some d)(hb:0≤n∧n<len):
  (Instr.indexAt t (.slice (some q.addr) len cap) (.int k n)).run P w=.ok (.pointer (some (⟨q.b,q.o+n.toNat*P.cellsOf el⟩:Pt).addr)) w:=by
 unfold Instr.indexAt;simp[asIntOf,eZ hu,jL hd,hb,add_eq,Pt.addr]
theorem yz{t el:TypeId}{d:TypeDesc}{q:Pt}{len:Nat}{k:IntKind}{n:Int}(hu:P.underlying t=some (.array len el))(hd:P.underlying el=some d)(hb:0≤n∧n<len):
  (Instr.indexAt t (.pointer (some q.addr)) (.int k n)).run P w=.ok (.pointer (some (⟨q.b,q.o+n.toNat*P.cellsOf el⟩:Pt).addr)) w:=by
 unfold Instr.indexAt;simp[asIntOf,eZ hu,jL hd,hb,add_eq,Pt.addr,Instr.sureAddr]
theorem uQ{t el:TypeId}{d:TypeDesc}{ls:List Lf}{len:Nat}{k:IntKind}{n:Int}{v:V1}(hu:P.underlying t=some (.array len el))(hd:P.underlying el=some d)(hb:0≤n∧n<len)(hv:u9 P el ls (n.toNat*P.cellsOf el)=some v):
  (Instr.index t (.agg (ls.map Lf.enc).toArray) (.int k n)).run P w=.ok v.enc w:=by
 unfold Instr.index;simp[asIntOf,eZ hu,hb,jL hd,tV hv hd]
theorem y6{o:Oper}{v:TV}(h:w_ P e c o=some v):∀x,o.op≠.defer x:=by
 intro x hx;unfold w_ at h;rw[hx]at h;cases h
theorem FX(hA:lU e a)(hc:eW c a){o:Oper}{K:TV→WP}(h:D_ P e c o K w):E3 P r a o w K:=by
 obtain⟨Y,hX,h⟩:∃Y,D_ P e c o K=Y∧Y w:=⟨_,rfl,h⟩;unfold D_ at hX;split at hX
 ·rename_i v hv;subst hX;exact ct (y6 hv) (y8 hA hc hv w) (lH.refl w) h
 ·split at hX
  · -- alloc
   rename_i t ho;split at hX
   ·rename_i ls hz;obtain⟨b1,b2,b3⟩:=xx w ls t;have hrun:(execOp a.eval o).run P w=.ok (.value (TV.enc (.one (.lf (.ptr (some ⟨w.heap.size,0⟩)))))) {w with heap:=w.heap.push (.cells (ls.map Lf.enc).toArray t)}:=by
     obtain⟨zv,hzv,hzc⟩:=mG hz w;simp only[execOp,ho,Instr.alloc,cj,hzv,dp,newVar,newRow,hzc,wA,dQ]
     rfl
    split at hX
    ·subst hX;exact ct (v:=.one (.lf (.ptr (some ⟨w.heap.size,0⟩)))) (by rw[ho];intro x;simp) hrun b1.wW (h _ b1 (by simp[UX]) b3)
    ·subst hX;exact ct (v:=.one (.lf (.ptr (some ⟨w.heap.size,0⟩)))) (by rw[ho];intro x;simp) hrun b1.wW (h _ b1 b2 b3)
   ·subst hX;exact h.elim
  · -- box
   rename_i t x ho;split at hX
   ·rename_i v hv;subst hX;obtain⟨b1,b2,b3⟩:=xx w v.I8 t;refine ct (v:=.one (.lf (.ptr (some ⟨w.heap.size,0⟩)))) (by rw[ho];intro x;simp) ?_ b1.wW (h _ b1 b2 b3);simp only[execOp,ho,Instr.box,bu hA hc hv,TV.enc,newVar,newRow,V1.cells,cj,wA,dp,dQ]
    rfl
   ·subst hX;exact h.elim
  · -- buildSlice
   rename_i t n ps ho;split at hX
   ·rename_i el hel;split at hX
    ·rename_i z vs hz hvs;split at hX
     ·rename_i ls hcond hls;subst hX;simp only[fG,wz,zn,mX]at hcond;obtain⟨⟨hzl,hn⟩,hpos⟩:=hcond;have hpos':P.cellsOf el≠0:=λhh=>by rw[hh]at hpos;cases hpos
      obtain⟨b1,b2,b3⟩:=xx w ls el;refine ct (v:=.one (.lf (.sl ⟨some ⟨w.heap.size,0⟩,n,n⟩))) (by rw[ho];intro x;simp) ?_ b1.wW (h _ b1 b2 b3);obtain⟨zv,hzv,hzc⟩:=mG hz w;have e1:=tP hA hc hvs;have e2:(ps.map (λx:Nat×Operand=>(x.1,a.eval x.2))).toList=vs.map λx=>(x.1,x.2.enc):=by
       rw[←e1];exact Array.toList_map
      have hfill:=BU hls;have hrep:((List.replicate n z).flatten.map Lf.enc).toArray=(Array.range (n*P.cellsOf el)).map (λi=>((z.map Lf.enc).toArray)[i%P.cellsOf el]!):=by
       rw[qj hzl (by omega)];rfl
      rw[hrep]at hfill;simp only[execOp,ho,Instr.buildSlice,cj,eZ (lx hel),dp,jv hpos',qC];rw[ay (by omega)];by_cases h0:n*P.cellsOf el=0
      ·have hn0:n=0:=(by rcases Gr.1 h0 with h|h;exact h;exact absurd h hpos');subst hn0;simp only[CB]at hfill;have e0:∀f:Nat→Value,Array.map f (Array.range 0)=#[]:=λf=>by rw[kD];simp
       simp only[e0]at hfill;simp only[CB,gU,dQ,dp,e0,cj,newRow,wA];rw[e2,hfill];simp[TV.enc,V1.enc,Lf.enc,Sl.rj,Pt.addr]
      ·rw[ay h0];simp only[hzv,dp,dQ,cj,hzc];simp only[Co,kT,hzl];rw[e2,hfill];simp[newRow,TV.enc,V1.enc,Lf.enc,Sl.rj,Pt.addr]
     ·subst hX;exact h.elim
    ·subst hX;exact h.elim
   ·subst hX;exact h.elim
  · -- load
   rename_i t x ho;split at hX
   ·rename_i p hp;unfold QK at hX;have hrun:∀v,(loadVar t p.addr).run P w=.ok v w→(execOp a.eval o).run P w=.ok (.value v) w:=by
     intro v hv;simp only[execOp,ho,Instr.loadAt,bu hA hc hp,TV.enc,V1.enc,Lf.enc,tw,Instr.sureAddr,cj,dQ,dp,hv]
    split at hX
    ·rename_i k hk;subst hX;obtain⟨y,hr,hK⟩:=h;obtain⟨hg,d,hd⟩:=zX hk;exact ct (v:=.one (.lf (k.mk y))) (by rw[ho];intro x;simp) (hrun _ (tY hd hg hr)) (lH.refl w) hK
    ·rename_i ks hk;subst hX;obtain⟨y,hr,hK⟩:=h;obtain⟨hg,⟨d,hd⟩,hl⟩:=vA hk;exact ct (v:=.one (.agg (Ks.mk ks y))) (by rw[ho];intro x;simp) (hrun _ (rA hd hg (by rw[Ks.len];exact hl) hr)) (lH.refl w) hK
    ·subst hX;exact h.elim
   ·subst hX;exact h.elim
  · -- store
   rename_i t x y ho;split at hX
   ·rename_i p v hp hv;split at hX
    ·rename_i hl;subst hX;obtain⟨L,hb,hle,hk⟩:=h;obtain⟨w',r1,r2,r3,r4⟩:=nn (P:=P) v.I8 L p.o 0 hb hle;rw[vk]at r3;simp only[fG,wz,mX]at hl;obtain⟨hlen,hz⟩:=hl;have hz':P.cellsOf t≠0:=λhh=>by rw[hh]at hz;cases hz
     refine AQ (by rw[ho];intro x;simp) ?_ r2.wW (hk w' r2 r3 r4);have hrun:(Instr.storeAt t (.pointer (some p.addr)) v.enc).run P w=.ok () w':=by
      simp only[Instr.storeAt,Instr.sureAddr,cj,dQ,dp,storeVar,jv hz',V1.cells];rw[ay (by simp[hlen])];simp only[r1]
     simp only[execOp,ho,bu hA hc hp,bu hA hc hv];rw[cj];have:TV.enc (.one (.lf (.ptr (some p))))=.pointer (some p.addr):=rfl;rw[this];have:TV.enc (.one v)=v.enc:=rfl;rw[this,hrun]
     rfl
    ·subst hX;exact h.elim
   ·subst hX;exact h.elim
  · -- nilCheck
   rename_i x ho;split at hX
   ·rename_i p hp;subst hX;obtain⟨q,hq,hK⟩:=h;subst hq;refine ct (v:=.one (.lf (.ptr (some q)))) (by rw[ho];intro x;simp) ?_ (lH.refl w) hK;simp only[execOp,ho,bu hA hc hp]
    rfl
   ·rename_i f hf;subst hX;obtain⟨⟨n,fi,ca,hfe⟩,hK⟩:=h;refine ct (v:=.one (.lf (.fn f))) (by rw[ho];intro x;simp) ?_ (lH.refl w) hK;simp only[execOp,ho,bu hA hc hf];rcases hfe with rfl|rfl<;>rfl
   ·subst hX;exact h.elim
  · -- binOp
   rename_i op t x y u ho;split at hX
   ·rename_i k p k' q hp hq;split at hX
    ·subst hX;exact BP ho (bu hA hc hp) (bu hA hc hq) (.inl rfl) h
    ·subst hX;exact BP ho (bu hA hc hp) (bu hA hc hq) (.inr (.inl rfl)) h
    ·split at hX
     ·rename_i hk;subst hX;exact BP ho (bu hA hc hp) (bu hA hc hq) (.inr (.inr (tU hk))) h
     ·subst hX;exact h.elim
   ·rename_i p q hp hq;split at hX
    ·subst hX;obtain⟨hle,hK⟩:=h;refine ct (v:=.one (.lf (.str (p++q)))) (by rw[ho];intro x;simp) ?_ (lH.refl w) hK;have hg:=fq (P:=P) .add t x y (.str p) (.str q) w;simp only[Lf.enc]at hg;have ep:a.eval x=.string p:=bu hA hc hp;have eq:a.eval y=.string q:=bu hA hc hq;simp only[execOp,ho,ep,eq];rw[cj,cj,hg];have hmx:IntKind.i64.max=9223372036854775807:=rfl;rw[hmx]at hle;simp[binOp,Op.stringOp,TV.enc,V1.enc,Lf.enc];omega
    ·subst hX;exact h.elim
   ·subst hX;exact h.elim
  · -- indexAddr
   rename_i t x i ho;split at hX
   ·rename_i s k n hs hn;split at hX
    ·rename_i el hel;split at hX
     ·rename_i hdd;subst hX;obtain⟨d,hd⟩:=qx.1 hdd;obtain⟨q,hq,hb,hK⟩:=h;refine ct (v:=.one (.lf (.ptr (some _)))) (by rw[ho];intro x;simp) ?_ (lH.refl w) hK;have e1:a.eval x=.slice (some q.addr) s.len s.cap:=by rw[bu hA hc hs];simp[TV.enc,V1.enc,Lf.enc,Sl.wY hq]
      have e2:a.eval i=.int k n:=bu hA hc hn;simp only[execOp,ho,e1,e2];rw[cj,yA (lx hel) hd hb]
      rfl
     ·subst hX;exact h.elim
    ·subst hX;exact h.elim
   ·rename_i p k n hp hn;split at hX
    ·rename_i len el hu;split at hX
     ·rename_i hdd;subst hX;obtain⟨d,hd⟩:=qx.1 hdd;obtain⟨hb,hK⟩:=h;refine ct (v:=.one (.lf (.ptr (some _)))) (by rw[ho];intro x;simp) ?_ (lH.refl w) hK;have e1:a.eval x=.pointer (some p.addr):=bu hA hc hp;have e2:a.eval i=.int k n:=bu hA hc hn;simp only[execOp,ho,e1,e2];rw[cj,yz hu hd hb]
      rfl
     ·subst hX;exact h.elim
    ·subst hX;exact h.elim
   ·subst hX;exact h.elim
  · -- makeSlice
   rename_i t l cp ho;split at hX
   ·rename_i el k1 n k2 m hel hl hcp;split at hX
    ·rename_i z hz;split at hX
     ·rename_i hcond;subst hX;simp only[fG,wz,zn,mX]at hcond;obtain⟨⟨hzl,hpos⟩,hby⟩:=hcond;have hpos':P.cellsOf el≠0:=λhh=>by rw[hh]at hpos;cases hpos
      obtain⟨hb,hk⟩:=h;obtain⟨b1,b2,b3⟩:=xx w (kf m.toNat z) el;have hr:=As (P:=P) (w:=w) (k1:=k1) (k2:=k2) (lx hel) hz hzl hpos' hby hb;refine ct (v:=.one (.lf (.sl _))) (by rw[ho];intro x;simp) ?_ b1.wW (hk _ b1 b2 b3);simp only[execOp,ho];have e1:a.eval l=.int k1 n:=bu hA hc hl;have e2:a.eval cp=.int k2 m:=bu hA hc hcp;rw[e1,e2,cj,hr]
      rfl
     ·subst hX;exact h.elim
    ·subst hX;exact h.elim
   ·subst hX;exact h.elim
  · -- slice
   rename_i t x lo hi mx ho;split at hX
   ·rename_i n el harr;split at hX
    ·rename_i p l hh m hs hlo hhi hmx;split at hX
     ·rename_i hcond;subst hX;simp only[fG,mX]at hcond;obtain⟨hz,hmh⟩:=hcond;have hz':P.cellsOf el≠0:=λhh=>by rw[hh]at hz;cases hz
      obtain⟨_,l',h',m',b1,b2,b3,hb,hK⟩:=h;refine ct (v:=.one (.lf (.sl _))) (by rw[ho];intro x;simp) ?_ (lH.refl w) hK;have e1:a.eval x=(Lf.ptr (some p)).enc:=bu hA hc hs;simp only[execOp,ho,e1];rw[cj,BF (N5 harr) hz' (nj hA hc hlo) (nj hA hc hhi) (nj hA hc hmx) (λhm=>by rw[hm]at hmh;simpa using hmh) b1 b2 b3 hb]
      rfl
     ·subst hX;exact h.elim
    ·subst hX;exact h.elim
   split at hX
   ·rename_i el s l hh m hel hs hlo hhi hmx;split at hX
    ·rename_i hcond;subst hX;simp only[fG,mX]at hcond;obtain⟨hz,hmh⟩:=hcond;have hz':P.cellsOf el≠0:=λhh=>by rw[hh]at hz;cases hz
     obtain⟨⟨hodd,hnz⟩,l',h',m',b1,b2,b3,hb,hK⟩:=h;refine ct (v:=.one (.lf (.sl _))) (by rw[ho];intro x;simp) ?_ (lH.refl w) hK;have e1:a.eval x=(Lf.sl s).enc:=bu hA hc hs;simp only[execOp,ho,e1];rw[cj,JJ (lx hel) hz' (nj hA hc hlo) (nj hA hc hhi) (nj hA hc hmx) (λhm=>by rw[hm]at hmh;simpa using hmh) hodd hnz b1 b2 b3 hb]
     rfl
    ·subst hX;exact h.elim
   ·rename_i s l hh hel hs hlo hhi hmx;split at hX
    ·rename_i hst;subst hX;obtain⟨l',h',b1,b2,hb,hK⟩:=h;refine ct (v:=.one (.lf (.str _))) (by rw[ho];intro x;simp) ?_ (lH.refl w) hK;have e1:a.eval x=.string s:=bu hA hc hs;simp only[execOp,ho,e1];rw[cj,GZ (H2 hst) (nj hA hc hlo) (nj hA hc hhi) (nj hA hc hmx) b1 b2 hb]
     rfl
    ·subst hX;exact h.elim
   ·subst hX;exact h.elim
  · -- convert
   rename_i src dst x ho;split at hX
   ·rename_i s hs hcond;subst hX;simp only[fG]at hcond;obtain⟨e,he1,he2⟩:=ID hcond.1;obtain⟨l,hr,hl,hK⟩:=h;refine ct (v:=.one (.lf (.str ⟨l.toArray⟩))) (by rw[ho];intro x;simp) ?_ (lH.refl w) hK;have e1:a.eval x=(Lf.sl s).enc:=bu hA hc hs;simp only[execOp,ho,e1];rw[cj,Kj he1 he2 (H2 hcond.2) hr hl]
    rfl
   ·subst hX;exact h.elim
  · -- index
   rename_i t x i ho;split at hX
   ·rename_i ls k n len el hls hn hu;have e1:a.eval x=.agg (ls.map Lf.enc).toArray:=bu hA hc hls;have e2:a.eval i=.int k n:=bu hA hc hn;split at hX
    ·rename_i c hk;subst hX;obtain⟨hb,y,hy,hK⟩:=h;obtain⟨hg,d,hd⟩:=zX hk;refine ct (v:=.one (.lf _)) (by rw[ho];intro x;simp) ?_ (lH.refl w) hK;simp only[execOp,ho,e1,e2];rw[cj,uQ (v:=.lf (c.mk y)) hu hd hb (by
      unfold u9;rw[hg];have hz:=jF (λz=>z[0]?) hy;simp only[Ks.mk,oC]at hz;split at hz
      ·simp only[zo,ve,vk]at hz;simp[←hz]
      ·simp at hz)]
     rfl
    ·rename_i c hk;subst hX;obtain⟨hb,y,hy,hK⟩:=h;obtain⟨hg,⟨d,hd⟩,hl⟩:=vA hk;refine ct (v:=.one (.agg _)) (by rw[ho];intro x;simp) ?_ (lH.refl w) hK;simp only[execOp,ho,e1,e2];rw[cj,uQ (v:=.agg (Ks.mk c y)) hu hd hb (by unfold u9;rw[hg];simp[hy])]
     rfl
    ·subst hX;exact h.elim
   ·rename_i s k n hs hn hu;subst hX;have e1:a.eval x=.string s:=bu hA hc hs;have e2:a.eval i=.int k n:=bu hA hc hn;obtain⟨b,⟨h0,hb⟩,hK⟩:=h;refine ct (v:=.one (.lf (.int .u8 _))) (by rw[ho];intro x;simp) ?_ (lH.refl w) hK;simp only[execOp,ho,e1,e2];have:(Instr.index t (.string s) (.int k n)).run P w=.ok (.int .u8 b.toNat) w:=by
     unfold Instr.index;simp[asIntOf,eZ hu,h0,hb]
    rw[cj,this]
    rfl
   ·subst hX;exact h.elim
  · -- makeMap
   rename_i t ho;subst hX;refine ct (v:=.one (.lf (.mp w.heap.size))) (by rw[ho];intro x;simp) ?_ (jQ w (.map #[] 0)).wW (h _ (jQ w (.map #[] 0)) (by simp) (by simp));simp only[execOp,ho];rw[cj]
   rfl
  · -- lookup
   rename_i t x i ho;split at hX
   ·rename_i r kk n k' cs z hs hn hm;split at hX
    ·rename_i hk;have hk:=tU hk;subst hX;rw[←hk]at hm;have e1:a.eval x=.map (some r):=bu hA hc hs;have e2:a.eval i=.int kk n:=bu hA hc hn;obtain⟨m,hM,hK⟩:=h;obtain⟨l1,l2⟩:=FQ (n:=n) hm hM;rcases hK with⟨y,hy,hK⟩|⟨hy,y,hz,hK⟩
     ·refine ct (v:=.Nx [.agg (Ks.mk cs y),.lf (.bool true)]) (by rw[ho];intro x;simp) ?_ (lH.refl w) hK;simp only[execOp,ho,e1,e2];rw[cj,l1 y hy]
      rfl
     ·refine ct (v:=.Nx [.agg (Ks.mk cs y),.lf (.bool false)]) (by rw[ho];intro x;simp) ?_ (lH.refl w) hK;simp only[execOp,ho,e1,e2];rw[cj,l2 hy,←hz]
      rfl
    ·subst hX;exact h.elim
   ·subst hX;exact h.elim
  · -- mapUpdate
   rename_i t x i v ho;split at hX
   ·rename_i r kk n ls k' cs z hs hn hv hm;split at hX
    ·rename_i hk;have hk:=tU hk;subst hX;rw[←hk]at hm;have e1:a.eval x=.map (some r):=bu hA hc hs;have e2:a.eval i=.int kk n:=bu hA hc hn;have e3:a.eval v=.agg (ls.map Lf.enc).toArray:=bu hA hc hv;obtain⟨m,y,hM,hls,hK⟩:=h;rw[hls]at e3;obtain⟨w',r1,r2,r3,r4⟩:=G7 (n:=n) (y:=y) hm hM;refine AQ (by rw[ho];intro x;simp) ?_ r2.wW (hK w' r2 r3 r4);simp only[execOp,ho,e1,e2,e3];rw[cj,r1]
     rfl
    ·subst hX;exact h.elim
   ·subst hX;exact h.elim
  · -- calls
   rename_i cl ho;have hnd:∀x,o.op≠.defer x:=by rw[ho];intro x;simp
   split at hX
   · -- append
    rename_i hcal;split at hX
    ·rename_i s x el el2 hvs h0 h1;split at hX
     ·rename_i z hz;split at hX
      ·rename_i hcond;subst hX;simp only[fG,wz,zn,mX]at hcond;obtain⟨⟨⟨hzl,hpos⟩,hby⟩,hb0⟩:=hcond;have hpos':P.cellsOf el≠0:=λhh=>by rw[hh]at hpos;cases hpos
       have hb0':P.bytesOf el≠0:=λhh=>by rw[hh]at hb0;cases hb0
       obtain⟨ty,ht0,hu⟩:=xc.1 h0;obtain⟨ty2,ht1,hu2⟩:=xc.1 h1;obtain⟨L,M,hs,hx,hlen,hK⟩:=h;obtain⟨w',s',r1,r2,r3,r4,r5,r6,r7⟩:=Fa (P:=P) (t:=o.type) ht0 ht1 (lx hu) (lx hu2) hz hzl rfl (by omega) hby hb0' hs hx hlen;refine ct (v:=.one (.lf (.sl s'))) hnd ?_ r2.wW (hK w' s' r2 r3 r4 r5 r6 r7);have e1:cl.args.map a.eval=#[(Lf.sl s).enc,(Lf.sl x).enc]:=by
        have:=pQ hA hc hvs;rw[kD,this];rfl
       simp only[execOp,ho,resolve,hcal,e1,cj,dQ,dp,invoke];show(builtin .append cl.argTypes o.type _ _).run P w=_;simp only[builtin,cj,r1,dp]
       rfl
      ·subst hX;exact h.elim
     ·subst hX;exact h.elim
    · -- made zeros
     rename_i s k n el hvs h0 h1;split at hX
     ·rename_i z hz hit;split at hX
      ·rename_i hcond;subst hX;simp only[fG,wz,zn,mX]at hcond;obtain⟨⟨⟨hzl,hpos⟩,hby⟩,hb0⟩:=hcond;have hpos':P.cellsOf el≠0:=λhh=>by rw[hh]at hpos;cases hpos
       have hb0':P.bytesOf el≠0:=λhh=>by rw[hh]at hb0;cases hb0
       obtain⟨ty,ht0,hu⟩:=xc.1 h0;obtain⟨ty2,ht1,hu2⟩:=xc.1 hit;obtain⟨k2,hu3⟩:∃k2,P.underlying ty2=some (.int k2):=by
        unfold VG at hu2;split at hu2
        ·rename_i k2 hk2;exact⟨k2,hk2⟩
        ·cases hu2
       obtain⟨L,hs,⟨hn0,hlen⟩,hK⟩:=h;obtain⟨w',s',r1,r2,r3,r4,r5,_⟩:=Dl (P:=P) (t:=o.type) (kx:=k) ht0 ht1 (lx hu) hu3 hz hzl rfl (by omega) hby hb0' hs hn0 hlen;refine ct (v:=.one (.lf (.sl s'))) hnd ?_ r2.wW (hK w' s' r2 r3 r4 r5);have e1:cl.args.map a.eval=#[(Lf.sl s).enc,Value.int k n]:=by
        have:=pQ hA hc hvs;rw[kD,this];rfl
       simp only[execOp,ho,resolve,hcal,e1,cj,dQ,dp,invoke];show(builtin .append cl.argTypes o.type _ _).run P w=_;simp only[builtin,cj,r1,dp]
       rfl
      ·subst hX;exact h.elim
     ·subst hX;exact h.elim
    ·subst hX;exact h.elim
   · -- clear
    rename_i hcal;split at hX
    ·rename_i s el hvs h0;split at hX
     ·rename_i z hz;split at hX
      ·rename_i hcond;subst hX;obtain⟨ty,ht0,hu⟩:=xc.1 h0;obtain⟨w',r1,r2,r3⟩:=IP (P:=P) (t:=o.type) ht0 (lx hu) hz (Gb hcond) h;refine ct (v:=CS) hnd ?_ r2 r3;have e1:cl.args.map a.eval=#[(Lf.sl s).enc]:=by
        have:=pQ hA hc hvs;rw[kD,this];rfl
       simp only[execOp,ho,resolve,hcal,e1,cj,dQ,dp,invoke];show(builtin .clear cl.argTypes o.type _ _).run P w=_;simp only[builtin,cj,r1,dp]
       rfl
      ·subst hX;exact h.elim
     ·subst hX;exact h.elim
    ·subst hX;exact h.elim
   · -- a function by name
    rename_i f hcal;split at hX
    ·rename_i vs hvs;subst hX;refine P1 hnd ?_ h;have e1:cl.args.map a.eval=(vs.map V1.enc).toArray:=by rw[←pQ hA hc hvs];exact kD _ _
     simp[execOp,ho,resolve,hcal,e1,Act.eval,Deferred.ofValue,invoke]
    ·subst hX;exact h.elim
   · -- a function value
    rename_i x hcal;split at hX
    ·rename_i f vs hf hvs;subst hX;have e1:cl.args.map a.eval=(vs.map V1.enc).toArray:=by rw[←pQ hA hc hvs];exact kD _ _
     obtain⟨callee,as,ts⟩:=cl;simp only at hcal;subst hcal;exact M1 ho (bu hA hc hf) e1 h
    ·subst hX;exact h.elim
   ·subst hX;exact h.elim
  ·subst hX;exact h.elim
end
end Go.X

namespace Go.X
variable {P:Program}
structure gD(ws:List Nat)(a a':Act):Prop where
 size:a'.tmps.size=a.tmps.size
 same:∀n,kZ n ws=false→a'.tmps[n]?=a.tmps[n]?
theorem gD.refl(ws:List Nat)(a:Act):gD ws a a:=⟨rfl,λ_ _=>rfl⟩
theorem rE(n:Nat)(xs ys:List Nat):kZ n (xs++ys)=(kZ n xs||kZ n ys):=by
 induction xs with
 |nil=>rfl
 |cons x xs ih=>simp[kZ,ih,Bool.or_assoc]
theorem gD.trans{xs ys:List Nat}{a b c:Act}(h:gD xs a b)(k:gD ys b c):gD (xs++ys) a c:=
 ⟨k.size.trans h.size,λn hn=>by
  rw[rE]at hn;simp only[Ck]at hn;exact(k.same n hn.2).trans (h.same n hn.1)⟩
theorem gD.mono{xs ys:List Nat}{a b:Act}(h:gD xs a b)(hs:∀n,kZ n ys=false→kZ n xs=false):gD ys a b:=
 ⟨h.size,λn hn=>h.same n (hs n hn)⟩
theorem gD.put{a a':Act}{o:Oper}{v:Value}{r:List Oper}(h:gD (fh r) (a.put o.dst v) a'):gD (fh (o::r)) a a':=by
 refine⟨by rw[h.size,size_put],λn hn=>?_⟩;simp only[fh]at hn;cases hd:o.dst with
 |none=>
  rw[hd]at hn h;exact h.same n hn
 |some d=>
  rw[hd]at hn h;simp only[kZ,Ck]at hn;rw[h.same n hn.2,ky,ay];rintro⟨rfl,_⟩;simp at hn
theorem lU.val{e:Env}{a:Act}(h:lU e a){n:Nat}{v:TV}(hv:e.get n=.val v):a.tmps[n]?=some v.enc:=by
 have:=h.ok n;rw[hv]at this;exact this
theorem tO(a:Act)(d:Option Nat)(v:Value):(a.put d v).defers=a.defers:=by cases d<;>rfl
section
variable {e:Env} {a:Act} {w:World} {r:Option Nat}
theorem DA(hA:lU e a):∀(n j:Nat) (b:Bool),a.tmps[j]?=some (.bool b)→eW (Dz e n j) a
 |0,_,_,_=>eW.nil a
 |n+1,j,b,hj=>by
  simp only[Dz];have hk:=hA.ok j;split
  ·rename_i i w v hg;rw[hg]at hk;simp only[jd]at hk;have hi:a.tmps[i]?=some (.bool w):=Cd λhne=>by
    have:=hk.2 hne;rw[hj]at this;simp[undef]at this
   exact tT (DA hA n i w hi) hi
  ·exact eW.nil a
theorem uj{ops:Array Oper}{j sj:Nat}(h:(ops.toList[j]?).bind (·.dst)=some sj)(tmps:Array Value):yielded ops tmps j=match tmps[sj]? with|some (.bool b)=>some b|_=>none:=by
 unfold yielded;have:(ops[j]?).bind (·.dst)=some sj:=by rw[←h];simp
 rw[this]
 rfl
theorem r8{o:Oper}{j:Nat}{want:Bool}(hg:o.guard=some (j,want))(y:Nat→Option Bool):Region.wanted o y=(y j==some want):=by
 unfold Region.wanted;rw[hg]
theorem HR{ops:Array Oper}{Q:Exit→Act→World→Prop}:∀(l:List Oper) (i:Nat) (e:Env) (a:Act) (w:World) (K:Env→WP),lU e a→po P ops.toList l i e K w→
  (∀e' a' w',lU e' a'→gD (fh l) a a'→a'.defers=a.defers→lH w w'→K e' w'→Q .normal a' w')→wpListIn (Fr r) 0 P ops Q l a w
 |[],i,e,a,w,K,hA,h,hQ=>hQ e a w hA (gD.refl _ _) rfl (lH.refl w) h
 |o::rest,i,e,a,w,K,hA,h,hQ=>by
  have hput:∀(e1:Env) (u:Value) (w1:World),lU e1 (a.put o.dst u)→lH w w1→po P ops.toList rest (i+1) e1 K w1→wpListIn (Fr r) 0 P ops Q rest (a.put o.dst u) w1:=by
   intro e1 u w1 hA1 hd h1;refine HR rest (i+1) e1 _ w1 K hA1 h1 λe' a' w' hA' hk hdf hdd hK=>?_;exact hQ e' a' w' hA' hk.put (hdf.trans (tO _ _ _)) (hd.trans hdd) hK
  have hone:∀(v:TV) (w1:World),lH w w1→po P ops.toList rest (i+1) (F5 e o v) K w1→wpListIn (Fr r) 0 P ops Q rest (a.put o.dst v.enc) w1:=
   λv w1 hd h1=>hput _ _ w1 (hA.put o.dst v) hd h1
  unfold wpListIn;obtain⟨Y,hX,h⟩:∃Y,po P ops.toList (o::rest) i e K=Y∧Y w:=⟨_,rfl,h⟩;unfold po at hX;have hnext:∀(v:TV) (w1:World),lH w w1→yL (parts ops.toList 6 i) e o (λe=>po P ops.toList rest (i+1) e K) v w1→wpListIn (Fr r) 0 P ops Q rest (a.put o.dst v.enc) w1:=by
   intro v w1 hd h1;obtain⟨Y,hX,h1⟩:∃Y,yL (parts ops.toList 6 i) e o (λe=>po P ops.toList rest (i+1) e K) v=Y∧Y w1:=⟨_,rfl,h1⟩;unfold yL at hX;split at hX
   ·split at hX
    ·rename_i d b hdst;subst hX;refine hone _ w1 hd ?_;unfold F5;rw[hdst];cases b<;>exact h1
    ·subst hX;exact h1.elim
   ·subst hX;exact hone v w1 hd h1
  split at hX
  ·rename_i hg;subst hX;have hw:Region.wanted o (yielded ops a.tmps)=true:=by unfold Region.wanted;rw[hg]
   rw[aC hw];exact FX hA (eW.nil a) h _ Q hnext
  ·rename_i j want hg;split at hX
   ·subst hX;exact h.elim
   ·rename_i sj hsj;have hy:=uj hsj a.tmps;have hwj:=r8 hg (yielded ops a.tmps);have hskip:(yielded ops a.tmps j==some want)=false→po P ops.toList rest (i+1) (F5 e o CS) K w→(if Region.wanted o (yielded ops a.tmps)=true then o.wpIn (Fr r) 0 P a w (wpListIn (Fr r) 0 P ops Q rest) Q
      else(∀f,o.about P w a.eval=some f→(Fr r).fn f)∧wpListIn (Fr r) 0 P ops Q rest (a.put o.dst undef) w):=by
     intro hf h1;rw[ay (by rw[hwj,hf];simp)];exact⟨λf _=>trivial,hone CS w (lH.refl w) h1⟩
    have hrun:(yielded ops a.tmps j==some want)=true→D_ P e [] o (yL (parts ops.toList 6 i) e o λe=>po P ops.toList rest (i+1) e K) w→(if Region.wanted o (yielded ops a.tmps)=true then o.wpIn (Fr r) 0 P a w (wpListIn (Fr r) 0 P ops Q rest) Q
      else(∀f,o.about P w a.eval=some f→(Fr r).fn f)∧wpListIn (Fr r) 0 P ops Q rest (a.put o.dst undef) w):=by
     intro hf h1;rw[aC (by rw[hwj,hf])];exact FX hA (eW.nil a) h1 _ Q hnext
    have hk:=hA.ok sj;split at hX
    ·split at hX
     ·rename_i b hgs;rw[hgs]at hk;simp only[jd]at hk;have hk':a.tmps[sj]?=some (.bool b):=hk;rw[hk']at hy;simp only at hy;split at hX
      ·subst hX;exact hrun (by rw[hy];rfl) h
      ·subst hX;exact hrun (by rw[hy];rfl) h
      ·rename_i hn1 hn2;subst hX;refine hskip ?_ h;rw[hy];cases b<;>cases want<;>first|rfl|exact(hn1 rfl rfl).elim|exact(hn2 rfl rfl).elim
     ·rename_i hgs;rw[hgs]at hk;simp only[jd]at hk;have hk':a.tmps[sj]?=some undef:=hk;rw[hk']at hy;subst hX;refine hskip ?_ h;rw[hy];rfl
     ·subst hX;exact h.elim
    ·split at hX
     ·rename_i hud;have hgs:e.get sj=.val (.Nx []):=by
       unfold QH at hud;split at hud
       ·assumption
       ·cases hud
      rw[hgs]at hk;simp only[jd]at hk;have hk':a.tmps[sj]?=some undef:=hk;rw[hk']at hy;subst hX;refine hskip ?_ h;rw[hy];rfl
     split at hX
     ·rename_i v d hv hd;have key:d≠sj→po P ops.toList rest (i+1) (e.put (some d) (.gv sj want v)) K w→(if Region.wanted o (yielded ops a.tmps)=true then o.wpIn (Fr r) 0 P a w (wpListIn (Fr r) 0 P ops Q rest) Q
        else(∀f,o.about P w a.eval=some f→(Fr r).fn f)∧wpListIn (Fr r) 0 P ops Q rest (a.put o.dst undef) w):=by
       intro hne h1;by_cases hw:a.tmps[sj]?=some (.bool want)
       ·rw[hw]at hy;simp only at hy;rw[aC (by rw[hwj,hy];simp)];have hc:eW ((sj,want)::Dz e 5 sj) a:=tT (DA hA 5 sj want hw) hw;refine ct (K:=λu w'=>u=v∧w'=w) (y6 hv) (y8 hA hc hv w) (lH.refl w) ⟨rfl,rfl⟩ _ Q ?_;rintro u w'-⟨rfl,rfl⟩;refine hput _ _ _ ?_ (lH.refl _) h1;rw[hd];exact hA.Mv hne want _ _ (λ_=>rfl) (λhn=>absurd hw hn)
       ·have hnw:Region.wanted o (yielded ops a.tmps)=false:=by
         rw[hwj,hy];split
         ·rename_i b hb;have:b≠want:=λhh=>hw (by rw[hb,hh]);cases b<;>cases want<;>first|rfl|exact absurd rfl this
         ·rfl
        rw[ay (by rw[hnw];simp)];refine⟨λf _=>trivial,hput _ _ _ ?_ (lH.refl _) h1⟩;rw[hd];exact hA.Mv hne want _ _ (λhh=>absurd hh hw) (λ_=>rfl)
      split at hX
      ·subst hX;exact key (F9 (by assumption)) h
      ·subst hX;exact key (F9 (by assumption)) h
      ·subst hX;exact h.elim
     ·subst hX;exact h.elim
end
end Go.X

namespace Go.X
variable {P:Program}
theorem sc(m i j:Nat):bit (qP m i) j=(bit m j||decide (i=j)):=by
 unfold bit qP;rw[Nat.testBit_or,Nat.one_shiftLeft,Nat.testBit_two_pow]
theorem CO{a b:Nat}:G0 a b=true↔∀k,bit a k=true→bit b k=true:=by
 unfold G0 bit;constructor
 ·intro h k hk;have h:=px h;rw[←h,Nat.testBit_and]at hk;simp at hk;exact hk.2
 ·intro h;have:a&&&b=a:=Nat.eq_of_testBit_eq λk=>by
   rw[Nat.testBit_and];cases hk:Nat.testBit a k with
   |false=>simp
   |true=>simp[h k hk]
  rw[this];exact CA a
theorem vM{l:List Edge}{k:Nat}:bit (vL l) k=true↔∃e∈l,Region.binds .any e=true∧e.on=k:=by
 induction l with
 |nil=>simp[vL,bit]
 |cons e l ih=>
  simp only[vL];cases hb:Region.binds .any e with
  |true=>simp only[];rw[sc];simp[ih,hb];constructor<;>(rintro(h|h)<;>simp[h])
  |false=>simp[ih,hb]
theorem D1{n:Nat}{l:List Nat}:kZ n l=true↔n∈l:=by
 induction l with
 |nil=>simp[kZ]
 |cons x l ih=>
  simp only[kZ,zy,ih,dO];constructor
  ·rintro(h|h)
   ·exact .inl (px h).symm
   ·exact .inr h
  ·rintro(h|h)
   ·left;rw[h];exact CA x
   ·exact .inr h
theorem AZ(sl:List Nat):∀(e:Env) (n i:Nat),(mT sl n e).get i=if kZ (n+i) sl then e.get i else .un
 |[],n,i=>by simp[mT,Env.get]
 |x::e,n,0=>by cases h:kZ n sl<;>simp[mT,Env.get,h]
 |x::e,n,i+1=>by
  simp only[mT,Env.get];rw[AZ sl e (n+1) i,show n+1+i=n+(i+1) by omega]
theorem A0(sl:List Nat):∀(e:Env) (n:Nat),(mT sl n e).length=e.length
 |[],_=>rfl
 |_::e,n=>by simp[mT,A0 sl e]
theorem xZ{sl:List Nat}{e:Env}{a:Act}(hl:e.length=a.tmps.size)(h:∀s∈sl,jd a s (e.get s)):lU (mT sl 0 e) a:=by
 refine⟨by rw[A0,hl],λi=>?_⟩;rw[AZ,nT];split
 ·rename_i hm;exact h i (D1.1 hm)
 ·trivial
theorem pB(e:Env)(d:Option Nat)(v:TV):(qf e d v).length=e.length:=by
 cases d<;>simp[qf,Env.uT]
theorem mF(e:Env)(d:Option Nat)(v:TV)(i:Nat):(qf e d v).get i=if d=some i∧i<e.length then .val v else e.get i:=by
 cases d with
 |none=>simp[qf]
 |some d=>
  simp only[qf];rw[Env.uM];by_cases h:i=d
  ·subst h;simp
  ·rw[ay (λhh=>h hh.1),ay (λhh=>h (mD hh.1).symm)]
theorem uO{i ai:Nat}{sl:List Nat}:∀{l:List Oper} {j:Nat},Pr i ai sl l j=true→∀k o s,l[k]?=some o→o.dst=some s→s∈sl→
  bit ai (j+k)=true∨(bit (iI o) i=true∧TR o.op=false)∨(i=j+k∧TR o.op=false)
 |[],j,_,k,o,s,h,_,_=>by simp at h
 |x::r,j,h,k,o,s,hk,hd,hs=>by
  simp only[Pr,fG]at h;cases k with
  |zero=>
   simp at hk;subst hk;have h1:=h.1;rw[hd]at h1;simp only[zy,mX,fG]at h1;have hm:kZ s sl=true:=D1.2 hs;rcases h1 with((h1|h1)|h1)|h1
   ·rw[hm]at h1;cases h1
   ·exact .inl h1
   ·exact .inr (.inl h1)
   ·exact .inr (.inr ⟨px h1.1,h1.2⟩)
  |succ k=>
   have:=uO h.2 k o s (by simpa using hk) hd hs;rw[show j+1+k=j+(k+1) by omega]at this;exact this
theorem Hm{V C:Nat}:∀{l:List Oper} {j:Nat},O9 V C l j=true→∀k o,l[k]?=some o→bit V (j+k)=true∨bit C (j+k)=true∨G0 (iI o) V=false
 |[],_,_,k,o,h=>by simp at h
 |x::r,j,h,k,o,hk=>by
  simp only[O9,fG,zy,mX]at h;cases k with
  |zero=>simp at hk;subst hk;rcases h.1 with(h1|h1)|h1<;>simp[h1]
  |succ k=>
   have:=Hm h.2 k o (by simpa using hk);rw[show j+1+k=j+(k+1) by omega]at this;exact this
theorem DN{V:Nat}:∀{l:List Oper} {j:Nat},DM V l j=true→∀k,k<l.length→bit V (j+k)=true
 |[],_,_,k,h=>by simp at h
 |x::r,j,h,k,hk=>by
  simp only[DM,fG]at h;cases k with
  |zero=>exact h.1
  |succ k=>
   have:=DN h.2 k (by simpa using hk);rw[show j+1+k=j+(k+1) by omega]at this;exact this
theorem DG{d:Nat}:∀{l:List Oper},Hs d l=false→∀o∈l,o.dst≠some d
 |[],_,o,h=>absurd h (by simp)
 |x::r,h,o,ho=>by
  simp only[Hs,Ck]at h;rcases dO.1 ho with rfl|ho
  ·intro hd;rw[hd]at h;simp at h
  ·exact DG h.2 o ho
theorem ri:∀{l:List Oper},iY l=true→∀(i j:Nat) (o o':Oper) (s:Nat),l[i]?=some o→l[j]?=some o'→o.dst=some s→o'.dst=some s→i=j
 |[],_,i,_,_,_,_,h,_,_,_=>by simp at h
 |x::r,h,i,j,o,o',s,hi,hj,hd,hd'=>by
  simp only[iY,fG]at h;have no:∀k (y:Oper),x.dst=some s→r[k]?=some y→y.dst=some s→False:=λk y hx hy hys=>by
   have h1:=h.1;rw[hx]at h1;exact DG (by simpa using h1) y (kQ hy) hys
  cases i with
  |zero=>
   simp at hi;subst hi;cases j with
   |zero=>rfl
   |succ j=>exact(no j o' hd (by simpa using hj) hd').elim
  |succ i=>
   cases j with
   |zero=>simp at hj;subst hj;exact(no i o hd' (by simpa using hi) hd).elim
   |succ j=>rw[ri h.2 i j o o' s (by simpa using hi) (by simpa using hj) hd hd']
theorem tK{acc:List Nat}:∀{l:List Edge} {k:Nat},bit (Dk acc l) k=true→∃e∈l,Region.binds .any e=true∧(e.on=k∨bit ((acc[e.on]?).getD 0) k=true)
 |[],k,h=>by simp[Dk,bit]at h
 |e::l,k,h=>by
  simp only[Dk]at h;cases hb:Region.binds .any e with
  |true=>
   rw[hb]at h;simp only at h;have h':bit (qP (Dk acc l) e.on) k=true∨bit ((acc[e.on]?).getD 0) k=true:=by
    unfold bit at h⊢;rw[Nat.testBit_or]at h;simpa using h
   rw[sc]at h';simp only[zy,gK]at h';rcases h' with(h'|h')|h'
   ·obtain⟨e',h1,h2,h3⟩:=tK h';exact⟨e',nS _ h1,h2,h3⟩
   ·exact⟨e,qz,hb,.inl h'⟩
   ·exact⟨e,qz,hb,.inr h'⟩
  |false=>
   rw[hb]at h;obtain⟨e',h1,h2,h3⟩:=tK h;exact⟨e',nS _ h1,h2,h3⟩
theorem Hh{D:Nat→Prop}:∀(l:List Oper) (acc:List Nat) (all:List Oper),all=all.take acc.length++l→acc.length≤all.length→
  (∀i o,all[i]?=some o→D i→∀k,bit (iI o) k=true→D k)→
  (∀i,D i→∀k,bit ((acc[i]?).getD 0) k=true→D k)→∀i,D i→∀k,bit (((N3 l acc)[i]?).getD 0) k=true→D k
 |[],acc,all,_,_,_,h,i,hi,k,hk=>h i hi k hk
 |o::r,acc,all,he,hl,hc,h,i,hi,k,hk=>by
  simp only[N3]at hk;have hlt:acc.length<all.length:=by
   have:=jF List.length he;simp at this;omega
  have ho:all[acc.length]?=some o:=by
   have h1:(all.take acc.length).length=acc.length:=(by simp;omega);rw[he,tn (by omega),h1];simp
  refine Hh r (acc++[Dk acc o.after.toList]) all ?_ (by simp;omega) hc ?_ i hi k hk
  ·simp only[iE,qy];rw[lF,ho];simp only[Option.toList_some,kR,Cj];exact he
  ·intro i hi k hk;by_cases hia:i<acc.length
   ·rw[oB hia]at hk;exact h i hi k hk
   ·rw[tn (by omega)]at hk;by_cases hie:i=acc.length
    ·subst hie;simp at hk;obtain⟨e,h1,h2,h3⟩:=tK hk;have hD:D e.on:=hc _ o ho hi e.on (vM.2 ⟨e,h1,h2,rfl⟩);rcases h3 with h3|h3
     ·rw[←h3];exact hD
     ·exact h _ hD k h3
    ·have:i-acc.length≠0:=(by omega);rw[List.getElem?_singleton,ay this]at hk;simp[bit]at hk
theorem BM{w:World}{m:Nat}{A:WP}:∀{l:C1},Fs l m A w→A w∧∀i p ls,(i,p,ls)∈l→bit m i=false→Reads w p.b p.o ls
 |[],h=>⟨h,λ_ _ _ hh=>absurd hh (by simp)⟩
 |(i,p,ls)::r,h=>by
  simp only[Fs]at h;cases hb:bit m i with
  |true=>
   rw[hb]at h;obtain⟨h1,h2⟩:=BM (l:=r) h;refine⟨h1,λj q ms hh hj=>?_⟩;rcases dO.1 hh with hh|hh
   ·cases hh;rw[hb]at hj;cases hj
   ·exact h2 j q ms hh hj
  |false=>
   rw[hb]at h;obtain⟨h1,h2⟩:=BM (l:=r) h.2;refine⟨h1,λj q ms hh hj=>?_⟩;rcases dO.1 hh with hh|hh
   ·cases hh;exact h.1
   ·exact h2 j q ms hh hj
end Go.X

namespace Go.X
variable {P:Program}
def Const(P:Program)(e:Env)(o:Oper)(v:TV):Prop:=∀a,lU e a→∀w,(execOp a.eval o).run P w=.ok (.value v.enc) w
section
variable {e:Env} {w:World}
theorem BN{o:Oper}{K:TV→WP}{op:BinOp}{t u:TypeId}{x y:Operand}{k k':IntKind}{p q:Int}(ho:o.op=.binOp op t x y u)(hx:nJ e [] x=some (.one (.lf (.int k p))))(hy:nJ e [] y=some (.one (.lf (.int k' q))))
  (hk:op=.shl∨op=.shr∨k=k') (h:BO op y k p q K w):∃v,K v w∧Const P e o v:=by
 have hrun:∀v,(∀w,(binOp op t (.int k p) (.int k' q)).run P w=.ok v w)→∀a,lU e a→∀w,(execOp a.eval o).run P w=.ok (.value v) w:=by
  intro v hv a hA w;have hg:=fq (P:=P) op t x y (.int k p) (.int k' q) w;have ex:a.eval x=.int k p:=bu hA (eW.nil a) hx;have ey:a.eval y=.int k' q:=bu hA (eW.nil a) hy;simp only[Lf.enc]at hg;simp only[execOp,ho,ex,ey];rw[cj,cj,hg];simp[hv]
 have hnz:me y=true→q≠0:=by
  intro hz;unfold me at hz;split at hz
  ·rename_i k'' m;simp only[nJ,tN,yE,qA,TV.one.injEq,V1.lf.injEq,Lf.int.injEq]at hy;obtain⟨_,rfl⟩:=hy;split at hz
   ·cases hz
   ·rename_i hd;exact bQ hd
  ·cases hz
 cases op with
 |quo=>
  have e:k=k':=by rcases hk with hk|hk|hk;cases hk;cases hk;exact hk
  subst e;simp only[BO]at h;cases hz:me y with
  |true=>rw[hz]at h;exact⟨_,h,hrun _ λw=>(ou (hnz hz) w).1 rfl⟩
  |false=>rw[hz]at h;exact⟨_,h.2,hrun _ λw=>(ou h.1 w).1 rfl⟩
 |rem=>
  have e:k=k':=by rcases hk with hk|hk|hk;cases hk;cases hk;exact hk
  subst e;simp only[BO]at h;cases hz:me y with
  |true=>rw[hz]at h;exact⟨_,h,hrun _ λw=>(ou (hnz hz) w).2 rfl⟩
  |false=>rw[hz]at h;exact⟨_,h.2,hrun _ λw=>(ou h.1 w).2 rfl⟩
 |shl=>exact⟨_,h.2,hrun _ λw=>(sN h.1 w).1 rfl⟩
 |shr=>exact⟨_,h.2,hrun _ λw=>(sN h.1 w).2 rfl⟩
 |_=>exact h.elim
theorem B9{o:Oper}{K:TV→WP}(h:D_ P e [] o K w)(hp:w_ P e [] o=none)
  (hc:(∃x,o.op=.nilCheck x)∨(∃t x i,o.op=.indexAddr t x i)∨(∃t x i,o.op=.index t x i)∨∃op t x y u,o.op=.binOp op t x y u):∃v,K v w∧Const P e o v:=by
 obtain⟨Y,hX,h⟩:∃Y,D_ P e [] o K=Y∧Y w:=⟨_,rfl,h⟩;unfold D_ at hX;rw[hp]at hX;simp only at hX;rcases hc with⟨x,ho⟩|⟨t,x,i,ho⟩|⟨t,x,i,ho⟩|⟨op,t,x,y,u,ho⟩
 ·rw[ho]at hX;simp only at hX;split at hX
  ·rename_i p hp;subst hX;obtain⟨q,hq,hK⟩:=h;subst hq;refine⟨_,hK,λa hA w=>?_⟩;simp only[execOp,ho,bu hA (eW.nil a) hp]
   rfl
  ·rename_i f hf;subst hX;obtain⟨⟨n,fi,ca,hfe⟩,hK⟩:=h;refine⟨_,hK,λa hA w=>?_⟩;simp only[execOp,ho,bu hA (eW.nil a) hf];rcases hfe with rfl|rfl<;>rfl
  ·subst hX;exact h.elim
 ·rw[ho]at hX;simp only at hX;split at hX
  ·rename_i s k n hs hn;split at hX
   ·rename_i el hel;split at hX
    ·rename_i hdd;subst hX;obtain⟨d,hd⟩:=qx.1 hdd;obtain⟨q,hq,hb,hK⟩:=h;refine⟨_,hK,λa hA w=>?_⟩;have e1:a.eval x=.slice (some q.addr) s.len s.cap:=by rw[bu hA (eW.nil a) hs];simp[TV.enc,V1.enc,Lf.enc,Sl.wY hq]
     have e2:a.eval i=.int k n:=bu hA (eW.nil a) hn;simp only[execOp,ho,e1,e2];rw[cj,yA (lx hel) hd hb]
     rfl
    ·subst hX;exact h.elim
   ·subst hX;exact h.elim
  ·rename_i p k n hp hn;split at hX
   ·rename_i len el hu;split at hX
    ·rename_i hdd;subst hX;obtain⟨d,hd⟩:=qx.1 hdd;obtain⟨hb,hK⟩:=h;refine⟨_,hK,λa hA w=>?_⟩;have e1:a.eval x=.pointer (some p.addr):=bu hA (eW.nil a) hp;have e2:a.eval i=.int k n:=bu hA (eW.nil a) hn;simp only[execOp,ho,e1,e2];rw[cj,yz hu hd hb]
     rfl
    ·subst hX;exact h.elim
   ·subst hX;exact h.elim
  ·subst hX;exact h.elim
 ·rw[ho]at hX;simp only at hX;split at hX
  ·rename_i ls k n len el hls hn hu;split at hX
   ·rename_i c hk;subst hX;obtain⟨hb,y,hy,hK⟩:=h;obtain⟨hg,d,hd⟩:=zX hk;refine⟨_,hK,λa hA w=>?_⟩;have e1:a.eval x=.agg (ls.map Lf.enc).toArray:=bu hA (eW.nil a) hls;have e2:a.eval i=.int k n:=bu hA (eW.nil a) hn;simp only[execOp,ho,e1,e2];rw[cj,uQ (v:=.lf (c.mk y)) hu hd hb (by
     unfold u9;rw[hg];have hz:=jF (λz=>z[0]?) hy;simp only[Ks.mk,oC]at hz;split at hz
     ·simp only[zo,ve,vk]at hz;simp[←hz]
     ·simp at hz)]
    rfl
   ·rename_i c hk;subst hX;obtain⟨hb,y,hy,hK⟩:=h;obtain⟨hg,⟨d,hd⟩,hl⟩:=vA hk;refine⟨_,hK,λa hA w=>?_⟩;have e1:a.eval x=.agg (ls.map Lf.enc).toArray:=bu hA (eW.nil a) hls;have e2:a.eval i=.int k n:=bu hA (eW.nil a) hn;simp only[execOp,ho,e1,e2];rw[cj,uQ (v:=.agg (Ks.mk c y)) hu hd hb (by unfold u9;rw[hg];simp[hy])]
    rfl
   ·subst hX;exact h.elim
  ·rename_i s k n hs hn hu;subst hX;obtain⟨b,⟨h0,hb⟩,hK⟩:=h;refine⟨_,hK,λa hA w=>?_⟩;have e1:a.eval x=.string s:=bu hA (eW.nil a) hs;have e2:a.eval i=.int k n:=bu hA (eW.nil a) hn;simp only[execOp,ho,e1,e2];have:(Instr.index t (.string s) (.int k n)).run P w=.ok (.int .u8 b.toNat) w:=by
    unfold Instr.index;simp[asIntOf,eZ hu,h0,hb]
   rw[cj,this]
   rfl
  ·subst hX;exact h.elim
 ·rw[ho]at hX;simp only at hX;split at hX
  ·rename_i k p k' q hp hq;split at hX
   ·subst hX;exact BN ho hp hq (.inl rfl) h
   ·subst hX;exact BN ho hp hq (.inr (.inl rfl)) h
   ·split at hX
    ·rename_i hk;subst hX;exact BN ho hp hq (.inr (.inr (tU hk))) h
    ·subst hX;exact h.elim
  ·rename_i p q hp hq;split at hX
   ·subst hX;obtain⟨hle,hK⟩:=h;refine⟨_,hK,λa hA w=>?_⟩;have hg:=fq (P:=P) .add t x y (.str p) (.str q) w;simp only[Lf.enc]at hg;have ep:a.eval x=.string p:=bu hA (eW.nil a) hp;have eq:a.eval y=.string q:=bu hA (eW.nil a) hq;simp only[execOp,ho,ep,eq];rw[cj,cj,hg];have hmx:IntKind.i64.max=9223372036854775807:=rfl;rw[hmx]at hle;simp[binOp,Op.stringOp,TV.enc,V1.enc,Lf.enc];omega
   ·subst hX;exact h.elim
  ·subst hX;exact h.elim
def NY(P:Program)(e:Env)(o:Oper)(v:TV)(l:Option (Pt×List Lf)):Prop:=∀a,lU e a→∀w,(∀p ls,l=some (p,ls)→Reads w p.b p.o ls)→(execOp a.eval o).run P w=.ok (.value v.enc) w
theorem TQ{o:Oper}{K:TV→Option (Pt×List Lf)→WP}(h:Pk P e o K w):(∀x,o.op≠.defer x)∧∃v l,K v l w∧(∀p ls,l=some (p,ls)→Reads w p.b p.o ls)∧NY P e o v l:=by
 obtain⟨Y,hX,h⟩:∃Y,Pk P e o K=Y∧Y w:=⟨_,rfl,h⟩;unfold Pk at hX;have noR:∀p ls,(none:Option (Pt×List Lf))=some (p,ls)→Reads w p.b p.o ls:=λ_ _ hh=>by cases hh
 split at hX
 ·rename_i v hv;subst hX;exact⟨y6 hv,v,none,h,noR,λa hA w _=>y8 hA (eW.nil a) hv w⟩
 ·rename_i hpn;split at hX
  ·rename_i t x ho;refine⟨by rw[ho];intro x;simp,?_⟩;split at hX
   ·rename_i p hp;have hrun:∀a,lU e a→∀w v,(loadVar t p.addr).run P w=.ok v w→(execOp a.eval o).run P w=.ok (.value v) w:=by
     intro a hA w v hv;simp only[execOp,ho,Instr.loadAt,bu hA (eW.nil a) hp,TV.enc,V1.enc,Lf.enc,tw,Instr.sureAddr,cj,dQ,dp,hv]
    split at hX
    ·rename_i k hk;subst hX;obtain⟨y,hr,hK⟩:=h;obtain⟨hg,d,hd⟩:=zX hk;refine⟨_,_,hK,λp' ls hh=>by cases hh;exact hr,λa hA w' hw=>hrun a hA w' _ (tY hd hg (hw p _ rfl))⟩
    ·rename_i ks hk;subst hX;obtain⟨y,hr,hK⟩:=h;obtain⟨hg,⟨d,hd⟩,hl⟩:=vA hk;refine⟨_,_,hK,λp' ls hh=>by cases hh;exact hr,λa hA w' hw=>hrun a hA w' _ (rA hd hg (by rw[Ks.len];exact hl) (hw p _ rfl))⟩
    ·subst hX;exact h.elim
   ·subst hX;exact h.elim
  ·rename_i x ho;subst hX;obtain⟨v,h1,h2⟩:=B9 h hpn (.inl ⟨x,ho⟩);exact⟨by rw[ho];intro x;simp,v,none,h1,noR,λa hA w _=>h2 a hA w⟩
  ·rename_i t x i ho;subst hX;obtain⟨v,h1,h2⟩:=B9 h hpn (.inr (.inl ⟨t,x,i,ho⟩));exact⟨by rw[ho];intro x;simp,v,none,h1,noR,λa hA w _=>h2 a hA w⟩
  ·rename_i t x i ho;subst hX;obtain⟨v,h1,h2⟩:=B9 h hpn (.inr (.inr (.inl ⟨t,x,i,ho⟩)));exact⟨by rw[ho];intro x;simp,v,none,h1,noR,λa hA w _=>h2 a hA w⟩
  ·rename_i op t x y u ho;subst hX;obtain⟨v,h1,h2⟩:=B9 h hpn (.inr (.inr (.inr ⟨op,t,x,y,u,ho⟩)));exact⟨by rw[ho];intro x;simp,v,none,h1,noR,λa hA w _=>h2 a hA w⟩
  ·subst hX;exact h.elim
end
end Go.X

namespace Go.X
variable {P:Program}
section
variable {r:Option Nat} {ops:Array Oper} {Q:Exit→Act→World→Prop}
def ja(L:Array Bool)(i:Nat):Prop:=L[i]?=some true
def Yld(P:Program)(r:Option Nat)(ops:Array Oper)(Q:Exit→Act→World→Prop)(i:Nat)(o:Oper)(sl:List Nat)(e:Env)(v:TV)(R:Option (Pt×List Lf)):Prop:=
 ∀(a:Act) (w:World) (K:Act→World→Prop),(∀s∈sl,jd a s (e.get s))→e.length=a.tmps.size→(∀p ls,R=some (p,ls)→Reads w p.b p.o ls)→K (a.put o.dst v.enc) w→wpOpIn (Fr r) 0 P ops Q i K a w
structure J0(P:Program)(r:Option Nat)(ops:Array Oper)(Q:Exit→Act→World→Prop)(e:Env)(ec:C1)(w:World)(i:Nat)(o:Oper)(sl:List Nat)(v:TV)(R:Option (Pt×List Lf)):Prop where
 kE:ops[i]?=some o
 fl:TR o.op=true
 WK:Hy ops.toList i o sl=true
 yld:Yld P r ops Q i o sl e v R
 rd:∀p ls,R=some (p,ls)→Reads w p.b p.o ls
 ld:∀p ls,R=some (p,ls)→(i,p,ls)∈ec
 val:∀d,o.dst=some d→d<e.length→e.get d=.val v
structure Inv(P:Program)(r:Option Nat)(ops:Array Oper)(Q:Exit→Act→World→Prop)(a0:Act)(w0:World)(L:Array Bool)(V:Nat)(e:Env)(ec:C1)(ord:List Nat)(a:Act)(w:World):Prop where
 sz:L.size=ops.size
 bits:∀i,bit V i=true↔i∈ord
 lt:∀i∈ord,i<ops.size
 sub:∀i,ja L i→i∈ord
 WH:∀i o,ops[i]?=some o→ja L i→∀k,bit (iI o) k=true→ja L k
 Mi:∀pre i post o,ord=pre++i::post→ops[i]?=some o→∀k,bit (iI o) k=true→k∈pre
 qM:∀i∈ord,¬ja L i→∃o sl v R,J0 P r ops Q e ec w i o sl v R
 len:e.length=a.tmps.size
 slot:∀s,(∃j o,j∈ord∧¬ja L j∧ops[j]?=some o∧o.dst=some s)∨jd a s (e.get s)
 ti:∀s,e.get s=.un∨∃v,e.get s=.val v
 bk:gD (fh ops.toList) a0 a
 df:a.defers=a0.defers
 wW:lH w0 w
theorem Inv.V9{a0 a:Act}{w0 w:World}{L:Array Bool}{V:Nat}{e:Env}{ec:C1}{ord:List Nat}(h:Inv P r ops Q a0 w0 L V e ec ord a w){i:Nat}{o:Oper}(hi:i∈ord)(ho:ops[i]?=some o){k:Nat}(hk:bit (iI o) k=true):k∈ord:=by
 obtain⟨pre,post,hp⟩:=List.append_of_mem hi;rw[hp];exact za _ (h.Mi pre i post o hp ho k hk)
theorem iK{i:Nat}:ops.toList[i]?=ops[i]?:=by simp
theorem AG{e:Env}(h:∀s,e.get s=.un∨∃v,e.get s=.val v){a a':Act}{s:Nat}(hs:a'.tmps[s]?=a.tmps[s]?)(hk:jd a s (e.get s)):jd a' s (e.get s):=by
 rcases h s with hh|⟨v,hh⟩
 ·rw[hh];trivial
 ·rw[hh]at hk⊢;simp only[jd]at*;rw[hs];exact hk
theorem Inv.QV{a0 a:Act}{w0 w:World}{L:Array Bool}{V:Nat}{e:Env}{ec:C1}{ord:List Nat}(h:Inv P r ops Q a0 w0 L V e ec ord a w){i:Nat}{o:Oper}{sl:List Nat}(hh:Hy ops.toList i o sl=true)
  (hr:∀k,bit (iI o) k=true→ja L k):∀s∈sl,jd a s (e.get s):=by
 intro s hs;rcases h.slot s with⟨j,oj,hj,hnd,hoj,hd⟩|hk
 ·exfalso;rcases uO hh j oj s (by rw[iK];exact hoj) hd hs with h1|⟨h1,h2⟩|⟨h1,h2⟩
  ·rw[nT]at h1;exact hnd (hr j h1)
  ·obtain⟨o',sl',v',R',hp⟩:=h.qM j hj hnd;have:o'=oj:=by have:=hp.kE;rw[hoj]at this;exact(mD this).symm
   subst this;rw[hp.fl]at h2;cases h2
  ·obtain⟨o',sl',v',R',hp⟩:=h.qM j hj hnd;have:o'=oj:=by have:=hp.kE;rw[hoj]at this;exact(mD this).symm
   subst this;rw[hp.fl]at h2;cases h2
 ·exact hk
theorem DO{o:Oper}{e:Env}{go skip:WP}{w:World}(h:tR ops.toList o e go skip w):
  (go w∧∀a,lU e a→Region.wanted o (yielded ops a.tmps)=true)∨(skip w∧∀a,lU e a→Region.wanted o (yielded ops a.tmps)=false):=by
 obtain⟨Y,hX,h⟩:∃Y,tR ops.toList o e go skip=Y∧Y w:=⟨_,rfl,h⟩;unfold tR at hX;split at hX
 ·rename_i hg;subst hX;exact .inl ⟨h,λa _=>by unfold Region.wanted;rw[hg]⟩
 ·rename_i j want hg;split at hX
  ·subst hX;exact h.elim
  ·rename_i sj hsj;split at hX
   ·rename_i b hb;have hw:∀a,lU e a→Region.wanted o (yielded ops a.tmps)=(some b==some want):=λa hA=>by
     have hv:a.tmps[sj]?=some (.bool b):=hA.val hb;rw[r8 hg,uj hsj,hv]
    split at hX
    ·subst hX;exact .inl ⟨h,λa hA=>by rw[hw a hA];rfl⟩
    ·subst hX;exact .inl ⟨h,λa hA=>by rw[hw a hA];rfl⟩
    ·rename_i hn1 hn2;subst hX;refine .inr ⟨h,λa hA=>?_⟩;rw[hw a hA];cases b<;>cases want<;>first|rfl|exact(hn1 rfl rfl).elim|exact(hn2 rfl rfl).elim
   ·rename_i hb;subst hX;refine .inr ⟨h,λa hA=>?_⟩;have hv:a.tmps[sj]?=some undef:=hA.val hb;rw[r8 hg,uj hsj,hv]
    rfl
   ·subst hX;exact h.elim
theorem Kh{g:Bool}{o:Oper}{e:Env}{k:Env→WP}{v:TV}{w:World}(h:Rx g o e k v w):k (qf e o.dst v) w:=by
 cases g with
 |false=>exact h
 |true=>
  obtain⟨Y,hX,h⟩:∃Y,Rx true o e k v=Y∧Y w:=⟨_,rfl,h⟩;simp only[Rx]at hX;split at hX
  ·rename_i b;subst hX;cases b<;>exact h
  ·subst hX;exact h
theorem we(a:Act)(d:Option Nat)(v:Value){s:Nat}(h:d≠some s):(a.put d v).tmps[s]?=a.tmps[s]?:=by
 cases d with
 |none=>rfl
 |some d=>rw[ky,ay (λhh=>h (by rw[hh.1]))]
theorem Ej{a0 a:Act}{i:Nat}{o:Oper}{v:Value}(hi:ops[i]?=some o)(h:gD (fh ops.toList) a0 a):gD (fh ops.toList) a0 (a.put o.dst v):=by
 refine⟨by rw[size_put,h.size],λn hn=>?_⟩;have:o.dst≠some n:=by
  intro hd;have hm:o∈ops.toList:=by have:=Array.mem_of_getElem? hi;exact Array.mem_toList_iff.2 this
  have:kZ n (fh ops.toList)=true:=by
   clear hn h hi;generalize ops.toList=l at hm
   induction l with
   |nil=>cases hm
   |cons x l ih=>
    rcases dO.1 hm with rfl|hm
    ·simp only[fh,hd,kZ,CA,Bool.true_or]
    ·simp only[fh];split
     ·simp only[kZ,ih hm,Bool.or_true]
     ·exact ih hm
  rw[this]at hn;cases hn
 rw[we a o.dst v this,h.same n hn]
theorem Inv.take{a0 a:Act}{w0 w:World}{L:Array Bool}{V:Nat}{e:Env}{ec:C1}{ord:List Nat}(h:Inv P r ops Q a0 w0 L V e ec ord a w){i:Nat}{o:Oper}{sl:List Nat}{v:TV}{R:Option (Pt×List Lf)}
  (hi:i∈ord) (hp:J0 P r ops Q e ec w i o sl v R) (hnd:¬ja L i) (hr:∀k,bit (iI o) k=true→ja L k):
  Inv P r ops Q a0 w0 (L.setIfInBounds i true) V e ec ord (a.put o.dst v.enc) w:=by
 have hlt:=h.lt i hi;have hD:∀k,ja (L.setIfInBounds i true) k↔k=i∨ja L k:=λk=>by
  unfold ja;by_cases hk:k=i
  ·subst hk;simp[h.sz,hlt]
  ·rw[F6 (lS hk)];simp[hk]
 refine⟨by simp[h.sz],h.bits,h.lt,λk hk=>?_,λk ok hok hk m hm=>?_,h.Mi,λk hk hnk=>h.qM k hk (λhh=>hnk ((hD k).2 (.inr hh))),by rw[size_put,h.len],λs=>?_,h.ti,Ej hp.kE h.bk,by rw[tO,h.df],h.wW⟩
 ·rcases(hD k).1 hk with rfl|hk
  ·exact hi
  ·exact h.sub k hk
 ·rcases(hD k).1 hk with rfl|hk
  ·have:ok=o:=(by rw[hp.kE]at hok;exact(mD hok).symm);subst this;exact(hD m).2 (.inr (hr m hm))
  ·exact(hD m).2 (.inr (h.WH k ok hok hk m hm))
 ·by_cases hds:o.dst=some s
  ·right;by_cases hl:s<e.length
   ·rw[hp.val s hds hl];simp only[jd];rw[hds,ky,aC ⟨rfl,by rw[←h.len];exact hl⟩]
   ·rw[Env.yv e s (Nat.not_lt.1 hl)];trivial
  ·rcases h.slot s with⟨j,oj,hj,hnj,hoj,hdj⟩|hk
   ·by_cases hji:j=i
    ·subst hji;have:oj=o:=by rw[hp.kE]at hoj;exact(mD hoj).symm
     subst this;exact absurd hdj hds
    ·exact .inl ⟨j,oj,hj,λhh=>((hD j).1 hh).elim hji hnj,hoj,hdj⟩
   ·exact .inr (AG h.ti (we a o.dst _ hds) hk)
theorem zV{e:Env}(h:∀s,e.get s=.un∨∃v,e.get s=.val v)(d:Option Nat)(v:TV):∀s,(qf e d v).get s=.un∨∃u,(qf e d v).get s=.val u:=by
 intro s;rw[mF];split
 ·exact .inr ⟨v,rfl⟩
 ·exact h s
theorem J0.ahead{e:Env}{ec lds':C1}{w w':World}{j:Nat}{oj:Oper}{sl:List Nat}{v u:TV}{R:Option (Pt×List Lf)}{d:Option Nat}(h:J0 P r ops Q e ec w j oj sl v R)
  (hsl:∀s∈sl,d≠some s) (hne:∀s,oj.dst=some s→d≠some s) (hl:∀x∈ec,x∈lds') (hw:∀p ls,R=some (p,ls)→Reads w' p.b p.o ls):J0 P r ops Q (qf e d u) lds' w' j oj sl v R:=by
 refine⟨h.kE,h.fl,h.WK,λa w K h1 h2 h3 h4=>h.yld a w K (λs hs=>?_) (by rw[←h2,pB]) h3 h4,hw,λp ls hh=>hl _ (h.ld p ls hh),λs hs hlt=>?_⟩
 ·have:=h1 s hs;rw[mF,ay (λhh=>hsl s hs hh.1)]at this;exact this
 ·rw[pB]at hlt;rw[mF,ay (λhh=>hne s hs hh.1)];exact h.val s hs hlt
theorem Inv.VK{a0 a:Act}{w0 w:World}{L:Array Bool}{V:Nat}{e:Env}{ec lds':C1}{ord:List Nat}(h:Inv P r ops Q a0 w0 L V e ec ord a w)(hdis:iY ops.toList=true){i:Nat}{o:Oper}{sl:List Nat}{v:TV}{R:Option (Pt×List Lf)}
  (ho:ops[i]?=some o) (hok:Mb ops.toList i o sl V=true) (hF:TR o.op=true) (hl:∀x∈ec,x∈lds') (hR:∀p ls,R=some (p,ls)→Reads w p.b p.o ls∧(i,p,ls)∈lds') (hy:Yld P r ops Q i o sl e v R):
  Inv P r ops Q a0 w0 L (qP V i) (qf e o.dst v) lds' (ord++[i]) a w:=by
 simp only[Mb,fG,mX]at hok;obtain⟨hni,hsub,hhaz⟩:=hok;have hni':i∉ord:=λhh=>by rw[(h.bits i).2 hh]at hni;cases hni
 have hlt:i<ops.size:=(qw.1 ho).1;have hndi:¬ja L i:=λhh=>hni' (h.sub i hh);have haft:∀k,bit (iI o) k=true→k∈ord:=λk hk=>(h.bits k).1 ((CO.1 hsub) k hk);have hown:∀s∈sl,o.dst≠some s:=by
  intro s hs hd;rcases uO hhaz i o s (by rw[iK];exact ho) hd hs with h1|⟨h1,h2⟩|⟨h1,h2⟩
  ·rw[nT]at h1;exact hni' (haft i h1)
  ·rw[hF]at h2;cases h2
  ·rw[hF]at h2;cases h2
 refine⟨h.sz,λk=>?_,λk hk=>?_,λk hk=>za _ (h.sub k hk),h.WH,λpre k post ok hp hok k' hk'=>?_,λk hk hnk=>?_,by rw[pB,h.len],λs=>?_,zV h.ti _ _,h.bk,h.df,h.wW⟩
 ·rw[sc];simp only[zy,h.bits k,gK,eC,jY,@eq_comm _ i k]
 ·rcases eC.1 hk with hk|hk
  ·exact h.lt k hk
  ·rw[jY]at hk;rw[hk];exact hlt
 ·rcases MD.1 hp with⟨as,h1,h2⟩|⟨as,h1,h2⟩
  ·cases as with
   |nil=>
    simp at h1 h2;obtain⟨rfl,_⟩:=h2;have:ok=o:=by rw[ho]at hok;exact(mD hok).symm
    subst this;rw[h1];exact haft k' hk'
   |cons x as=>simp at h2
  ·cases as with
   |nil=>
    simp at h1 h2;obtain⟨rfl,_⟩:=h2;have:ok=o:=by rw[ho]at hok;exact(mD hok).symm
    subst this;rw[←h1];exact haft k' hk'
   |cons x as=>
    simp at h2;obtain⟨rfl,h2⟩:=h2;exact h.Mi pre k as ok h1 hok k' hk'
 ·rcases eC.1 hk with hk|hk
  ·obtain⟨oj,sj,vj,Rj,hp⟩:=h.qM k hk hnk;refine⟨oj,sj,vj,Rj,hp.ahead (λs hs hd=>?_) (λs hs hd=>?_) hl hp.rd⟩
   ·rcases uO hp.WK i o s (by rw[iK];exact ho) hd hs with h1|⟨h1,h2⟩|⟨h1,h2⟩
    ·rw[nT]at h1;exact hni' (h.V9 hk hp.kE h1)
    ·rw[hF]at h2;cases h2
    ·rw[hF]at h2;cases h2
   ·have:=ri hdis i k o oj s (by rw[iK];exact ho) (by rw[iK];exact hp.kE) hd hs;exact hni' (this▸hk)
  ·rw[jY]at hk;subst hk;refine⟨o,sl,v,R,ho,hF,hhaz,λa w K h1 h2 h3 h4=>hy a w K (λs hs=>?_) (by rw[←h2,pB]) h3 h4,λp ls hh=>(hR p ls hh).1,λp ls hh=>(hR p ls hh).2,λd hd hlt=>?_⟩
   ·have:=h1 s hs;rw[mF,ay (λhh=>hown s hs hh.1)]at this;exact this
   ·rw[pB]at hlt;rw[mF,aC ⟨hd,hlt⟩]
 ·by_cases hd:o.dst=some s
  ·exact .inl ⟨i,o,by simp,hndi,ho,hd⟩
  ·rcases h.slot s with⟨j,oj,hj,hnj,hoj,hdj⟩|hk
   ·exact .inl ⟨j,oj,za _ hj,hnj,hoj,hdj⟩
   ·right;rw[mF,ay (λhh=>hd hh.1)];exact hk
theorem Inv.turn{a0 a:Act}{w0 w w':World}{L:Array Bool}{V:Nat}{e:Env}{ec:C1}{ord:List Nat}(h:Inv P r ops Q a0 w0 L V e ec ord a w)(hdis:iY ops.toList=true){i:Nat}{o:Oper}{sl:List Nat}{v:TV}
    (ho:ops[i]? =some o) (hok:Mb ops.toList i o sl V=true) (hr:∀k,bit (iI o) k=true→ja L k)
    (hrd:∀j p ls,(j,p,ls)∈ec→bit (Iw ops.toList i) j=false→Reads w p.b p.o ls→Reads w' p.b p.o ls) (hdf:lH w w'):
    Inv P r ops Q a0 w0 (L.setIfInBounds i true) (qP V i) (qf e o.dst v) ec (ord++[i]) (a.put o.dst v.enc) w':=by
  simp only[Mb,fG,mX]at hok;obtain⟨hni,hsub,hhaz⟩:=hok;have hni':i∉ord:=λhh=>by rw[(h.bits i).2 hh]at hni;cases hni
  have hlt:i<ops.size:=(qw.1 ho).1;have hndi:¬ja L i:=λhh=>hni' (h.sub i hh);have haft:∀k,bit (iI o) k=true→k∈ord:=λk hk=>(h.bits k).1 ((CO.1 hsub) k hk);have hD:∀k,ja (L.setIfInBounds i true) k↔k=i∨ja L k:=λk=>by
    unfold ja;by_cases hk:k=i
    · subst hk;simp[h.sz,hlt]
    · rw[F6 (lS hk)];simp[hk]
  have hanc:∀k,bit (Iw ops.toList i) k=true→k=i∨ja L k:=by
    intro k hk;refine Hh (D:=λk=>k=i∨ja L k) ops.toList [] ops.toList (by simp) (by simp) ?_ ?_ i (.inl rfl) k hk
    · intro j oj hoj hj m hm
      rw[iK]at hoj;rcases hj with hj|hj
      · have:oj=o:=by rw[hj,ho]at hoj;exact(mD hoj).symm
        subst this;exact .inr (hr m hm)
      · exact .inr (h.WH j oj hoj hj m hm)
    · intro j _ k hk
      simp[bit]at hk
  refine⟨by simp[h.sz],λk=>?_,λk hk=>?_,λk hk=>?_,λk ok hok hk m hm=>?_,λpre k post ok hp hok k' hk'=>?_,λk hk hnk=>?_,by rw[pB,size_put,h.len],λs=>?_,zV h.ti _ _,Ej ho h.bk,by rw[tO,h.df],h.wW.trans hdf⟩
  · rw[sc]
    simp only[zy,h.bits k,gK,eC,jY,@eq_comm _ i k]
  · rcases eC.1 hk with hk|hk
    · exact h.lt k hk
    · rw[jY]at hk;rw[hk];exact hlt
  · rcases(hD k).1 hk with rfl|hk
    · simp
    · exact za _ (h.sub k hk)
  · rcases(hD k).1 hk with rfl|hk
    · have:ok=o:=by rw[ho]at hok;exact(mD hok).symm
      subst this;exact(hD m).2 (.inr (hr m hm))
    · exact(hD m).2 (.inr (h.WH k ok hok hk m hm))
  · rcases MD.1 hp with⟨as,h1,h2⟩|⟨as,h1,h2⟩
    · cases as with
      |nil=>
        simp at h1 h2;obtain⟨rfl,_⟩:=h2;have:ok=o:=by rw[ho]at hok;exact(mD hok).symm
        subst this;rw[h1];exact haft k' hk'
      |cons x as=>simp at h2
    · cases as with
      |nil=>
        simp at h1 h2;obtain⟨rfl,_⟩:=h2;have:ok=o:=by rw[ho]at hok;exact(mD hok).symm
        subst this;rw[←h1];exact haft k' hk'
      |cons x as=>
        simp at h2;obtain⟨rfl,h2⟩:=h2;exact h.Mi pre k as ok h1 hok k' hk'
  · have hki:k≠i:=λhh=>hnk ((hD k).2 (.inl hh))
    have hkd:¬ja L k:=λhh=>hnk ((hD k).2 (.inr hh));have hk:k∈ord:=by
      rcases eC.1 hk with hk|hk
      · exact hk
      · rw[jY]at hk;exact absurd hk hki
    obtain⟨oj,sj,vj,Rj,hp⟩:=h.qM k hk hkd;refine⟨oj,sj,vj,Rj,hp.ahead (λs hs hd=>?_) (λs hs hd=>?_) (λ_ hx=>hx) (λp ls hh=>hrd k p ls (hp.ld p ls hh) ?_ (hp.rd p ls hh))⟩
    · rcases uO hp.WK i o s (by rw[iK];exact ho) hd hs with h1|⟨h1,h2⟩|⟨h1,h2⟩
      · rw[nT]at h1;exact hni' (h.V9 hk hp.kE h1)
      · exact hkd (hr k h1)
      · rw[nT]at h1;exact hki h1
    · have:=ri hdis i k o oj s (by rw[iK];exact ho) (by rw[iK];exact hp.kE) hd hs
      exact hni' (this▸hk)
    · cases hb:bit (Iw ops.toList i) k with
      |false=>rfl
      |true=>
        rcases hanc k hb with hh|hh
        · exact absurd hh hki
        · exact absurd hh hkd
  · by_cases hds:o.dst=some s
    · right
      rw[mF];by_cases hl:s<e.length
      · rw[aC ⟨hds,hl⟩]
        simp only[jd];rw[hds,ky,aC ⟨rfl,by rw[←h.len];exact hl⟩]
      · rw[ay (λhh=>hl hh.2),Env.yv e s (Nat.not_lt.1 hl)];trivial
    · rcases h.slot s with⟨j,oj,hj,hnj,hoj,hdj⟩|hk
      · refine .inl ⟨j,oj,za _ hj,λhh=>((hD j).1 hh).elim (λhji=>?_) hnj,hoj,hdj⟩
        subst hji;exact hni' hj
      · right
        rw[mF,ay (λhh=>hds hh.1)];exact AG h.ti (we a o.dst _ hds) hk
theorem EC{a0 a:Act}{w0 w:World}{L:Array Bool}{K:Env→WP}(hdis:iY ops.toList=true):∀(t:DT) (V:Nat) (e:Env) (ec:C1) (ord:List Nat),Inv P r ops Q a0 w0 L V e ec ord a w→hY P ops.toList K t V 0 e ec w→
  ∃t' V' e' lds' ord',(t'=.aG∨VH t'=true)∧Inv P r ops Q a0 w0 L V' e' lds' ord' a w∧hY P ops.toList K t' V' 0 e' lds' w
 |.aG,V,e,ec,ord,h,hd=>⟨_,_,_,_,_,.inl rfl,h,hd⟩
 |.w i sl t,V,e,ec,ord,h,hd=>⟨_,_,_,_,_,.inr rfl,h,hd⟩
 |.wa i sl t alt,V,e,ec,ord,h,hd=>⟨_,_,_,_,_,.inr rfl,h,hd⟩
 |.f i sl t,V,e,ec,ord,h,hd=>by
  obtain⟨Y,hX,hd⟩:∃Y,hY P ops.toList K (.f i sl t) V 0 e ec=Y∧Y w:=⟨_,rfl,hd⟩;simp only[hY]at hX;split at hX
  ·subst hX;exact hd.elim
  ·rename_i o ho;rw[iK]at ho;split at hX
   ·rename_i hok;subst hX;simp only[fG]at hok;obtain⟨hok,hF⟩:=hok;rcases DO hd with⟨hg,hw⟩|⟨hg,hw⟩
    ·obtain⟨hnd,v,l,hk,hR,hy⟩:=TQ hg;have hk:=Kh hk;have hinv:=h.VK (lds':=Vd i l ec) (R:=l) (v:=v) hdis ho hok hF (λx hx=>by cases l with
      |none=>exact hx
      |some q=>exact nS _ hx) (λp ls hh=>⟨hR p ls hh,by rw[hh];exact qz⟩) (λa w K h1 h2 h3 h4=>by
       have hA:=xZ h2 h1;unfold wpOpIn;rw[ho];simp only;rw[aC (hw a hA)];refine⟨λf _=>trivial,?_⟩;rw[zk _ _ _ hnd,hy a hA w h3];exact h4)
     exact EC hdis t _ _ _ _ hinv hk
    ·have hinv:=h.VK (lds':=ec) (R:=none) (v:=CS) hdis ho hok hF (λx hx=>hx) (λp ls hh=>by cases hh) (λa w K h1 h2 h3 h4=>by
       have hA:=xZ h2 h1;unfold wpOpIn;rw[ho];simp only;rw[ay (by rw[hw a hA];simp)];exact⟨λf _=>trivial,h4⟩)
     exact EC hdis t _ _ _ _ hinv hg
   ·subst hX;exact hd.elim
def Next(P:Program)(ops:Array Oper)(K:Env→WP)(i:Nat)(V:Nat)(e:Env)(ec:C1)(w:World):Prop:=
 ∃o sl t,ops[i]?=some o∧Mb ops.toList i o sl V=true∧tR ops.toList o (mT sl 0 e) (D_ P (mT sl 0 e) [] o λv=>Fs ec (Iw ops.toList i) (Rx (VE i ops.toList) o e (λe'=>hY P ops.toList K t (qP V i) 0 e' ec) v)) (hY P ops.toList K t (qP V i) 0 (qf e o.dst CS) ec) w
theorem HP{K:Env→WP}{V:Nat}{e:Env}{ec:C1}{w:World}{i:Nat}{o:Oper}(ho:ops[i]?=some o)(hV:bit V i=false)(hs:G0 (iI o) V=true):∀(t:DT) (C:Nat),VH t=true→hY P ops.toList K t V C e ec w→bit C i=false→Next P ops K i V e ec w
 |.aG,_,h,_,_=>by cases h
 |.f _ _ _,_,h,_,_=>by cases h
 |.w j sl t,C,_,hd,hC=>by
  obtain⟨Y,hX,hd⟩:∃Y,hY P ops.toList K (.w j sl t) V C e ec=Y∧Y w:=⟨_,rfl,hd⟩;simp only[hY]at hX;split at hX
  ·subst hX;exact hd.elim
  ·rename_i oj hoj;rw[iK]at hoj;split at hX
   ·rename_i hok;subst hX;simp only[fG]at hok;obtain⟨hok,hcov⟩:=hok;by_cases hij:j=i
    ·subst hij;exact⟨oj,sl,t,hoj,hok,hd⟩
    ·exfalso;rcases Hm hcov i o (by rw[iK];exact ho)with h1|h1|h1
     ·rw[nT,hV]at h1;cases h1
     ·rw[nT,sc,hC]at h1;simp at h1;exact hij h1
     ·rw[hs]at h1;cases h1
   ·subst hX;exact hd.elim
 |.wa j sl t alt,C,_,hd,hC=>by
  obtain⟨Y,hX,hd⟩:∃Y,hY P ops.toList K (.wa j sl t alt) V C e ec=Y∧Y w:=⟨_,rfl,hd⟩;simp only[hY]at hX;split at hX
  ·subst hX;exact hd.elim
  ·rename_i oj hoj;rw[iK]at hoj;split at hX
   ·rename_i hok;subst hX;simp only[fG]at hok;obtain⟨hok,hW⟩:=hok;by_cases hij:j=i
    ·subst hij;exact⟨oj,sl,t,hoj,hok,hd.1⟩
    ·exact HP ho hV hs alt (qP C j) hW hd.2 (by rw[sc,hC];simpa using hij)
   ·subst hX;exact hd.elim
theorem wE{L:Array Bool}(hsz:L.size=ops.size){i:Nat}:i∈Region.ready .any ops L↔∃o,ops[i]?=some o∧¬ja L i∧∀k,bit (iI o) k=true→ja L k:=by
 unfold Region.ready;rw[tv,List.mem_range];constructor
 ·rintro⟨hlt,h⟩;have ho:ops[i]?=some ops[i]:=Ep hlt;refine⟨ops[i],ho,?_,?_⟩
  ·intro hd;unfold ja at hd;simp[En,hd]at h
  ·intro k hk;obtain⟨e,he,hb,hek⟩:=vM.1 hk;simp only[fG,ho,tw,Gn]at h;have h2:=h.2;rw[←Array.all_toList,List.all_eq_true]at h2;have h2:=h2 e he;rw[hb,hek]at h2;simp[En]at h2;unfold ja;cases hL:L[k]? with
   |none=>rw[hL]at h2;simp at h2
   |some b=>rw[hL]at h2;simp at h2;rw[h2]
 ·rintro⟨o,ho,hnd,h⟩;obtain⟨hlt,hoe⟩:=qw.1 ho;refine⟨hlt,?_⟩;have hL:L[i]?=some L[i]:=Ep (by omega);have hf:L[i]=false:=by
   cases hh:L[i]with
   |false=>rfl
   |true=>exact absurd (by unfold ja;rw[hL,hh]) hnd
  rw[fG];refine⟨by simp[En,hL,hf],?_⟩;simp only[ho,tw,Gn];rw[←Array.all_toList,List.all_eq_true];intro e he;cases hb:Region.binds .any e with
  |false=>simp
  |true=>
   have:=h e.on (vM.2 ⟨e,he,hb,rfl⟩);unfold ja at this;simp[En,this]
theorem count_set{L:Array Bool}{i n:Nat}(hlt:i<L.size)(hnd:¬ja L i)(h:L.toList.count false≤n+1):(L.setIfInBounds i true).toList.count false≤n:=by
 have hL:L[i]=false:=by
  cases hh:L[i]with
  |false=>rfl
  |true=>exact absurd (by unfold ja;rw[Ep hlt,hh]) hnd
 have h1:(L.setIfInBounds i true).toList=L.toList.set i true:=by simp
 rw[h1,List.count_set (by simpa using hlt)];have:L.toList[i]'(by simpa using hlt)=false:=by simpa using hL
 simp only[this];have hpos:0<L.toList.count false:=List.count_pos_iff.2 (by rw[←this];exact tu _);generalize L.toList.count false=N at*
 simp;omega
theorem IX{a0:Act}{w0:World}{K:Env→WP}(hdis:iY ops.toList=true)(hQ:∀e' a' w',lU e' a'→gD (fh ops.toList) a0 a'→a'.defers=a0.defers→lH w0 w'→K e' w'→Q .normal a' w'):
  ∀(fuel:Nat) (L:Array Bool) (a:Act) (w:World) (V:Nat) (e:Env) (ec:C1) (ord:List Nat) (t:DT),(t=.aG∨VH t=true)→Inv P r ops Q a0 w0 L V e ec ord a w→hY P ops.toList K t V 0 e ec w→
   L.toList.count false≤fuel→wpAnyIn (Fr r) 0 P .any ops Q fuel L a w:=by
 have aG:∀(L:Array Bool) (a:Act) (w:World) (V:Nat) (e:Env) (ec:C1) (ord:List Nat) (t:DT),(t=.aG∨VH t=true)→Inv P r ops Q a0 w0 L V e ec ord a w→hY P ops.toList K t V 0 e ec w→
   Region.ready .any ops L=[]→Q .normal a w:=by
  intro L a w V e ec ord t ht h hd hr;have QP:∀i o,ops[i]?=some o→¬ja L i→(∀k,bit (iI o) k=true→ja L k)→False:=λi o ho hn hk=>by
   have:i∈Region.ready .any ops L:=(wE h.sz).2 ⟨o,ho,hn,hk⟩;rw[hr]at this;cases this
  have hall:∀i∈ord,ja L i:=by
   have:∀(post pre:List Nat),ord=pre++post→(∀i∈pre,ja L i)→∀i∈post,ja L i:=by
    intro post
    induction post with
    |nil=>intro pre _ _ i hi;cases hi
    |cons x post ih=>
     intro pre hp hpre;have hlt:=h.lt x (by rw[hp];simp);have ho:ops[x]?=some ops[x]:=Ep hlt;have hx:ja L x:=Cd λhn=>QP x _ ho hn λk hk=>hpre k (h.Mi pre x post _ hp ho k hk);intro i hi;rcases dO.1 hi with rfl|hi
     ·exact hx
     ·exact ih (pre++[x]) (by rw[hp];simp) (λj hj=>by
       rcases eC.1 hj with hj|hj
       ·exact hpre j hj
       ·rw[jY]at hj;rw[hj];exact hx) i hi
   exact this ord [] rfl (λ_ hh=>by cases hh)
  have hA:lU e a:=⟨h.len,λs=>by
   rcases h.slot s with⟨j,oj,hj,hnj,_⟩|hk
   ·exact absurd (hall j hj) hnj
   ·exact hk⟩
  have stuckW:∀j o (sl:List Nat),ops[j]?=some o→Mb ops.toList j o sl V=true→False:=λj o sl ho hok=>by
   simp only[Mb,fG,mX]at hok;refine QP j o ho (λhdn=>?_) (λk hk=>hall k ((h.bits k).1 ((CO.1 hok.2.1) k hk)));rw[(h.bits j).2 (h.sub j hdn)]at hok;exact absurd hok.1 (by simp)
  obtain⟨Y,hX,hd⟩:∃Y,hY P ops.toList K t V 0 e ec=Y∧Y w:=⟨_,rfl,hd⟩;cases t with
  |aG=>
   simp only[hY]at hX;split at hX
   ·subst hX;exact hQ e a w hA h.bk h.df h.wW hd
   ·subst hX;exact hd.elim
  |f i sl t=>rcases ht with ht|ht<;>cases ht
  |w i sl t=>
   simp only[hY]at hX;split at hX
   ·subst hX;exact hd.elim
   ·rename_i o ho;rw[iK]at ho;split at hX
    ·rename_i hok;simp only[fG]at hok;exact(stuckW i o sl ho hok.1).elim
    ·subst hX;exact hd.elim
  |wa i sl t alt=>
   simp only[hY]at hX;split at hX
   ·subst hX;exact hd.elim
   ·rename_i o ho;rw[iK]at ho;split at hX
    ·rename_i hok;simp only[fG]at hok;exact(stuckW i o sl ho hok.1).elim
    ·subst hX;exact hd.elim
 intro fuel
 induction fuel with
 |zero=>
  intro L a w V e ec ord t ht h hd hc;have hr:Region.ready .any ops L=[]:=by
   rw[List.eq_nil_iff_forall_not_mem];intro i hi;obtain⟨o,ho,hn,_⟩:=(wE h.sz).1 hi;have hlt:=(qw.1 ho).1;have hltL:i<L.size:=by rw[h.sz];exact hlt
   have hL:L[i]=false:=by
    cases hh:L[i]with
    |false=>rfl
    |true=>exact absurd (by unfold ja;rw[Ep hltL,hh]) hn
   have:0<L.toList.count false:=List.count_pos_iff.2 (by rw[←hL];exact Array.mem_toList_iff.2 (Array.getElem_mem hltL));omega
  exact⟨hr,aG L a w V e ec ord t ht h hd hr⟩
 |succ fuel ih=>
  intro L a w V e ec ord t ht h hd hc;refine⟨aG L a w V e ec ord t ht h hd,λi hi=>?_⟩;obtain⟨o,ho,hn,hr⟩:=(wE h.sz).1 hi;have hlt:=(qw.1 ho).1;have hcnt:=count_set (by rw[h.sz];exact hlt) hn hc;by_cases hio:i∈ord
  ·obtain⟨o',sl,v,R,hp⟩:=h.qM i hio hn;have:o'=o:=by have:=hp.kE;rw[ho]at this;exact(mD this).symm
   subst this;exact hp.yld a w _ (h.QV hp.WK hr) h.len hp.rd (ih _ _ _ _ _ _ _ t ht (h.take hio hp hn hr) hd hcnt)
  ·have hVi:bit V i=false:=by
    cases hb:bit V i with
    |false=>rfl
    |true=>exact absurd ((h.bits i).1 hb) hio
   have hsub:G0 (iI o) V=true:=CO.2 λk hk=>(h.bits k).2 (h.sub k (hr k hk));rcases ht with rfl|hW
   ·exfalso;simp only[hY]at hd;cases hf:DM V ops.toList 0 with
    |false=>rw[hf]at hd;exact hd.elim
    |true=>
     have:=DN hf i (by simpa using hlt);rw[nT,hVi]at this;cases this
   ·obtain⟨o',sl,t',ho',hok,hg⟩:=HP ho hVi hsub t 0 hW hd (by simp[bit]);have:o'=o:=by rw[ho]at ho';exact(mD ho').symm
    subst this;have hhaz:Hy ops.toList i o' sl=true:=by
     simp only[Mb,fG]at hok;exact hok.2.2
    have hA:=xZ h.len (h.QV hhaz hr);unfold wpOpIn;rw[ho];simp only;rcases DO hg with⟨hgo,hw⟩|⟨hsk,hw⟩
    ·rw[aC (hw a hA)];refine FX hA (eW.nil a) hgo _ Q ?_;intro v w' hdf hk;obtain⟨hk,hrd⟩:=BM hk;have hk:=Kh hk;have hinv:=h.turn hdis (v:=v) ho hok hr (λj p ls h1 h2 _=>hrd j p ls h1 h2) hdf;obtain⟨t2,V2,e2,lds2,ord2,ht2,hinv2,hd2⟩:=EC hdis t' _ _ _ _ hinv hk;exact ih _ _ _ _ _ _ _ t2 ht2 hinv2 hd2 hcnt
    ·rw[ay (by rw[hw a hA];simp)];refine⟨λf _=>trivial,?_⟩;have hinv:=h.turn hdis (v:=CS) (w':=w) ho hok hr (λj p ls _ _ hh=>hh) (lH.refl w);obtain⟨t2,V2,e2,lds2,ord2,ht2,hinv2,hd2⟩:=EC hdis t' _ _ _ _ hinv hsk;exact ih _ _ _ _ _ _ _ t2 ht2 hinv2 hd2 hcnt
theorem IL(e:Env):∀s,(fK e).get s=.un∨∃v,(fK e).get s=.val v:=by
 induction e with
 |nil=>intro s;exact .inl rfl
 |cons x e ih=>intro s;cases s with
  |zero=>cases x<;>simp[fK,Env.get]
  |succ i=>cases x<;>simpa [fK,Env.get]using ih i
theorem Pd{id:Nat}{a:Act}{w:World}{e:Env}{K:Env→WP}{t:DT}(hm:P.follows .mixedOrders=true)(hdis:iY ops.toList=true)(hA:lU (fK e) a)(h:bF (hY P ops.toList K t 0 0 (fK e) []) w)
  (hQ:∀e' a' w',lU e' a'→gD (fh ops.toList) a a'→a'.defers=a.defers→lH w w'→K e' w'→Q .normal a' w'):(Code.region id ops true).wpIn (Fr r) 0 P Q a w:=by
 have h0:=h {w with drawn:=w.drawn+1} ⟨rfl,rfl,rfl,fa _,λ_ _ _=>rfl,λ_ hh=>hh⟩ rfl;refine wpIn_region_any hm ?_;have hinv:Inv P r ops Q a w (Array.replicate ops.size false) 0 (fK e) [] [] a {w with drawn:=w.drawn+1}:=by
  have nd:∀i,¬ja (Array.replicate ops.size false) i:=λi hi=>by
   unfold ja at hi;simp[MH]at hi
  refine⟨by simp,λi=>by simp[bit],λi hi=>(by cases hi),λi hi=>absurd hi (nd i),λi _ _ hi=>absurd hi (nd i),λpre i post o hp=>?_,λi hi=>(by cases hi),hA.len,λs=>.inr (hA.ok s),IL e,gD.refl _ _,rfl,⟨fa _,λ_ hh=>hh⟩⟩;have:=jF List.length hp;simp at this
 obtain⟨t2,V2,e2,lds2,ord2,ht2,hinv2,hd2⟩:=EC hdis t _ _ _ _ hinv h0;refine IX hdis hQ ops.size _ a _ V2 e2 lds2 ord2 t2 ht2 hinv2 hd2 ?_;simp
end
end Go.X

namespace Go.X
variable {P:Program}
section
variable {F:Fence} {n:Nat} {Q:Exit→Act→World→Prop} {a:Act} {w:World} {b:Frame} {k:List Item} {cs:List Frame}
theorem jS{c:Code}:step P (lone (b.atR a (.code (.scope c)::k)) cs w)=.next (lone (b.atR a (.code c:: .inScope c::k)) cs w):=
 step_lone_go (by simp[stepG,stepG.exec,Frame.atR])
theorem zY{c:Code}:step P (lone (b.atR a (.inScope c::k)) cs w)=.next (lone (b.atR a k) cs w):=
 step_lone_go (by simp[stepG,stepG.exec,Frame.atR])
theorem EP{c:Code}(h:c.wpIn F n P (Exit.noGoto Q) a w):(Code.scope c).wpIn F n P Q a w:=by
 intro b k cs hro hb hr;have h0:(lone (b.atR a (.code (.scope c)::k)) cs w).fenced P F:=fenced_calm hb hr rfl;obtain⟨e,a₁,w₁,hq,harr⟩:=h b (.inScope c::k) cs hro hb hr;cases e with
 |normal=>exact⟨.normal,a₁,w₁,hq,.head h0 jS (StepsIn.trans harr (.one (fenced_calm hb hr rfl) zY))⟩
 |exit id=>
  have hx:exitTo id (.inScope c::k)=exitTo id k:=by simp[exitTo]
  exact⟨.exit id,a₁,w₁,hq,λk' hk=>.head h0 jS (harr.1 k' (by rw[hx];exact hk)),
   λhr' hk=>let⟨k₁,h1,h2⟩:=harr.2 hr' (by rw[hx];exact hk);⟨k₁,h1,.head h0 jS h2⟩⟩
 |goto l=>exact hq.elim
 |ret=>exact⟨_,a₁,w₁,hq,.of_steps (.one h0 jS) harr⟩
 |panic ch=>exact⟨_,a₁,w₁,hq,.of_steps (.one h0 jS) harr⟩
 |outgrown=>exact⟨_,a₁,w₁,hq,.of_steps (.one h0 jS) harr⟩
theorem Hb{c:Code}(I:Nat→Act→World→Prop)(n₀:Nat)(h₀:I n₀ a w)
  (round:∀m a w,I m a w→c.wpIn F n P (Exit.then (λa' w'=>∃n',n'<m∧I n' a' w') Q) a w):(Code.loop c).wpIn F n P Q a w:=by
 refine wpIn_loop (λa w=>∃n,I n a w) (λa w=>leastOf (λn=>I n a w)) ⟨n₀,h₀⟩ ?_;intro a w hI;refine wpIn_mono (round _ a w (leastOf_spec hI).1) ?_;intro e a' w' hq;cases e with
 |normal=>
  obtain⟨n',hlt,hI'⟩:=hq;exact show(∃n,I n a' w')∧leastOf (λn=>I n a' w')<leastOf (λn=>I n a w)from⟨⟨n',hI'⟩,Nat.lt_of_le_of_lt ((leastOf_spec ⟨n',hI'⟩).2 n' hI') hlt⟩
 |exit id=>exact hq
 |goto l=>exact hq
 |ret=>exact hq
 |panic ch=>exact hq
 |outgrown=>exact hq
end
abbrev HN(D:Nat):Deferred:={target:=.collected D,args:=#[]}
structure Marks(n0:Nat)(ds:List Deferred)(w:World):Prop where
 all:∀d∈ds,∃D,d=HN D∧n0≤D∧w.heap[D]?=some lC
 nd:ds.Pairwise (·≠·)
theorem Marks.wW{n0:Nat}{ds:List Deferred}{w w':World}(h:Marks n0 ds w)(hd:lH w w'):Marks n0 ds w':=
 ⟨λd hdm=>let⟨D,e,h1,h2⟩:=h.all d hdm;⟨D,e,h1,hd.Jl D h2⟩,h.nd⟩
theorem Marks.nil(n0:Nat)(w:World):Marks n0 [] w:=⟨λ_ h=>absurd h (by simp),List.Pairwise.nil⟩
theorem lU.ti{e:Env}{a:Act}(h:lU e a):lU (fK e) a:=by
 have hl:∀e:Env,(fK e).length=e.length:=λe=>by
  induction e with
  |nil=>rfl
  |cons x e ih=>cases x<;>simp[fK,ih]
 have hg:∀(e:Env) (i:Nat),(fK e).get i=.un∨(fK e).get i=e.get i:=λe=>by
  induction e with
  |nil=>intro i;exact .inl rfl
  |cons x e ih=>intro i;cases i with
   |zero=>cases x<;>simp[fK,Env.get]
   |succ i=>cases x<;>simpa [fK,Env.get]using ih i
 refine⟨by rw[hl,h.len],λi=>?_⟩;rcases hg e i with hh|hh<;>rw[hh]
 ·trivial
 ·exact h.ok i
theorem IM(e:Env)(i:Nat):(fK e).get i=.un∨∃v,(fK e).get i=.val v:=by
 induction e generalizing i with
 |nil=>exact .inl rfl
 |cons x e ih=>cases i with
  |zero=>cases x<;>simp[fK,Env.get]
  |succ i=>cases x<;>simpa [fK,Env.get]using ih i
theorem AW:∀(ws:List Nat) (e:Env),(tS ws e).length=e.length
 |[],_=>rfl
 |d::r,e=>by rw[tS,AW r,Env.uT]
theorem AV:∀(ws:List Nat) (e:Env) (i:Nat),(tS ws e).get i=.un∨(kZ i ws=false∧(tS ws e).get i=e.get i)
 |[],_,_=>.inr ⟨rfl,rfl⟩
 |d::r,e,i=>by
  simp only[tS,kZ];rcases AV r (e.set d .un) i with h|⟨h1,h2⟩
  ·exact .inl h
  ·rw[h2,Env.uM];split
   ·exact .inl rfl
   ·rename_i hh;by_cases hd:i=d
    ·subst hd;left;exact Env.yv e i (by omega)
    ·right;refine⟨?_,rfl⟩;rw[h1,Bool.or_false];cases hb:Nat.beq d i with
     |false=>rfl
     |true=>exact absurd (Eq.symm (px hb)) hd
theorem lU.base{c:Code}{e:Env}{a a1:Act}(h:lU e a)(k:gD (writes c) a a1):lU (Dp c e) a1:=by
 have hc:=h.ti;refine⟨by rw[Dp,AW,hc.len,k.size],λi=>?_⟩;rcases AV (writes c) (fK e) i with hh|⟨h1,h2⟩
 ·rw[Dp,hh];trivial
 ·rw[Dp,h2];have:=hc.ok i;rcases IM e i with hu|⟨v,hv⟩
  ·rw[hu];trivial
  ·rw[hv]at this⊢;simp only[jd]at this⊢;rw[k.same i h1];exact this
theorem lU.Ek{e:Env}{a:Act}(h:lU e a){n:Nat}{v:TV}(hv:a.tmps[n]?=some v.enc):lU (e.put (some n) (.val v)) a:=by
 refine⟨by rw[←h.len];simp[Env.put,Env.uT],λi=>?_⟩;simp only[Env.put];rw[Env.uM];split
 ·rename_i hh;rw[hh.1];exact hv
 ·rw[Env.get_map _ rfl];have:=h.ok i;cases hx:e.get i with
  |un=>trivial
  |val u=>rw[hx]at this;exact this
  |gv j b u=>
   rw[hx]at this;simp only[Eg];split
   ·trivial
   ·exact this
theorem wO{e1:Env}{a1:Act}(h1:lU e1 a1):∀{sl:List xn} {ls:List Lf} {e0:Env},lU e0 a1→yS e1 sl=some ls→lU (sR sl ls e0) a1
 |[],ls,e0,h0,_=>h0
 |(n,.lf c)::r,ls,e0,h0,hp=>by
  simp only[yS]at hp;split at hp
  ·rename_i l hl;split at hp
   ·rename_i ls' hr;cases hp;simp only[sR];exact wO h1 (h0.Ek (h1.val hl)) hr
   ·cases hp
  ·cases hp
 |(n,.agg cs)::r,ls,e0,h0,hp=>by
  simp only[yS]at hp;split at hp
  ·rename_i xs hl;split at hp
   ·rename_i ls' hb hr;cases hp;have hlen:=px hb;simp only[sR];rw[←hlen];simp only[Cs,Cv];exact wO h1 (h0.Ek (h1.val hl)) hr
   ·cases hp
  ·cases hp
theorem xJ{c:Code}{e e1:Env}{a a1:Act}{sl:List xn}{J:Ks.T (nL sl)→WP}{w:World}(h:lU e a)(k:gD (writes c) a a1)(h1:lU e1 a1)(hp:w9 sl e1 J w):
  ∃x,J x w∧lU (sS c sl e x) a1:=by
 unfold w9 at hp;cases hl:yS e1 sl with
 |none=>rw[hl]at hp;exact hp.elim
 |some ls=>
  rw[hl]at hp;simp only at hp;cases hu:Ks.un (nL sl) ls with
  |none=>rw[hu]at hp;exact hp.elim
  |some x=>
   rw[hu]at hp;refine⟨x,hp,?_⟩;unfold sS;rw[Ks.gZ hu];exact wO h1 (h.base k) hl
structure St(n0:Nat)(ws:List Nat)(hr:Bool)(a:Act)(e':Env)(a':Act)(w':World):Prop where
 N1:lU e' a'
 bk:gD ws a a'
 df:hr=false→a'.defers=a.defers
 marks:Marks n0 a'.defers w'
 size:n0≤w'.heap.size
theorem St.pre{n0:Nat}{xs ys zs:List Nat}{hx hy hz:Bool}{a b:Act}{e1 e':Env}{a':Act}{w1 w':World}(h:St n0 ys hy b e' a' w')(k:St n0 xs hx a e1 b w1)(hm:∀n,kZ n zs=false→kZ n (xs++ys)=false)
  (hd:hz=false→hx=false∧hy=false):St n0 zs hz a e' a' w':=
 ⟨h.N1,(k.bk.trans h.bk).mono hm,λhf=>(h.df (hd hf).2).trans (k.df (hd hf).1),h.marks,h.size⟩
theorem St.up{n0:Nat}{xs zs:List Nat}{hx hz:Bool}{a:Act}{e':Env}{a':Act}{w':World}(h:St n0 xs hx a e' a' w')(hm:∀n,kZ n zs=false→kZ n xs=false)
  (hd:hz=false→hx=false):St n0 zs hz a e' a' w':=
 ⟨h.N1,h.bk.mono hm,λhf=>h.df (hd hf),h.marks,h.size⟩
theorem El:∀{ps:List Nat} {vs:List V1} {e:Env} {tmps:Array Value},lU e ⟨tmps,[]⟩→lU (y9 e ps vs) ⟨(ps.zip (vs.map V1.enc)).foldl (λt (x:Nat×Value)=>t.setIfInBounds x.1 x.2) tmps,[]⟩
 |[],_,_,_,h=>by simpa [y9]using h
 |_::_,[],_,_,h=>by simpa [y9]using h
 |d::ds,v::vs,e,tmps,h=>by
  simp only[y9,kq,List.zip_cons_cons,Cq];exact El (ps:=ds) (vs:=vs) (h.put (some d) (.one v))
theorem uR{n i:Nat}{A B:WP}{w:World}(h:oO n i A B w):(i=n∧A w)∨(i≠n∧B w):=by
 unfold oO at h;cases hb:Nat.beq i n with
 |true=>rw[hb]at h;exact .inl ⟨px hb,h⟩
 |false=>rw[hb]at h;exact .inr ⟨F9 hb,h⟩
theorem vR{j:Nat}{kx:Nat→WP}{w:World}:∀{l:List Nat},BL j kx l w→∃i,j=i+2∧kx i w
 |[],h=>h.elim
 |i::r,h=>by
  rcases uR h with⟨h1,h2⟩|⟨_,h2⟩
  ·exact⟨i,h1,h2⟩
  ·exact vR h2
theorem LG{c:Code}{j:Nat}{kn kr:WP}{kx:Nat→WP}{w:World}(h:LF c j kn kr kx w):(j=0∧kn w)∨(j=1∧kr w)∨∃i,j=i+2∧kx i w:=by
 unfold LF at h;rcases uR h with⟨h1,h2⟩|⟨_,h2⟩
 ·exact .inl ⟨h1,h2⟩
 ·cases hr:vr c<;>rw[hr]at h2
  ·exact .inr (.inr (vR h2))
  ·rcases uR h2 with⟨h1,h2⟩|⟨_,h2⟩
   ·exact .inr (.inl ⟨h1,h2⟩)
   ·exact .inr (.inr (vR h2))
end Go.X

namespace Go.X
variable {P:Program}
theorem Qi(l:Nat):Fence.wide.inRound l=Fr (some l):=rfl
theorem yK{n:Nat}{xs ys:List Nat}(h:kZ n (xs++ys)=false):kZ n xs=false∧kZ n ys=false:=by
 rw[rE]at h;simpa using h
theorem I3(ps:Array Nat)(vs:List Value)(tmps:Array Value):(ps.zip vs.toArray).foldl (λt (x:Nat×Value)=>t.setIfInBounds x.1 x.2) tmps=(ps.toList.zip vs).foldl (λt (x:Nat×Value)=>t.setIfInBounds x.1 x.2) tmps:=by
 rw[←Array.foldl_toList];simp
theorem BT{w:World}{l:Nat}{o o':Obj}(h:w.heap[l]?=some o)(hd:o≠lC):jO (Dn l) w (w.putObj l o'):=
 ⟨rfl,rfl,rfl,by simp,λk _ hk=>F7 hk,λk hk=>by
  by_cases hkl:k=l
  ·subst hkl;rw[h]at hk;exact absurd (mD hk) hd
  ·rw[F7 hkl];exact hk⟩
theorem Rs.len:∀(rs:List Sh) (x:Rs.T rs),(Rs.mk rs x).length=rs.length
 |[],_=>rfl
 |[_],_=>rfl
 |_::t::r,x=>by simp only[Rs.mk,kS];rw[Rs.len (t::r) x.2];rfl
theorem Uc(c:Code):∀(inR:Bool) (an:EZ) (e:Env) (kn:Env→WP) (kx:Nat→Env→WP) (kr:Env→WP) (r:Option Nat) (n0:Nat) (a:Act) (w:World) (Q:Exit→Act→World→Prop),
  (inR=false→r=none)→lU e a→Marks n0 a.defers w→n0≤w.heap.size→uu P inR c an e kn kx kr w→
  (∀e' a' w',St n0 (writes c) (cz c) a e' a' w'→kn e' w'→Q .normal a' w')→
  (∀i e' a' w',St n0 (writes c) (cz c) a e' a' w'→kx i e' w'→Q (.exit i) a' w')→
  (∀e' a' w',St n0 (writes c) (cz c) a e' a' w'→kr e' w'→Q .ret a' w')→c.wpIn (Fr r) 0 P Q a w:=by
 induction c with
 |skip=>
  intro inR an e kn kx kr r n0 a w Q hro hA hM hz h hn hx hr;cases an<;>exact wpIn_skip (hn e a w ⟨hA,gD.refl _ _,λ_=>rfl,hM,hz⟩ h)
 |label l=>
  intro inR an e kn kx kr r n0 a w Q hro hA hM hz h hn hx hr;cases an<;>exact wpIn_label (hn e a w ⟨hA,gD.refl _ _,λ_=>rfl,hM,hz⟩ h)
 |region id ops draw=>
  intro inR an e kn kx kr r n0 a w Q hro hA hM hz h hn hx hr;cases draw with
  |true=>
   cases an with
   |d t=>
    cases hc:(P.follows .mixedOrders&&iY ops.toList)with
    |false=>simp only[uu,hc]at h;exact h.elim
    |true=>
     simp only[uu,hc]at h;simp only[fG]at hc;refine Pd hc.1 hc.2 hA.ti h λe' a' w' hA' hk hdf hd hK=>?_;exact hn e' a' w' ⟨hA',hk,λ_=>hdf,by rw[hdf];exact hM.wW hd,lQ hz hd.size⟩ hK
   |_=>exact h.elim
  |false=>
   have h':po P ops.toList ops.toList 0 e kn w:=(by cases an<;>exact h);refine wpIn_region_list (HR ops.toList 0 e a w kn hA h' λe' a' w' hA' hk hdf hd hK=>?_);exact hn e' a' w' ⟨hA',hk,λ_=>hdf,by rw[hdf];exact hM.wW hd,lQ hz hd.size⟩ hK
 |seq x y ihx ihy=>
  intro inR an e kn kx kr r n0 a w Q hro hA hM hz h hn hx hr;have pre:∀{e1 a1 w1 e' a' w'},St n0 (writes x) (cz x) a e1 a1 w1→St n0 (writes y) (cz y) a1 e' a' w'→St n0 (writes (.seq x y)) (cz (.seq x y)) a e' a' w':=λs1 s2=>s2.pre s1 (λ_ hh=>hh) (λhh=>by simpa [cz]using hh);have wx:∀{e' a' w'},St n0 (writes x) (cz x) a e' a' w'→St n0 (writes (.seq x y)) (cz (.seq x y)) a e' a' w':=λs=>s.up (λn hh=>(yK hh).1) (λhh=>by simp[cz]at hh;exact hh.1);cases an with
  |s p q=>
   have h':uu P inR x p e (λe1=>uu P inR y q e1 kn kx kr) kx kr w:=h;refine wpIn_seq (ihx inR p e _ kx kr r n0 a w _ hro hA hM hz h' ?_ ?_ ?_)
   ·intro e1 a1 w1 s1 hk;exact ihy inR q e1 kn kx kr r n0 a1 w1 Q hro s1.N1 s1.marks s1.size hk (λe' a' w' s hh=>hn e' a' w' (pre s1 s) hh) (λi e' a' w' s hh=>hx i e' a' w' (pre s1 s) hh) (λe' a' w' s hh=>hr e' a' w' (pre s1 s) hh)
   ·intro i e1 a1 w1 s1 hk;exact hx i e1 a1 w1 (wx s1) hk
   ·intro e1 a1 w1 s1 hk;exact hr e1 a1 w1 (wx s1) hk
  |j sl p q=>
   cases hsl:GX (writes x) sl with
   |false=>simp only[uu,hsl]at h;exact h.elim
   |true=>
    simp only[uu,hsl]at h;obtain⟨J,hJ,h'⟩:=h;refine wpIn_seq (ihx inR p e _ kx kr r n0 a w _ hro hA hM hz h' ?_ ?_ ?_)
    ·intro e1 a1 w1 s1 hk;obtain⟨v,hv,hA1⟩:=xJ hA s1.bk s1.N1 hk;exact ihy inR q _ kn kx kr r n0 a1 w1 Q hro hA1 s1.marks s1.size (hJ v w1 hv) (λe' a' w' s hh=>hn e' a' w' (pre s1 s) hh) (λi e' a' w' s hh=>hx i e' a' w' (pre s1 s) hh) (λe' a' w' s hh=>hr e' a' w' (pre s1 s) hh)
    ·intro i e1 a1 w1 s1 hk;exact hx i e1 a1 w1 (wx s1) hk
    ·intro e1 a1 w1 s1 hk;exact hr e1 a1 w1 (wx s1) hk
  |_=>exact h.elim
 |cond c x y ihx ihy=>
  intro inR an e kn kx kr r n0 a w Q hro hA hM hz h hn hx hr;have wx:∀{e' a' w'},St n0 (writes x) (cz x) a e' a' w'→St n0 (writes (.cond c x y)) (cz (.cond c x y)) a e' a' w':=λs=>s.up (λn hh=>(yK hh).1) (λhh=>by simp[cz]at hh;exact hh.1);have wy:∀{e' a' w'},St n0 (writes y) (cz y) a e' a' w'→St n0 (writes (.cond c x y)) (cz (.cond c x y)) a e' a' w':=λs=>s.up (λn hh=>(yK hh).2) (λhh=>by simp[cz]at hh;exact hh.2);cases an with
  |s p q=>
   obtain⟨Y,hX,h⟩:∃Y,uu P inR (.cond c x y) (.s p q) e kn kx kr=Y∧Y w:=⟨_,rfl,h⟩;simp only[uu]at hX;split at hX
   ·rename_i t ht;subst hX;refine wpIn_cond (t:=t) (bu hA (eW.nil a) ht) ?_;cases t with
    |true=>exact ihx inR p e kn kx kr r n0 a w Q hro hA hM hz h (λe' a' w' s hh=>hn e' a' w' (wx s) hh) (λi e' a' w' s hh=>hx i e' a' w' (wx s) hh) (λe' a' w' s hh=>hr e' a' w' (wx s) hh)
    |false=>exact ihy inR q e kn kx kr r n0 a w Q hro hA hM hz h (λe' a' w' s hh=>hn e' a' w' (wy s) hh) (λi e' a' w' s hh=>hx i e' a' w' (wy s) hh) (λe' a' w' s hh=>hr e' a' w' (wy s) hh)
   ·subst hX;exact h.elim
  |_=>exact h.elim
 |block id x ih=>
  intro inR an e kn kx kr r n0 a w Q hro hA hM hz h hn hx hr;cases an with
  |b p=>
   have h':uu P inR x p e kn (λi e1=>oO id i (kn e1) (kx i e1)) kr w:=h;refine wpIn_block (ih inR p e kn _ kr r n0 a w _ hro hA hM hz h' (λe' a' w' s hh=>hn e' a' w' s hh) ?_ (λe' a' w' s hh=>hr e' a' w' s hh));intro i e' a' w' s hh;simp only[Exit.inBlock];rcases uR hh with⟨h1,h2⟩|⟨h1,h2⟩
   ·rw[aC h1];exact hn e' a' w' s h2
   ·rw[ay h1];exact hx i e' a' w' s h2
  |bj sl p=>
   cases hsl:GX (writes x) sl with
   |false=>simp only[uu,hsl]at h;exact h.elim
   |true=>
    simp only[uu,hsl]at h;obtain⟨J,hJ,h'⟩:=h;have aG:∀{e' a' w'},St n0 (writes x) (cz x) a e' a' w'→w9 sl e' J w'→Q .normal a' w':=λs hh=>by
     obtain⟨v,hv,hA1⟩:=xJ hA s.bk s.N1 hh;exact hn _ _ _ ⟨hA1,s.bk,s.df,s.marks,s.size⟩ (hJ v _ hv)
    refine wpIn_block (ih inR p e _ _ kr r n0 a w _ hro hA hM hz h' (λe' a' w' s hh=>aG s hh) ?_ (λe' a' w' s hh=>hr e' a' w' s hh));intro i e' a' w' s hh;simp only[Exit.inBlock];rcases uR hh with⟨h1,h2⟩|⟨h1,h2⟩
    ·rw[aC h1];exact aG s h2
    ·rw[ay h1];exact hx i e' a' w' s h2
  |_=>exact h.elim
 |loop x ih=>
  intro inR an e kn kx kr r n0 a w Q hro hA hM hz h hn hx hr;cases an with
  |l sl p=>
   cases hsl:GX (writes x) sl with
   |false=>simp only[uu,hsl]at h;exact h.elim
   |true=>
    simp only[uu,hsl]at h;obtain⟨x0,⟨I,μ,hI0,hround⟩,hA0⟩:=xJ (c:=x) hA (gD.refl _ a) hA h;refine Hb (λm a' w'=>∃v,I v w'∧μ v w'=m∧St n0 (writes x) (cz x) a (sS x sl e v) a' w') (μ x0 w) ⟨x0,hI0,rfl,hA0,gD.refl _ _,λ_=>rfl,hM,hz⟩ ?_;rintro m a1 w1 ⟨v,hv,rfl,s1⟩;have pre:∀{e' a' w'},St n0 (writes x) (cz x) a1 e' a' w'→St n0 (writes x) (cz x) a e' a' w':=λs2=>s2.pre s1 (λn hh=>by rw[rE,hh];rfl) (λhh=>⟨hh,hh⟩);refine ih inR p _ _ kx kr r n0 a1 w1 _ hro s1.N1 s1.marks s1.size (hround v w1 hv) ?_ (λi e' a' w' s hh=>hx i e' a' w' (pre s) hh) (λe' a' w' s hh=>hr e' a' w' (pre s) hh);intro e2 a2 w2 s2 hh;obtain⟨v2,⟨hv2,hlt⟩,hA2⟩:=xJ (c:=x) hA (pre s2).bk s2.N1 hh;exact⟨_,hlt,v2,hv2,rfl,hA2,(pre s2).bk,(pre s2).df,s2.marks,s2.size⟩
  |_=>exact h.elim
 |exit i=>
  intro inR an e kn kx kr r n0 a w Q hro hA hM hz h hn hx hr;cases an<;>exact wpIn_exit (hx i e a w ⟨hA,gD.refl _ _,λ_=>rfl,hM,hz⟩ h)
 |goto l=>
  intro inR an e kn kx kr r n0 a w Q hro hA hM hz h hn hx hr;cases an<;>exact h.elim
 |ret=>
  intro inR an e kn kx kr r n0 a w Q hro hA hM hz h hn hx hr;cases an<;>exact wpIn_ret (hr e a w ⟨hA,gD.refl _ _,λ_=>rfl,hM,hz⟩ h)
 |scope x ih=>
  intro inR an e kn kx kr r n0 a w Q hro hA hM hz h hn hx hr;have h':uu P inR x an e kn kx kr w:=by cases an<;>exact h
  exact EP (ih inR an e kn kx kr r n0 a w _ hro hA hM hz h' hn hx hr)
 |rangeFunc f ps as body iha ihb=>
  intro inR an e kn kx kr r n0 a w Q hro hA hM hz h hn hx hr;cases an with
  |r rs p q=>
   obtain⟨Y,hX,h⟩:∃Y,uu P inR (.rangeFunc f ps as body) (.r rs p q) e kn kx kr=Y∧Y w:=⟨_,rfl,h⟩;simp only[uu]at hX;split at hX
   ·rename_i fv hf;split at hX
    ·rename_i hlen;subst hX;have hlen:=px hlen;cases hro rfl;have hfe:a.eval f=fv.enc:=bu hA (eW.nil a) hf;refine wpIn_rangeFunc λfn _=>?_;obtain⟨rec,hrec⟩:∃rec:Loop,rec={state:=.ready,pending:=none,fn,tmps:=a.tmps,params:=ps,assign:=as,body,defers:=w.heap.size}:=⟨_,rfl⟩;obtain⟨qM,hpend⟩:∃qM:Nat→Option Code,qM=λj=>match j with|0=>none|1=>some .ret|i+2=>some (.exit i):=⟨_,rfl⟩
     obtain⟨st,hst⟩:∃st:Nat→Obj,st=λj=>Obj.loop {rec with state:=if(qM j).isNone then .ready else .done,pending:=qM j}:=⟨_,rfl⟩;obtain⟨busy,hbusy⟩:∃busy:Obj,busy=Obj.loop {rec with state:=.busy}:=⟨_,rfl⟩;have r1:rec.fn=fn:=by rw[hrec]
     have r2:rec.params=ps:=(by rw[hrec]);have r3:rec.tmps=a.tmps:=(by rw[hrec]);have r4:rec.assign=as:=(by rw[hrec]);have r5:rec.body=body:=(by rw[hrec]);have hst0:st 0=.loop rec:=(by rw[hst,hpend,hrec];rfl);obtain⟨w1,hw1⟩:∃w1:World,w1={w with heap:=(w.heap.push lC).push (.loop rec)}:=⟨_,rfl⟩;have hext:jO D5 w w1:=(by rw[hw1];exact(jQ w lC).trans (jQ _ _));have hl0:w1.heap[w.heap.size+1]?=some (st 0):=by
      rw[hst0,hw1];have:=Array.getElem?_push_size (xs:=w.heap.push lC) (x:=Obj.loop rec);rwa[Array.size_push]at this
     have hD0:w1.heap[w.heap.size]?=some lC:=(by rw[hw1];simp[Array.getElem?_push]);have hrun:=h w1 (w.heap.size+1) st busy (λj=>by rw[hst];simp) (by rw[hbusy];simp) hext (uc _) (by rw[hw1];simp) hl0 ?_
     · -- the call
      cases fv with
      |nil=>exact hrun.elim
      |mk g first cap=>
       cases g with
       |func g=>
        have hent:JV P g=true:=hrun.1;refine⟨w.heap.size+1,[HN w.heap.size],w1,{target:=.fn (.func g) cap.toArray,args:=first.toArray++#[Value.func (.yield (w.heap.size+1)) #[] #[]]},w1,g,(first++[Fv.enc (.mk (.yield (w.heap.size+1)) [] [])]++cap).toArray,w1,?_,?_,λ_ _=>trivial,?_,yo,yi (hrun.2.mono ?_)⟩
        ·rw[hw1,hrec];exact run_enterLoop_outer fn a.tmps ps as body
        ·have e1:resolve a.eval (rangeCall f (w.heap.size+1)) 0=Deferred.ofValue (a.eval f) (#[Operand.const (.func (.yield (w.heap.size+1)) #[] #[])].map a.eval):=rfl;have e2:#[Operand.const (.func (.yield (w.heap.size+1)) #[] #[])].map a.eval=#[Value.func (.yield (w.heap.size+1)) #[] #[]]:=(by simp[Act.eval]);rw[e1,e2,hfe];simp[Fv.enc,Deferred.ofValue]
        ·have:invoke (.fn (.func g) cap.toArray) (first.toArray++#[Value.func (.yield (w.heap.size+1)) #[] #[]])=callFunc g (first++[Fv.enc (.mk (.yield (w.heap.size+1)) [] [])]++cap).toArray:=by
          simp[invoke,Fv.enc]
         rw[this];exact uD hent _ _
        ·rintro en w2 ⟨v,rfl,hd,j,hj,hK⟩;have hj':w2.heap[w.heap.size+1]?=some (.loop {rec with state:=if(qM j).isNone then .ready else .done,pending:=qM j}):=by rw[hj,hst]
         have hend:=run_endLoop (P:=P) hj' (by show(if(qM j).isNone then LoopState.ready else LoopState.done)≠.busy;split<;>simp);obtain⟨w4,hE,hend,hsz⟩:∃w4,jO (Dn (w.heap.size+1)) w2 w4∧(Instr.endLoop (w.heap.size+1)).run P w2=.ok (qM j) w4∧w4.heap.size=w2.heap.size:=⟨_,BT hj' (by simp),hend,by simp⟩;have hKj:=hK w4 hE hsz;have hdd:lH w w4:=hext.wW.trans (hd.trans hE.wW);have hst':St n0 (writes (.rangeFunc f ps as body)) (cz (.rangeFunc f ps as body)) a e {a with defers:=[HN w.heap.size]++a.defers} w4:=by
          refine⟨⟨hA.len,hA.ok⟩,⟨rfl,λ_ _=>rfl⟩,(λhh=>by cases hh),⟨?_,?_⟩,lQ hz hdd.size⟩
          ·intro d hdm;rcases eC.1 hdm with hm|hm
           ·rw[jY]at hm;exact⟨w.heap.size,hm,hz,hE.Jl _ (hd.Jl _ hD0)⟩
           ·exact(hM.wW hdd).all d hm
          ·refine tq.2 ⟨λd hdm=>?_,hM.nd⟩;obtain⟨D,rfl,h1,h2⟩:=hM.all d hdm;have hlt:=(qw.1 h2).1;intro hh;simp[HN]at hh;omega
         refine⟨qM j,w4,hend,?_⟩;rcases LG hKj with⟨rfl,hk⟩|⟨rfl,hk⟩|⟨i,rfl,hk⟩
         ·rw[hpend];exact hn e _ _ hst' hk
         ·rw[hpend];exact wpIn_ret (hr e _ _ hst' hk)
         ·rw[hpend];exact wpIn_exit (hx i e _ _ hst' hk)
       |_=>exact hrun.elim
     · -- one round
      intro x W R hB hW;rw[hst0]at hW;refine⟨fn,(ps.zip ((Rs.mk rs x).map V1.enc).toArray).foldl (λt (x:Nat×Value)=>t.setIfInBounds x.1 x.2) a.tmps,as,body,?_,?_⟩
      ·have hy:=run_yield (P:=P) (args:=((Rs.mk rs x).map V1.enc).toArray) hW (by rw[r2];simp[←hlen,Rs.len]);rw[r1,r2,r3,r4,r5]at hy;exact hy
      refine roundIn_of_wpIn trivial ?_;rw[Qi,I3];have hA0:lU (y9 (fK e) ps.toList (Rs.mk rs x)) ⟨(ps.toList.zip ((Rs.mk rs x).map V1.enc)).foldl (λt (x:Nat×Value)=>t.setIfInBounds x.1 x.2) a.tmps,[]⟩:=
       El (tmps:=a.tmps) ⟨hA.ti.len,hA.ti.ok⟩
      refine iha true p _ _ _ _ (some _) 0 _ W _ (λhh=>by cases hh) hA0 (Marks.nil 0 W) (kv _) hB ?_ (λ_ _ _ _ _ hh=>hh.elim) (λ_ _ _ _ hh=>hh.elim);rintro e1 a1 w2 s1 ⟨hW1,hmid⟩;rw[hst0]at hW1;refine⟨_,run_beginRound hW1 (by rw[hrec]),?_⟩;have hE1:=BT (o':=.loop {rec with state:=.busy}) hW1 (by simp);have hb1:(w2.putObj (w.heap.size+1) (.loop {rec with state:=.busy})).heap[w.heap.size+1]?=some busy:=by
       rw[hbusy];exact MO (qw.1 hW1).1
      have hbody:=hmid _ hE1 hb1 (by simp);have last:∀(j:Nat) (W2:World) (jump:Option Code) (b:Bool),qM j=jump→jump.isNone=b→W2.heap[w.heap.size+1]?=some busy→(∀W3,jO (Dn (w.heap.size+1)) W2 W3→W3.heap[w.heap.size+1]?=some (st j)→W3.heap.size=W2.heap.size→R (.bool b) W3)→
        ∃v w',(Instr.endRound (w.heap.size+1) jump).run P W2=.ok v w'∧∃u,Ending.returned v=Ending.returned u∧R u w':=by
       intro j W2 jump b hj hb hW2 hk;rw[hbusy]at hW2;subst hj;subst hb;refine⟨_,_,run_endRound (qM j) hW2,_,rfl,?_⟩;refine hk _ (BT hW2 (by simp)) ?_ (by simp);rw[MO (qw.1 hW2).1,hst]
      refine ihb true q e1 _ _ _ (some _) 0 a1 _ _ (λhh=>by cases hh) s1.N1 (s1.marks.wW hE1.wW) (kv _) hbody ?_ ?_ ?_
      ·rintro e2 a2 w3 s2 ⟨h1,h2⟩;exact last 0 w3 none true (by rw[hpend]) rfl h1 h2
      ·rintro i e2 a2 w3 s2 ⟨h1,h2⟩;exact last (i+2) w3 (some (.exit i)) false (by rw[hpend]) rfl h1 h2
      ·rintro e2 a2 w3 s2 ⟨h1,h2⟩;exact last 1 w3 (some .ret) false (by rw[hpend]) rfl h1 h2
    ·subst hX;exact h.elim
   ·subst hX;exact h.elim
  |_=>exact h.elim
 |refuse why=>
  intro inR an e kn kx kr r n0 a w Q hro hA hM hz h hn hx hr;cases an<;>exact h.elim
end Go.X

namespace Go.X
variable {P:Program}
theorem zJ{n b:Nat}{w w':World}(h:Lv n w w'):∀{ls:List Lf} {o:Nat},Reads w b o ls→Reads w' b o ls
 |[],_,_=>trivial
 |l::ls,o,hr=>by
  refine⟨?_,zJ h hr.2⟩;have h1:=hr.1;rw[←h1];refine World.cell?_of_block (h.same b (.inr λhh=>?_));have:w.cell? ⟨b,o,none⟩=none:=by simp[World.cell?,hh]
  rw[this]at h1;cases h1
def zH(tmps:Array Value):ResultVar→Sem Value:=fun
 |.tmp t=>pure (tmps.getD t undef)
 |.cell a t=>do loadVar t (←asAddr (tmps.getD a undef))
theorem Jr{tmps:Array Value}{t:Nat}{v:Value}(h:tmps[t]?=some v)(w:World):(zH tmps (.tmp t)).run P w=.ok v w:=by
 simp[zH,h]
theorem zI{tmps:Array Value}{t:Nat}{ty:TypeId}{p:Pt}{v:Value}{w:World}(h:tmps[t]?=some (.pointer (some p.addr)))(hv:(loadVar ty ⟨p.b,p.o,none⟩).run P w=.ok v w):(zH tmps (.cell t ty)).run P w=.ok v w:=by
 simp[zH,h,asAddr,hv,Pt.addr]
theorem xL{n:Nat}{e:Env}{a:Act}{w w':World}(hA:lU e a)(hl:Lv n w w'):∀{l:List ResultVar} {K:List V1→WP},Aw P e l K w→
  ∃vs,K vs w∧(l.mapM (zH a.tmps)).run P w'=.ok (vs.map V1.enc) w'
 |[],K,h=>⟨[],h,by simp⟩
 |.tmp t::r,K,h=>by
  obtain⟨Y,hX,h⟩:∃Y,Aw P e (.tmp t::r) K=Y∧Y w:=⟨_,rfl,h⟩;simp only[Aw]at hX;split at hX
  ·rename_i v hv;subst hX;obtain⟨vs,hk,hr⟩:=xL hA hl h;have:=hA.val hv;refine⟨v::vs,hk,?_⟩;rw[Cu];simp only[cj,Jr this,dp,hr,dQ]
   rfl
  ·subst hX;exact h.elim
 |.cell t ty::r,K,h=>by
  obtain⟨Y,hX,h⟩:∃Y,Aw P e (.cell t ty::r) K=Y∧Y w:=⟨_,rfl,h⟩;simp only[Aw]at hX;split at hX
  ·rename_i p c hp hs;subst hX;obtain⟨x,hx,h⟩:=h;obtain⟨vs,hk,hr⟩:=xL hA hl h;have:=hA.val hp;obtain⟨hg,d,hd⟩:=zX hs;refine⟨_,hk,?_⟩;rw[Cu];have hld:=tY (P:=P) hd hg (zJ hl hx);simp only[cj,zI this hld,dp,hr,dQ]
   rfl
  ·rename_i p cs hp hs;subst hX;obtain⟨x,hx,h⟩:=h;obtain⟨vs,hk,hr⟩:=xL hA hl h;have:=hA.val hp;obtain⟨hg,⟨d,hd⟩,hlen⟩:=vA hs;refine⟨_,hk,?_⟩;rw[Cu];have hld:=rA (P:=P) hd hg (by rw[Ks.len];exact hlen) (zJ hl hx);simp only[cj,zI this hld,dp,hr,dQ]
   rfl
  ·subst hX;exact h.elim
theorem GG{fn:Func}{a:Act}{w:World}{vs:List V1}(h:(fn.results.toList.mapM (zH a.tmps)).run P w=.ok (vs.map V1.enc) w):(results fn a.tmps).run P w=.ok (mE vs).enc w:=by
 have e1:results fn a.tmps=(fn.results.mapM (zH a.tmps)>>=λvs=>pure (if h:vs.size=1 then vs[0]else .tuple vs)):=rfl;rw[e1,Array.mapM_eq_mapM_toList];simp only[map_eq_pure_bind,cj];rw[h];simp only[dp,dQ];cases vs with
 |nil=>rfl
 |cons v vs=>cases vs with
  |nil=>rfl
  |cons u us=>simp[mE,TV.enc]
theorem IZ(args:List V1)(n i:Nat):(DH n args).get i=match args[i]? with|some v=>.val (.one v)|none=>if i<n then .val CS else .un:=by
 have hg:∀(e:Env) (j:Nat),e.get j=(e[j]?).getD .un:=λe=>by
  induction e with
  |nil=>intro j;rfl
  |cons x e ih=>intro j;cases j<;>simp[Env.get,ih]
 rw[hg];unfold DH;rw[zp];simp only[kT,oD];by_cases hi:i<args.length
 ·rw[aC hi,jG hi];rfl
 ·rw[ay hi,vc (by omega:args.length≤i),List.getElem?_replicate];by_cases h2:i<n
  ·rw[aC (by omega),aC h2];rfl
  ·rw[ay (by omega),ay h2];rfl
theorem lU.start{args:List V1}{n:Nat}(hn:args.length≤n):lU (DH n args) {tmps:=(args.map V1.enc).toArray++Array.replicate (n-(args.map V1.enc).toArray.size) undef,defers:=[]}:=by
 refine⟨by simp[DH],λi=>?_⟩;rw[IZ];split
 ·rename_i v hv;obtain⟨hl,hv⟩:=gJ.1 hv;simp only[jd];rw[Array.getElem?_append_left (by simpa using hl)];simp[hl,hv,TV.enc]
 ·rename_i hv;split
  ·rename_i hi;simp only[jd];have hl:args.length≤i:=by simpa using hv
   rw[Array.getElem?_append_right (by simpa using hl)];simp only[Co,kT,MH];rw[aC (by omega)]
   rfl
  ·trivial
theorem HJ{fn:Func}{tmps:Array Value}{R:Ending→World→Prop}{n0:Nat}:∀{ds:List Deferred} {w:World},Marks n0 ds w→
  (∀w',Lv n0 w w'→LeavesInM Fence.wide 0 P fn tmps R [] .returning w')→LeavesInM Fence.wide 0 P fn tmps R ds .returning w
 |[],w,_,h=>h w ⟨rfl,rfl,rfl,rfl,λ_ _=>rfl⟩
 |d::ds,w,hM,h=>by
  obtain⟨D,rfl,hD,ho⟩:=hM.all d (qz);have hne:∀k,k≠D→(w.putObj D (.deferred none)).heap[k]?=w.heap[k]?:=λk hk=>F7 hk;refine⟨by simp,.inl ⟨D,w.putObj D (.deferred none),rfl,run_takeDeferred ho,HJ (n0:=n0) ⟨?_,(tq.1 hM.nd).2⟩ ?_⟩⟩
  ·intro d hd;obtain⟨D',rfl,h1,h2⟩:=hM.all d (by simp[hd]);have:D'≠D:=λhh=>(tq.1 hM.nd).1 _ hd (by rw[hh]);exact⟨D',rfl,h1,by rw[hne _ this];exact h2⟩
  ·intro w' hl;refine h w' ⟨hl.os,hl.tape,hl.output,by rw[hl.size];simp,λk hk=>?_⟩;have hkD:k≠D:=by
    rintro rfl;rcases hk with hk|hk
    ·omega
    ·exact hk ho
   rw[hl.same k (hk.imp id λhh=>by rw[hne k hkD];exact hh),hne k hkD]
theorem te{f:FuncId}{fn:Func}{an:EZ}{args:List V1}{rs:List Sh}{R:Rs.T rs→WP}{A:WP}{w:World}(hf:P.funcs[f]?=some fn)(he:JV P f=true)(hn:Nat.ble args.length fn.ntmps=true)
  (hs:U6 (P6 P fn an args rs R) A) (h:A w):kh P f (args.map V1.enc) w λv w'=>∃x,v=(mE (Rs.mk rs x)).enc∧R x w':=by
 rw[←hs.eq]at h;refine .enters ⟨he,?_⟩;unfold P6 at h;cases hb:fn.body with
 |none=>rw[hb]at h;exact h.elim
 |some c=>
  rw[hb]at h;simp only at h;refine callsIn_of_wp_marks hf hb trivial ?_;have aG:∀e' a' w',St w.heap.size (writes c) (cz c) {tmps:=(args.map V1.enc).toArray++Array.replicate (fn.ntmps-(args.map V1.enc).toArray.size) undef,defers:=[]} e' a' w'→
    Aw P e' fn.results.toList (λvs=>Uo rs vs λx=>match cz c with|true=>lB w.heap.size (R x)|false=>R x) w'→
    LeavesInM Fence.wide 0 P fn a'.tmps (λe w'=>∃v,e=.returned v∧∃x,v=(mE (Rs.mk rs x)).enc∧R x w') a'.defers .returning w':=by
   intro e' a' w' s hret;have key:∀w2,Lv w.heap.size w' w2→(∃x vs,Rs.mk rs x=vs∧(match cz c with|true=>lB w.heap.size (R x)|false=>R x) w'∧(results fn a'.tmps).run P w2=.ok (mE vs).enc w2):=by
    intro w2 hl;obtain⟨vs,hk,hr⟩:=xL s.N1 hl hret;unfold Uo at hk;cases hu:Rs.un rs vs with
    |none=>rw[hu]at hk;exact hk.elim
    |some x=>
     rw[hu]at hk;exact⟨x,vs,Rs.gZ hu,hk,GG hr⟩
   cases hr:cz c with
   |false=>
    rw[s.df hr];obtain⟨x,vs,h1,h2,h3⟩:=key w' ⟨rfl,rfl,rfl,rfl,λ_ _=>rfl⟩;rw[hr]at h2;exact⟨_,h3,_,rfl,x,by rw[h1],h2⟩
   |true=>
    refine HJ s.marks λw2 hl=>?_;obtain⟨x,vs,h1,h2,h3⟩:=key w2 hl;rw[hr]at h2;exact⟨_,h3,_,rfl,x,by rw[h1],h2 w2 hl⟩
  exact Uc c false an _ _ _ _ none w.heap.size _ w (bodyPostM Fence.wide 0 P fn _) (λ_=>rfl) (lU.start (Gb hn)) (Marks.nil _ w) (fa _) h
   aG (λ_ _ _ _ _ hh=>hh.elim) aG
theorem BJ{f : FuncId}{fn : Func}{x : Array Value → Sem Value}{args : List Value}{w w' : World}{v : Value}{R : Value → World → Prop}(hf : P.funcs[f]? = some fn)(hname : (fn.name == "runtime.NumGoroutine") = false)
  (hb:fn.body.isNone=true) (hn:Extern.findNext fn=none) (he:Extern.find fn=some x) (hx:(x args.toArray).run P w=.ok v w') (hR:R v w'):kh P f args w R:=by
 refine .ao v w' ?_ hR;rw[run_callFunc_extern hf hname hb hn he,hx]
 rfl
end Go.X

namespace Go.X
variable {P:Program}
structure SP where
 h:World→(Nat→Prop)→(Nat→Prop)→Prop
 st:∀{w w':World} {S R:Nat→Prop},h w S R→(∀k,S k∨R k→w'.heap[k]?=w.heap[k]?)→h w' S R
 nd:∀{w:World} {S R:Nat→Prop} {k:Nat},h w S R→S k∨R k→∃o,w.heap[k]?=some o∧o≠lC
theorem SP.lt(p:SP){w:World}{S R:Nat→Prop}{k:Nat}(h:p.h w S R)(hk:S k∨R k):k<w.heap.size:=by
 obtain⟨o,ho,_⟩:=p.nd h hk;exact(qw.1 ho).1
theorem SP.ext(p:SP){w w':World}{S R T:Nat→Prop}(h:p.h w S R)(e:jO T w w')(hS:∀k,S k→¬T k)(hR:∀k,R k→¬T k):p.h w' S R:=
 p.st h λk hk=>e.same k (p.lt h hk) (hk.elim (hS k) (hR k))
def aT:SP:=⟨λ_ S R=>(∀k,¬S k)∧∀k,¬R k,λh _=>h,λh hk=>(hk.elim (h.1 _) (h.2 _)).elim⟩
def star(p q:SP):SP where
 h w S R:=∃S1 R1 S2 R2:Nat→Prop,p.h w S1 R1∧q.h w S2 R2∧(∀k,S k↔S1 k∨S2 k)∧(∀k,R k↔R1 k∨R2 k)∧(∀k,S1 k→¬S2 k)∧(∀k,S1 k→¬R2 k)∧∀k,R1 k→¬S2 k
 st:=by
  rintro w w' S R ⟨S1,R1,S2,R2,h1,h2,hS,hR,d⟩ hw;exact⟨S1,R1,S2,R2,p.st h1 λk hk=>hw k (hk.imp (λh=>(hS k).2 (.inl h)) (λh=>(hR k).2 (.inl h))),q.st h2 λk hk=>hw k (hk.imp (λh=>(hS k).2 (.inr h)) (λh=>(hR k).2 (.inr h))),hS,hR,d⟩
 nd:=by
  rintro w S R k ⟨S1,R1,S2,R2,h1,h2,hS,hR,d⟩ hk;rcases hk with hk|hk
  ·rcases(hS k).1 hk with hk|hk
   ·exact p.nd h1 (.inl hk)
   ·exact q.nd h2 (.inl hk)
  ·rcases(hR k).1 hk with hk|hk
   ·exact p.nd h1 (.inr hk)
   ·exact q.nd h2 (.inr hk)
instance:HPow SP SP SP:=⟨star⟩
def ex{α:Type}(f:α→SP):SP:=⟨λw S R=>∃a,(f a).h w S R,λ⟨a,h⟩ hw=>⟨a,(f a).st h hw⟩,λ⟨a,h⟩ hk=>(f a).nd h hk⟩
def bh(p:Prop)(q:SP):SP:=⟨λw S R=>p∧q.h w S R,λ⟨a,h⟩ hw=>⟨a,q.st h hw⟩,λ⟨_,h⟩ hk=>q.nd h hk⟩
def Le(p q:SP):Prop:=∀w S R,p.h w S R→q.h w S R
theorem Le.rfl{p:SP}:Le p p:=λ_ _ _ h=>h
theorem Le.trans{p q r:SP}(h:Le p q)(k:Le q r):Le p r:=λw S R x=>k w S R (h w S R x)
theorem aZ{p p' q q':SP}(h:Le p p')(k:Le q q'):Le (p^q) (p'^q'):=by
 rintro w S R ⟨S1,R1,S2,R2,h1,h2,d⟩;exact⟨S1,R1,S2,R2,h _ _ _ h1,k _ _ _ h2,d⟩
theorem aV(p q:SP):Le (p^q) (q^p):=by
 rintro w S R ⟨S1,R1,S2,R2,h1,h2,hS,hR,d1,d2,d3⟩;exact⟨S2,R2,S1,R1,h2,h1,λk=>(hS k).trans Or.comm,λk=>(hR k).trans Or.comm,λk a b=>d1 k b a,λk a b=>d3 k b a,λk a b=>d2 k b a⟩
theorem cy(p q r:SP):Le ((p^q)^r) (p^q^r):=by
 rintro w S R ⟨S12,R12,S3,R3,⟨S1,R1,S2,R2,h1,h2,hS',hR',e1,e2,e3⟩,h3,hS,hR,d1,d2,d3⟩;refine⟨S1,R1,λk=>S2 k∨S3 k,λk=>R2 k∨R3 k,h1,⟨S2,R2,S3,R3,h2,h3,λ_=>lR,λ_=>lR,λk a b=>d1 k ((hS' k).2 (.inr a)) b,λk a b=>d2 k ((hS' k).2 (.inr a)) b,λk a b=>d3 k ((hR' k).2 (.inr a)) b⟩,
  λk=>(hS k).trans ⟨λh=>h.elim (λh=>((hS' k).1 h).elim .inl λh=>.inr (.inl h)) λh=>.inr (.inr h),λh=>h.elim (λh=>.inl ((hS' k).2 (.inl h))) λh=>h.elim (λh=>.inl ((hS' k).2 (.inr h))) .inr⟩,
  λk=>(hR k).trans ⟨λh=>h.elim (λh=>((hR' k).1 h).elim .inl λh=>.inr (.inl h)) λh=>.inr (.inr h),λh=>h.elim (λh=>.inl ((hR' k).2 (.inl h))) λh=>h.elim (λh=>.inl ((hR' k).2 (.inr h))) .inr⟩,?_,?_,?_⟩
 ·rintro k a (b|b)
  ·exact e1 k a b
  ·exact d1 k ((hS' k).2 (.inl a)) b
 ·rintro k a (b|b)
  ·exact e2 k a b
  ·exact d2 k ((hS' k).2 (.inl a)) b
 ·rintro k a (b|b)
  ·exact e3 k a b
  ·exact d3 k ((hR' k).2 (.inl a)) b
theorem cM(p q r:SP):Le (p^q^r) ((p^q)^r):=
 ((aV _ _).trans ((aZ (aV _ _) Le.rfl).trans ((cy _ _ _).trans ((aV _ _).trans (aZ (aV _ _) Le.rfl)))))
theorem fW(p q r:SP):Le (p^q^r) (q^p^r):=(cM _ _ _).trans ((aZ (aV _ _) Le.rfl).trans (cy _ _ _))
theorem aF(p:SP):Le p (p^aT):=λw S R h=>⟨S,R,λ_=>False,λ_=>False,h,⟨λ_ h=>h,λ_ h=>h⟩,λk=>by simp,λk=>by simp,λ_ _ h=>h,λ_ _ h=>h,λ_ _ h=>h⟩
structure au(w0:World)(S0 R0:Nat→Prop)(w:World)(F:SP):Prop where
 ext:jO S0 w0 w
 own:∃S R,F.h w S R∧(∀k,S k→S0 k∨w0.heap.size≤k)∧∀k,R k→S0 k∨R0 k∨w0.heap.size≤k
section
variable {w0 w:World} {S0 R0:Nat→Prop} {F G A B:SP}
theorem sE(h:F.h w S0 R0):au w S0 R0 w F:=⟨jO.refl _ _,S0,R0,h,λ_ h=>.inl h,λ_ h=>.inr (.inl h)⟩
theorem au.le(h:au w0 S0 R0 w F)(k:Le F G):au w0 S0 R0 w G:=by
 obtain⟨S,R,hF,hS,hR⟩:=h.own;exact⟨h.ext,S,R,k _ _ _ hF,hS,hR⟩
theorem au.drop(h:au w0 S0 R0 w (A^F)):au w0 S0 R0 w F:=by
 obtain⟨S,R,⟨S1,R1,S2,R2,h1,h2,hS',hR',_⟩,hS,hR⟩:=h.own;exact⟨h.ext,S2,R2,h2,λk hk=>hS k ((hS' k).2 (.inr hk)),λk hk=>hR k ((hR' k).2 (.inr hk))⟩
theorem au.bk(h:au w0 S0 R0 w (A^F)):au w0 S0 R0 w A:=(h.le (aV _ _)).drop
theorem au.fV(h:au w0 S0 R0 w F):au w0 S0 R0 w aT:=((h.le (aF F)).drop)
theorem au.lX{α:Type}{f:α→SP}(h:au w0 S0 R0 w (ex f^F)):∃a,au w0 S0 R0 w (f a^F):=by
 obtain⟨S,R,⟨S1,R1,S2,R2,⟨a,h1⟩,h2,d⟩,hS,hR⟩:=h.own;exact⟨a,h.ext,S,R,⟨S1,R1,S2,R2,h1,h2,d⟩,hS,hR⟩
theorem au.aB{p:Prop}{A:SP}(h:au w0 S0 R0 w (bh p A^F)):p∧au w0 S0 R0 w (A^F):=by
 obtain⟨S,R,⟨S1,R1,S2,R2,⟨hp,h1⟩,h2,d⟩,hS,hR⟩:=h.own;exact⟨hp,h.ext,S,R,⟨S1,R1,S2,R2,h1,h2,d⟩,hS,hR⟩
theorem au.s_{α:Type}{f:α→SP}(a:α)(h:au w0 S0 R0 w (f a^F)):au w0 S0 R0 w (X.ex f^F):=h.le (aZ (λ_ _ _ h=>⟨a,h⟩) Le.rfl)
theorem au.iF{p:Prop}{A:SP}(hp:p)(h:au w0 S0 R0 w (A^F)):au w0 S0 R0 w (X.bh p A^F):=h.le (aZ (λ_ _ _ h=>⟨hp,h⟩) Le.rfl)
theorem au.part(h:au w0 S0 R0 w (A^F)):∃S R,A.h w S R∧(∀k,S k→S0 k∨w0.heap.size≤k)∧
  ∀(w':World) (B:SP) (S' R':Nat→Prop),jO S w w'→B.h w' S' R'→(∀k,S' k→S k∨w.heap.size≤k)→(∀k,R' k→S k∨R k∨w.heap.size≤k)→au w0 S0 R0 w' (B^F):=by
 obtain⟨S,R,⟨S1,R1,S2,R2,h1,h2,hS',hR',d1,d2,d3⟩,hS,hR⟩:=h.own;refine⟨S1,R1,h1,λk hk=>hS k ((hS' k).2 (.inl hk)),λw' B S' R' he hB hs hr=>?_⟩;have hsz:=h.ext.size;refine⟨h.ext.trans' he λi hi hk=>(hS i ((hS' i).2 (.inl hk))).elim id λh=>absurd h (by omega),λk=>S' k∨S2 k,λk=>R' k∨R2 k,⟨S',R',S2,R2,hB,F.ext h2 he (λk a b=>d1 k b a) (λk a b=>d2 k b a),λ_=>lR,λ_=>lR,?_,?_,?_⟩,?_,?_⟩
 ·intro k a b;rcases hs k a with hh|hh
  ·exact d1 k hh b
  ·have:=F.lt h2 (.inl b);omega
 ·intro k a b;rcases hs k a with hh|hh
  ·exact d2 k hh b
  ·have:=F.lt h2 (.inr b);omega
 ·intro k a b;rcases hr k a with hh|hh|hh
  ·exact d1 k hh b
  ·exact d3 k hh b
  ·have:=F.lt h2 (.inl b);omega
 ·rintro k (hk|hk)
  ·rcases hs k hk with hh|hh
   ·exact hS k ((hS' k).2 (.inl hh))
   ·exact .inr (by omega)
  ·exact hS k ((hS' k).2 (.inr hk))
 ·rintro k (hk|hk)
  ·rcases hr k hk with hh|hh|hh
   ·exact(hS k ((hS' k).2 (.inl hh))).imp id .inr
   ·exact hR k ((hR' k).2 (.inl hh))
   ·exact .inr (.inr (by omega))
  ·exact hR k ((hR' k).2 (.inr hk))
theorem au.more(h:au w0 S0 R0 w F){w':World}{B:SP}{S':Nat→Prop}(he:jO D5 w w')(hB:B.h w' S' (λ_=>False))(hs:∀k,S' k→w.heap.size≤k):au w0 S0 R0 w' (B^F):=by
 have h:=h.le ((aF F).trans (aV _ _));obtain⟨S,R,h1,_,h2⟩:=h.part;exact h2 w' B S' _ (he.mono λ_ _ h=>h.elim) hB (λk hk=>.inr (hs k hk)) (λ_ h=>h.elim)
theorem au.same(h:au w0 S0 R0 w F){w':World}(he:jO D5 w w'):au w0 S0 R0 w' F:=by
 have h:=h.le ((aF F).trans (aV _ _));obtain⟨S,R,h1,_,h2⟩:=h.part;exact(h2 w' aT (λ_=>False) (λ_=>False) (he.mono λ_ _ h=>h.elim) ⟨λ_ h=>h,λ_ h=>h⟩ (λ_ h=>h.elim) (λ_ h=>h.elim)).drop
theorem au.lv(h:au w0 S0 R0 w F){w':World}(hl:Lv w0.heap.size w w'):au w0 S0 R0 w' F:=by
 obtain⟨S,R,hF,hS,hR⟩:=h.own;have e:=h.ext;refine⟨⟨hl.os.trans e.os,hl.tape.trans e.tape,hl.output.trans e.output,by rw[hl.size];exact e.size,λk hk hn=>?_,λk hk=>?_⟩,S,R,F.st hF λk hk=>?_,hS,hR⟩
 ·rw[hl.same k (.inl hk)];exact e.same k hk hn
 ·rw[hl.same k (.inl (qw.1 hk).1)];exact e.Jl k hk
 ·obtain⟨o,ho,hne⟩:=F.nd hF hk;exact hl.same k (.inr (by rw[ho];exact λhh=>hne (mD hh)))
end
class Take(A F:SP)(G:outParam SP):Prop where
 le:Le F (A^G)
instance US(A G:SP):Take A (A^G) G:=⟨Le.rfl⟩
instance (priority:=500) Um(A B F G:SP)[t:Take A F G]:Take A (B^F) (B^G):=⟨(aZ Le.rfl t.le).trans (fW _ _ _)⟩
instance (priority:=900) UT(A:SP):Take A A aT:=⟨aF A⟩
instance (priority:=950) V4(F:SP):Take aT F F:=⟨(aF F).trans (aV _ _)⟩
instance (priority:=400) WS(A B C F G:SP)[t:Take A (B^C^F) G]:Take A ((B^C)^F) G:=⟨(cy _ _ _).trans t.le⟩
instance (priority:=1100) UU(A B F G H:SP)[t:Take A F G][u:Take B G H]:Take (A^B) F H:=⟨t.le.trans ((aZ Le.rfl u.le).trans (cM _ _ _))⟩
theorem au.take{w0 w:World}{S0 R0:Nat→Prop}{F G:SP}(A:SP)[t:Take A F G](h:au w0 S0 R0 w F):au w0 S0 R0 w (A^G):=h.le t.le
theorem au.aG{w0 w:World}{S0 R0:Nat→Prop}{F G A:SP}(h:au w0 S0 R0 w F)[t:Take A F G]:au w0 S0 R0 w A:=(h.le t.le).bk
def ah(b:Nat)(L:List Lf):SP where
 h w S R:=AC w b L∧(∀k,S k↔k=b)∧∀k,¬R k
 st:=by
  rintro w w' S R ⟨⟨T,h⟩,hS,hR⟩ hw;exact⟨⟨T,by rw[hw b (.inl ((hS b).2 rfl))];exact h⟩,hS,hR⟩
 nd:=by
  rintro w S R k ⟨⟨T,h⟩,hS,hR⟩ hk;rcases hk with hk|hk
  ·rw[(hS k).1 hk];exact⟨_,h,by simp[lC]⟩
  ·exact(hR k hk).elim
def obj(b:Nat)(o:Obj):SP where
 h w S R:=(w.heap[b]?=some o∧o≠lC)∧(∀k,S k↔k=b)∧∀k,¬R k
 st:=by
  rintro w w' S R ⟨h,hS,hR⟩ hw;exact⟨⟨by rw[hw b (.inl ((hS b).2 rfl))];exact h.1,h.2⟩,hS,hR⟩
 nd:=by
  rintro w S R k ⟨h,hS,hR⟩ hk;rcases hk with hk|hk
  ·rw[(hS k).1 hk];exact⟨_,h⟩
  ·exact(hR k hk).elim
class mr(b:Nat)(F:SP)(L:outParam (List Lf))(G:outParam SP):Prop where
 le:Le F (ah b L^G)
instance Ui(b:Nat)(L:List Lf)(G:SP):mr b (ah b L^G) L G:=⟨Le.rfl⟩
instance (priority:=900) Uj(b:Nat)(L:List Lf):mr b (ah b L) L aT:=⟨aF _⟩
instance (priority:=400) V0(b:Nat)(L:List Lf)(B C F G:SP)[t:mr b (B^C^F) L G]:mr b ((B^C)^F) L G:=⟨(cy _ _ _).trans t.le⟩
instance (priority:=500) Q1(b:Nat)(L:List Lf)(B F G:SP)[t:mr b F L G]:mr b (B^F) L (B^G):=⟨(aZ Le.rfl t.le).trans (fW _ _ _)⟩
section
variable {w0 w:World} {S0 R0:Nat→Prop} {F G A B:SP}
theorem au.Rw{b:Nat}{L:List Lf}(h:au w0 S0 R0 w (ah b L^F)):AC w b L∧∀(w':World) (L':List Lf),jO (Dn b) w w'→AC w' b L'→au w0 S0 R0 w' (X.ah b L'^F):=by
 obtain⟨S,R,⟨h1,hS,hR⟩,_,h2⟩:=h.part;exact⟨h1,λw' L' he hb=>h2 w' (X.ah b L') S (λ_=>False) (he.mono λk _ hk=>(hS k).2 hk) ⟨hb,hS,λ_ h=>h⟩ (λ_ h=>.inl h) (λ_ h=>h.elim)⟩
theorem aA{ls:List Lf}{K:Nat→WP}(h:au w0 S0 R0 w F)(k:∀b w',au w0 S0 R0 w' (ah b ls^F)→K b w'):new ls K w:=
 λw' he hb _=>k _ w' (h.more he (S':=λk=>k=w.heap.size) ⟨hb,λ_=>lR,λ_ h=>h⟩ (λ_ hk=>by rw[hk];exact fa _))
theorem H9:∀{ks:Ks} {x:Ks.T ks},Ks.un ks (Ks.mk ks x)=some x:=by
 intro ks;have one:∀(c:CK) (x:c.T),c.un (c.mk x)=some x:=λc x=>by cases c<;>simp[CK.un,CK.mk]
 induction ks with
 |nil=>intro x;rfl
 |cons c ks ih=>
  cases ks with
  |nil=>intro x;simp[Ks.un,Ks.mk,one]
  |cons d r=>intro x;simp only[Ks.un,Ks.mk,one,ih]
theorem MY{b o:Nat}{L:List Lf}{ks:Ks}{x:Ks.T ks}(hb:AC w b L)(hx:Ks.un ks ((L.drop o).take ks.length)=some x):Reads w b o (Ks.mk ks x):=by
 have e:=Ks.gZ hx;refine hb.reads _ _ λi hi=>?_;rw[e];rw[e]at hi;have hi2:i<ks.length:=by rw[fM]at hi;omega
 rw[oC,aC hi2,ve]
theorem aj{p:Pt}{ks:Ks}{K:Ks.T ks→WP}{L:List Lf}{x:Ks.T ks}(h:au w0 S0 R0 w F)[t:mr p.b F L G](hx:Ks.un ks ((L.drop p.o).take ks.length)=some x)(k:K x w):ld ks p K w:=
 ⟨x,MY (h.le t.le).Rw.1 hx,k⟩
theorem aI{p:Pt}{ls:List Lf}{A:WP}{L:List Lf}(h:au w0 S0 R0 w F)[t:mr p.b F L G](hx:(L.drop p.o).take ls.length=ls)(k:A w):co p ls A w:=by
 refine⟨(h.le t.le).Rw.1.reads _ _ λi hi=>?_,k⟩;have:((L.drop p.o).take ls.length)[i]?=ls[i]?:=by rw[hx]
 rwa[oC,aC hi,ve]at this
theorem Wa{p:Pt}{ls:List Lf}{A:WP}{L:List Lf}(h:au w0 S0 R0 w F)[t:mr p.b F L G](hx:p.o+ls.length≤L.length)(k:∀w',au w0 S0 R0 w' (X.ah p.b (eK L p.o ls)^G)→A w'):st p ls A w:=by
 obtain⟨h1,h2⟩:=(h.le t.le).Rw;exact⟨L,h1,hx,λw' he hb _=>k w' (h2 w' _ he hb)⟩
theorem aH{A:WP}(h:au w0 S0 R0 w F)(k:∀w',au w0 S0 R0 w' F→A w'):bF A w:=λw' he _=>k w' (h.same he)
theorem aN{A:WP}(h:au w0 S0 R0 w F)(k:∀w',au w0 S0 R0 w' F→A w'):lB w0.heap.size A w:=λw' hl=>k w' (h.lv hl)
theorem ae{b:Bool}{A B:WP}(h1:b=true→A w)(h2:b=false→B w):aq b A B w:=by
 cases b
 ·exact h2 rfl
 ·exact h1 rfl
def xW(P:Program)(f:FuncId)(args:List V1)(rs:List Sh)(Pre:SP)(Post:Rs.T rs→SP):Prop:=
 ∀w S R,Pre.h w S R→kh P f (args.map V1.enc) w λv w'=>∃x,v=(mE (Rs.mk rs x)).enc∧au w S R w' (Post x)
def J3(P:Program)(f:Fv)(args:List V1)(rs:List Sh)(Pre:SP)(Post:Rs.T rs→SP):Prop:=
 ∀w S R,Pre.h w S R→qS P f (args.map V1.enc) w λv w'=>∃x,v=(mE (Rs.mk rs x)).enc∧au w S R w' (Post x)
def xo(P:Program)(f:Fv)(args:List V1)(rs:List Sh)(Pre:SP)(Post:Rs.T rs→SP):Prop:=
 ∀w S R,Pre.h w S R→uw P f (args.map V1.enc) w λv w'=>∃x,v=(mE (Rs.mk rs x)).enc∧au w S R w' (Post x)
theorem qS.v{f:Fv}{args:List Value}{w:World}{R:Value→World→Prop}(h:qS P f args w R):uw P f args w R:=by
 cases f with
 |nil=>exact h.elim
 |mk fn a c=>cases fn with
  |func g=>exact h
  |_=>exact h.elim
theorem J3.v{f:Fv}{args:List V1}{rs:List Sh}{Pre:SP}{Post:Rs.T rs→SP}(h:J3 P f args rs Pre Post):xo P f args rs Pre Post:=λw S R hp=>(h w S R hp).v
theorem au.call{Pre:SP}(h:au w0 S0 R0 w (Pre^G)):∃S R,Pre.h w S R∧∀w' Q,au w S R w' Q→lH w w'∧au w0 S0 R0 w' (Q^G):=by
 obtain⟨S,R,h1,_,h2⟩:=h.part;refine⟨S,R,h1,λw' Q hq=>?_⟩;obtain⟨S',R',hQ,hs,hr⟩:=hq.own;exact⟨hq.ext.wW,h2 w' Q S' R' hq.ext hQ hs hr⟩
theorem af{f:FuncId}{args:List V1}{rs:List Sh}{Pre:SP}{Post:Rs.T rs→SP}{K:Rs.T rs→WP}(t:xW P f args rs Pre Post)(h:au w0 S0 R0 w F)[tk:Take Pre F G](k:∀x w',au w0 S0 R0 w' (Post x^G)→K x w'):call P f args rs K w:=by
 obtain⟨S,R,h1,h2⟩:=(h.le tk.le).call;exact kh.mono (t w S R h1) λv w' ⟨x,hv,ho⟩=>⟨x,hv,(h2 w' _ ho).1,k x w' (h2 w' _ ho).2⟩
theorem np{f:Fv}{args:List V1}{rs:List Sh}{Pre:SP}{Post:Rs.T rs→SP}{K:Rs.T rs→WP}(t:xo P f args rs Pre Post)(h:au w0 S0 R0 w F)[tk:Take Pre F G](k:∀x w',au w0 S0 R0 w' (Post x^G)→K x w'):tg P f args rs K w:=by
 obtain⟨S,R,h1,h2⟩:=(h.le tk.le).call;exact uw.mono (t w S R h1) λv w' ⟨x,hv,ho⟩=>⟨x,hv,(h2 w' _ ho).1,k x w' (h2 w' _ ho).2⟩
end
end Go.X

