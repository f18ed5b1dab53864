/- A verified reading of Go code as a weakest precondition, and a logic of separate parts over it. -/
import Derived.Carry
import Derived.ChangeSlices
import Derived.Deep.LoopGhost
import Derived.KernelRfl
import Derived.Laws.Externs
import Derived.Laws.IdiomStrings
import Derived.MapKept
import Derived.OpenShut
import Derived.OrdersIn
import Derived.ProofKit
import Derived.RangeFuncKeeps
import Derived.RangeFuncLeaves
import Derived.RangeFuncRecord
import Derived.WalkKit
set_option linter.all false
namespace Go.X
abbrev ay:=@if_neg
abbrev aC:=@if_pos
abbrev bQ:=@of_decide_eq_false
abbrev bJ:=@of_decide_eq_true
abbrev dp:=@Result.andThen_ok
abbrev cj:=@Sem.run_bind
abbrev eR:=@Int.toNat_natCast
abbrev eC:=@List.mem_append
abbrev jG:=@List.getElem?_eq_getElem
abbrev fG:=@Bool.and_eq_true
abbrev jD:=@List.eq_nil_of_length_eq_zero
abbrev gJ:=@List.getElem?_eq_some_iff
abbrev dO:=@List.mem_cons
abbrev dQ:=@Sem.run_pure
abbrev iD:=@Nat.ble_eq_true_of_le
abbrev eZ:=@run_underlying
abbrev fM:=@List.length_take
abbrev gK:=@decide_eq_true_eq
abbrev lP:=@Int.tdiv_eq_ediv_of_nonneg
abbrev iE:=@List.length_append
abbrev kp:=@List.take_of_length_le
abbrev iW:=@Bool.false_eq_true
abbrev fa:=@Nat.le_refl
abbrev kQ:=@List.mem_of_getElem?
abbrev jY:=@List.mem_singleton
abbrev jE:=@List.nodup_append
abbrev jk:=@Bool.eq_iff_iff
abbrev oB:=@List.getElem?_append_left
abbrev kR:=@List.append_assoc
abbrev lF:=@List.take_add_one
abbrev kS:=@List.length_cons
abbrev qw:=@Array.getElem?_eq_some_iff
abbrev kT:=@List.length_map
abbrev nS:=@List.mem_cons_of_mem
abbrev kU:=@List.nodup_cons
abbrev qx:=@Option.isSome_iff_exists
abbrev kV:=@decide_eq_true
abbrev kq:=@List.map_cons
abbrev px:=@Nat.eq_of_beq_eq_true
abbrev mX:=@Bool.not_eq_true'
abbrev tn:=@List.getElem?_append_right
abbrev py:=@Nat.mul_le_mul_right
abbrev mY:=@List.cons_append
abbrev mD:=@Option.some.inj
abbrev oC:=@List.getElem?_take
abbrev qy:=@List.length_singleton
abbrev rJ:=@List.getElem?_set_self
abbrev jZ:=@Nat.add_mul
abbrev mZ:=@decide_eq_false
abbrev oD:=@List.getElem?_map
abbrev ku:=@Int.le_refl
abbrev kv:=@Nat.zero_le
abbrev qz:=@List.mem_cons_self
abbrev lQ:=@Nat.le_trans
abbrev oE:=@List.nil_append
abbrev qA:=@Option.some.injEq
abbrev iX:=@if_false
abbrev gU:=@if_true
abbrev vc:=@List.getElem?_eq_none
abbrev vd:=@List.mem_iff_getElem?
abbrev xc:=@Option.bind_eq_some_iff
abbrev jF:=@congrArg
abbrev qB:=@List.length_set
abbrev tq:=@List.pairwise_cons
abbrev nT:=@Nat.zero_add
abbrev rK:=@List.take_length
abbrev rM:=@List.append_nil
abbrev Em:=@List.findIdx?_eq_some_iff_getElem
abbrev rN:=@List.length_nil
abbrev rO:=@List.map_append
abbrev ve:=@List.getElem?_drop
abbrev zo:=@List.getElem?_cons_zero
abbrev xd:=@List.getElem?_set_ne
abbrev tu:=@List.getElem_mem
abbrev Bc:=@List.getD_eq_getElem?_getD
abbrev vf:=@not_false_eq_true
abbrev Be:=@List.drop_eq_getElem_cons
abbrev tv:=@List.mem_filter
abbrev tw:=@Option.map_some
abbrev zp:=@List.getElem?_append
abbrev En:=@Array.getD_eq_getD_getElem?
abbrev zq:=@List.filter_eq_self
abbrev zr:=@List.takeWhile_cons
abbrev Bg:=@List.drop_of_length_le
abbrev rP:=@List.mem_map
abbrev qC:=@Sem.run_ite
abbrev Eo:=@Int.tmod_eq_emod_of_nonneg
abbrev lR:=@Iff.rfl
abbrev Bh:=@List.getElem?_toArray
abbrev lS:=@Ne.symm
abbrev Ep:=@Array.getElem?_eq_getElem
abbrev Bi:=@List.mem_iff_getElem
abbrev zt:=@List.flatMap_cons
abbrev vg:=@Int.mul_assoc
abbrev Er:=@Nat.add_sub_cancel_left
abbrev Es:=@decide_eq_false_iff_not
abbrev zw:=@List.drop_length
abbrev zx:=@List.length_drop
abbrev vk:=@Nat.add_zero
abbrev zy:=@Bool.or_eq_true
abbrev y_:=@List.length_filter_le
abbrev wh:=@Decidable.not_not
abbrev Cd:=@Classical.byContradiction
abbrev za:=@List.mem_append_left
abbrev zb:=@List.pairwise_append
abbrev ub:=@Int.mul_nonneg
abbrev wj:=@decide_eq_decide
abbrev zc:=@Int.toNat_of_nonneg
abbrev F6:=@Array.getElem?_setIfInBounds_ne
abbrev Ce:=@List.getElem?_cons_succ
abbrev zd:=@Nat.eq_zero_or_pos
abbrev p_:=@beq_iff_eq
abbrev Cg:=@Int.le_ediv_iff_mul_le
abbrev Ch:=@MapKept.run_getObj_map
abbrev wk:=@List.drop_zero
abbrev Ci:=@List.length_replicate
abbrev Cj:=@List.singleton_append
abbrev Ck:=@Bool.or_eq_false_iff
abbrev ze:=@Int.ediv_le_self
abbrev zf:=@List.drop_append
abbrev zg:=@List.filter_cons
abbrev zh:=@Nat.lt_succ_self
abbrev uc:=@Nat.le_succ
abbrev Cl:=@MapKept.run_findKey
abbrev wl:=@Bool.not_not
abbrev wo:=@Int.le_trans
abbrev wq:=@Int.mul_comm
abbrev Cm:=@List.filter_append
abbrev F7:=@World.putObj_heap_other
abbrev Cn:=@Classical.not_not
abbrev Co:=@List.size_toArray
abbrev F8:=@List.drop_eq_nil_of_le
abbrev F9:=@Nat.ne_of_beq_eq_false
abbrev wv:=@run_program
abbrev zj:=@Bool.false_or
abbrev zk:=@Oper.semAt_eq
abbrev F_:=@List.set_append_right
abbrev Ga:=@List.take_append_drop
abbrev Gb:=@Nat.le_of_ble_eq_true
abbrev zl:=@List.takeWhile_append_dropWhile
abbrev Cp:=@Int.ediv_nonneg
abbrev Mx:=@Int.mul_le_mul_of_nonneg_right
abbrev Cq:=@List.foldl_cons
abbrev My:=@Nat.and_two_pow_sub_one_eq_mod
abbrev wz:=@Nat.beq_eq
abbrev zm:=@Nat.mul_comm
abbrev wA:=@run_newObj
abbrev Mz:=@List.take_append_of_le_length
abbrev Gc:=@List.dropWhile_cons
abbrev Gd:=@List.replicate_succ
abbrev Ge:=@Nat.mul_le_mul_left
abbrev Gf:=@beq_eq_false_iff_ne
abbrev Cr:=@Int.mul_le_mul
abbrev MA:=@List.dropLast_concat_getLast
abbrev Cs:=@List.drop_left
abbrev Cu:=@List.mapM_cons
abbrev Cv:=@List.take_left
abbrev Cw:=@List.take_zero
abbrev Gg:=@List.erase_sublist
abbrev Gh:=@Nat.lt_of_lt_of_le
abbrev qa:=@not_or
abbrev MB:=@Int.fdiv_eq_ediv_of_nonneg
abbrev MC:=@List.nodup_iff_pairwise_ne
abbrev Cz:=@Nat.add_assoc
abbrev Gi:=@DataW.trod_string
abbrev Gj:=@List.Sublist.refl
abbrev Gk:=@List.ext_getElem?
abbrev MD:=@List.append_eq_append_iff
abbrev ME:=@List.findIdx?_eq_none_iff
abbrev zn:=@Nat.ble_eq
abbrev MF:=@Option.isNone_iff_eq_none
abbrev MG:=@RowKit.Below.heap_setCell
abbrev MH:=@Array.getElem?_replicate
abbrev Gl:=@BitVec.toNat_and
abbrev Gm:=@DataW.trod_slice
abbrev CA:=@Nat.beq_refl
abbrev CB:=@Nat.zero_mul
abbrev Gn:=@Option.getD_some
abbrev wC:=@Prod.ext
abbrev CC:=@Prod.ext_iff
abbrev MI:=@Int.eq_ofNat_of_zero_le
abbrev MJ:=@List.countP_cons_of_neg
abbrev MK:=@RowKit.Below.heap_alloc
abbrev Gp:=@DataW.trod_bool
abbrev Gq:=@Nat.div_add_mod
abbrev Gr:=@Nat.mul_eq_zero
abbrev ML:=@Int.ediv_eq_zero_of_lt
abbrev MM:=@MapKept.run_setObj_map
abbrev MN:=@Option.map_eq_some_iff
abbrev MO:=@World.putObj_heap_same
abbrev MP:=@run_convert_bytes_back
abbrev MQ:=@Classical.choose_spec
abbrev Gs:=@DataW.trod_int
abbrev MR:=@Int.ediv_lt_of_lt_mul
abbrev MS:=@List.perm_append_comm
abbrev Gt:=@List.map_nil
abbrev Gu:=@List.set_set
abbrev Gv:=@List.sum_nil
abbrev Gw:=@Nat.mul_zero
structure Pt where
 b:Nat
 o:Nat
structure Sl where
 p:Option Pt
 len:Nat
 cap:Nat
inductive Fv where
 |nil
 |mk (fn:Fn) (first captured:List Value)
inductive CK where
 |int (k:IntKind)|bool|ptr|sl|str|fn|WL
abbrev CK.T:CK→Type
 |.int _=>Int
 |.bool=>Bool
 |.ptr=>Option Pt
 |.sl=>Sl
 |.str=>ByteArray
 |.fn=>Fv
 |.WL=>Unit
inductive Lf where
 |int (k:IntKind) (n:Int)|bool (b:Bool)|ptr (p:Option Pt)|sl (s:Sl)|str (s:ByteArray)|fn (f:Fv)|QF|mp (r:Nat)
abbrev Pt.addr(p:Pt):Addr:=⟨p.b,p.o,none⟩
def JO:Nat→Nat×Nat
 |0=>(0,0)
 |n+1=>match(JO n).1 with
  |0=>((JO n).2+1,0)
  |a+1=>(a,(JO n).2+1)
def WT:Nat→Nat
 |0=>0
 |n+1=>WT n+n+1
theorem CT:∀(s b:Nat),b≤s→JO (WT s+b)=(s-b,b)
 |s,b+1,h=>by
  have:=CT s b (by omega);rw[←Cz];simp only[JO,this];obtain⟨c,hc⟩:∃c,s-b=c+1:=⟨s-b-1,by omega⟩;rw[hc];simp only[Prod.mk.injEq,and_true];omega
 |0,0,_=>rfl
 |s+1,0,_=>by
  have:=CT s s (fa _);rw[Nat.sub_self]at this;show JO (WT s+s+1)=_;simp only[JO,this];simp
theorem H_(a b:Nat):∃n,JO n=(a,b):=⟨WT (a+b)+b,by rw[CT _ _ (by omega)];simp⟩
def D7(n:Nat):Addr:=⟨(JO n).1,(JO (JO n).2).1,some (JO (JO n).2).2⟩
theorem L9(b o k:Nat):∃n,D7 n=⟨b,o,some k⟩:=by
 obtain⟨m,hm⟩:=H_ o k;obtain⟨n,hn⟩:=H_ b m;exact⟨n,by simp[D7,hn,hm]⟩
def Sl.A8(s:Sl):Bool:=s.p.isNone&&(Nat.beq s.len 0&&!(Nat.beq s.cap 0))
def Sl.cp(s:Sl):Nat:=cond s.A8 0 s.cap
def Sl.isNil(s:Sl):Bool:=s.p.isNone&&!s.A8
def Sl.enc(s:Sl):Value:=match s.A8 with
 |true=>.slice (some (D7 (s.cap-1))) 0 0
 |false=>.slice (s.p.map Pt.addr) s.len s.cap
theorem Sl.L_{s:Sl}(h:s.A8=true):s.p=none∧s.len=0∧s.cap≠0:=by
 simp only[Sl.A8,fG,mX,MF]at h;exact⟨h.1,px h.2.1,λe=>by have:=h.2.2;rw[e]at this;cases this⟩
theorem Sl.wX{s:Sl}(h:s.A8=false):s.enc=.slice (s.p.map Pt.addr) s.len s.cap:=by unfold Sl.enc;rw[h]
theorem Sl.rj(q:Pt)(l c:Nat):Sl.enc ⟨some q,l,c⟩=.slice (some q.addr) l c:=rfl
theorem Sl.yO{s:Sl}{q:Pt}(h:s.p=some q):s.A8=false:=by simp[Sl.A8,h]
theorem Sl.FV{s:Sl}(h:s.cap=0):s.A8=false:=by
 rw[Sl.A8,h];simp
theorem Sl.wY{s:Sl}{q:Pt}(h:s.p=some q):s.enc=.slice (some q.addr) s.len s.cap:=by rw[Sl.wX (Sl.yO h),h];rfl
theorem Sl.ly(s:Sl):∃a c,s.enc=.slice a s.len c∧(s.A8=false→a=s.p.map Pt.addr∧c=s.cap)∧c=s.cp∧(a=none↔s.isNil=true):=by
 cases h:s.A8 with
 |true=>
  obtain⟨h1,h2,_⟩:=Sl.L_ h;refine⟨some (D7 (s.cap-1)),0,by unfold Sl.enc;rw[h,h2],λh=>(by cases h),by rw[Sl.cp,h];rfl,?_⟩;rw[Sl.isNil,h];simp
 |false=>exact⟨s.p.map Pt.addr,s.cap,Sl.wX h,λ_=>⟨rfl,rfl⟩,by rw[Sl.cp,h];rfl,by rw[Sl.isNil,h];simp⟩
def Fv.enc:Fv→Value
 |.nil=>.nilFunc
 |.mk f a c=>.func f a.toArray c.toArray
def Lf.enc:Lf→Value
 |.int k n=>.int k n
 |.bool b=>.bool b
 |.ptr p=>.pointer (p.map Pt.addr)
 |.sl s=>s.enc
 |.str s=>.string s
 |.fn f=>f.enc
 |.QF=>.nilIface
 |.mp r=>.map (some r)
def CK.mk:(c:CK)→c.T→Lf
 |.int k,n=>.int k n
 |.bool,b=>.bool b
 |.ptr,p=>.ptr p
 |.sl,s=>.sl s
 |.str,s=>.str s
 |.fn,f=>.fn f
 |.WL,_=>.QF
def CK.un:(c:CK)→Lf→Option c.T
 |.int k,.int k' n=>if k=k' then some n else none
 |.bool,.bool b=>some b
 |.ptr,.ptr p=>some p
 |.sl,.sl s=>some s
 |.str,.str s=>some s
 |.fn,.fn f=>some f
 |.WL,.QF=>some ()
 |_,_=>none
abbrev Ks:=List CK
abbrev Ks.T:List CK→Type
 |[]=>Unit
 |[c]=>c.T
 |c::d::r=>c.T×Ks.T (d::r)
def Ks.mk:(cs:List CK)→Ks.T cs→List Lf
 |[],_=>[]
 |[c],x=>[c.mk x]
 |c::d::r,x=>c.mk x.1::Ks.mk (d::r) x.2
def Ks.un:(cs:List CK)→List Lf→Option (Ks.T cs)
 |[],[]=>some ()
 |[c],[l]=>c.un l
 |c::d::r,l::ls=>match c.un l with
  |some x=>match Ks.un (d::r) ls with
   |some y=>some (x,y)
   |none=>none
  |none=>none
 |_,_=>none
inductive V1 where
 |lf (l:Lf)
 |agg (ls:List Lf)
def V1.enc:V1→Value
 |.lf l=>l.enc
 |.agg ls=>.agg (ls.map Lf.enc).toArray
def V1.I8:V1→List Lf
 |.lf l=>[l]
 |.agg ls=>ls
inductive TV where
 |one (v:V1)
 |Nx (vs:List V1)
def TV.enc:TV→Value
 |.one v=>v.enc
 |.Nx vs=>.tuple (vs.map V1.enc).toArray
inductive Sh where
 |lf (c:CK)
 |agg (cs:List CK)
abbrev Sh.T:Sh→Type
 |.lf c=>c.T
 |.agg cs=>Ks.T cs
def Sh.mk:(s:Sh)→s.T→V1
 |.lf c,x=>.lf (c.mk x)
 |.agg cs,x=>.agg (Ks.mk cs x)
abbrev Rs.T:List Sh→Type
 |[]=>Unit
 |[s]=>s.T
 |s::t::r=>s.T×Rs.T (t::r)
def Rs.mk:(rs:List Sh)→Rs.T rs→List V1
 |[],_=>[]
 |[s],x=>[s.mk x]
 |s::t::r,x=>s.mk x.1::Rs.mk (t::r) x.2
def mE:List V1→TV
 |[v]=>.one v
 |vs=>.Nx vs
def Sh.un:(s:Sh)→V1→Option s.T
 |.lf c,.lf l=>c.un l
 |.agg cs,.agg ls=>Ks.un cs ls
 |_,_=>none
def Rs.un:(rs:List Sh)→List V1→Option (Rs.T rs)
 |[],[]=>some ()
 |[s],[v]=>s.un v
 |s::t::r,v::vs=>match s.un v with
  |some x=>match Rs.un (t::r) vs with
   |some y=>some (x,y)
   |none=>none
  |none=>none
 |_,_=>none
theorem CK.gZ{c:CK}{l:Lf}{x:c.T}(h:c.un l=some x):c.mk x=l:=by
 cases c<;>cases l<;>simp_all[CK.un,CK.mk]
theorem Ks.gZ:∀{cs:List CK} {ls:List Lf} {x:Ks.T cs},Ks.un cs ls=some x→Ks.mk cs x=ls
 |[],[],_,_=>rfl
 |[],_::_,_,h=>by simp[Ks.un]at h
 |[c],[],_,h=>by simp[Ks.un]at h
 |[c],[l],x,h=>by simp only[Ks.un]at h;simp only[Ks.mk];rw[CK.gZ h]
 |[c],_::_::_,_,h=>by simp[Ks.un]at h
 |c::d::r,[],_,h=>by simp[Ks.un]at h
 |c::d::r,l::ls,x,h=>by
  simp only[Ks.un]at h;split at h
  ·rename_i y hy;split at h
   ·rename_i z hz;cases h;simp only[Ks.mk];rw[CK.gZ hy,Ks.gZ hz]
   ·cases h
  ·cases h
theorem Sh.gZ{s:Sh}{v:V1}{x:s.T}(h:s.un v=some x):s.mk x=v:=by
 cases s with
 |lf c=>cases v with
  |lf l=>simp only[Sh.un]at h;simp only[Sh.mk];rw[CK.gZ h]
  |agg ls=>simp[Sh.un]at h
 |agg cs=>cases v with
  |lf l=>simp[Sh.un]at h
  |agg ls=>simp only[Sh.un]at h;simp only[Sh.mk];rw[Ks.gZ h]
theorem Rs.gZ:∀{rs:List Sh} {vs:List V1} {x:Rs.T rs},Rs.un rs vs=some x→Rs.mk rs x=vs
 |[],[],_,_=>rfl
 |[],_::_,_,h=>by simp[Rs.un]at h
 |[c],[],_,h=>by simp[Rs.un]at h
 |[c],[l],x,h=>by simp only[Rs.un]at h;simp only[Rs.mk];rw[Sh.gZ h]
 |[c],_::_::_,_,h=>by simp[Rs.un]at h
 |c::d::r,[],_,h=>by simp[Rs.un]at h
 |c::d::r,l::ls,x,h=>by
  simp only[Rs.un]at h;split at h
  ·rename_i y hy;split at h
   ·rename_i z hz;cases h;simp only[Rs.mk];rw[Sh.gZ hy,Rs.gZ hz]
   ·cases h
  ·cases h
def Reads(w:World)(b:Nat):Nat→List Lf→Prop
 |_,[]=>True
 |o,l::ls=>w.cell? ⟨b,o,none⟩=some l.enc∧Reads w b (o+1) ls
def AC(w:World)(b:Nat)(L:List Lf):Prop:=∃T,w.heap[b]?=some (.cells (L.map Lf.enc).toArray T (0,0))
abbrev lC:Obj:=.deferred (some [])
structure jO(S:Nat→Prop)(w w':World):Prop where
 os:w'.os=w.os
 tape:w'.tape=w.tape
 output:w'.output=w.output
 size:w.heap.size≤w'.heap.size
 same:∀k,k<w.heap.size→¬S k→w'.heap[k]?=w.heap[k]?
 Jl:∀k:Nat,w.heap[k]?=some lC→w'.heap[k]?=some lC
structure lH(w w':World):Prop where
 size:w.heap.size≤w'.heap.size
 Jl:∀k:Nat,w.heap[k]?=some lC→w'.heap[k]?=some lC
def D5:Nat→Prop:=λ_=>False
abbrev Dn(b:Nat):Nat→Prop:=λk=>k=b
theorem lH.refl(w:World):lH w w:=⟨fa _,λ_ h=>h⟩
theorem lH.trans{a b c:World}(h:lH a b)(k:lH b c):lH a c:=⟨lQ h.size k.size,λi hi=>k.Jl i (h.Jl i hi)⟩
theorem jO.wW{S:Nat→Prop}{w w':World}(h:jO S w w'):lH w w':=⟨h.size,h.Jl⟩
theorem jO.refl(S:Nat→Prop)(w:World):jO S w w:=⟨rfl,rfl,rfl,fa _,λ_ _ _=>rfl,λ_ h=>h⟩
theorem jO.mono{S S':Nat→Prop}{w w':World}(h:jO S w w')(hs:∀k,k<w.heap.size→S k→S' k):jO S' w w':=
 ⟨h.os,h.tape,h.output,h.size,λk hk hn=>h.same k hk λe=>hn (hs k hk e),h.Jl⟩
theorem jO.trans{S:Nat→Prop}{a b c:World}(h:jO S a b)(k:jO S b c):jO S a c:=
 ⟨k.os.trans h.os,k.tape.trans h.tape,k.output.trans h.output,lQ h.size k.size,
  λi hi hn=>(k.same i (Gh hi h.size) hn).trans (h.same i hi hn),λi hi=>k.Jl i (h.Jl i hi)⟩
theorem jO.trans'{S S':Nat→Prop}{a b c:World}(h:jO S a b)(k:jO S' b c)(hs:∀i,i<a.heap.size→S' i→S i):jO S a c:=
 ⟨k.os.trans h.os,k.tape.trans h.tape,k.output.trans h.output,lQ h.size k.size,
  λi hi hn=>(k.same i (Gh hi h.size) λe=>hn (hs i hi e)).trans (h.same i hi hn),λi hi=>k.Jl i (h.Jl i hi)⟩
theorem jO.below{w w':World}(h:jO D5 w w'):RowKit.Below w.heap.size w w':=
 ⟨h.os,h.tape,h.output,h.size,λk hk=>h.same k hk (λe=>e)⟩
theorem wV{w:World}{b:Nat}{L:List Lf}(h:AC w b L)(o:Nat):w.cell? ⟨b,o,none⟩=(L[o]?).map Lf.enc:=by
 obtain⟨T,h⟩:=h;simp[World.cell?,h]
theorem Ao{w:World}{b:Nat}{L:List Lf}(h:AC w b L)(o:Nat):w.frozen? ⟨b,o,none⟩=false:=by
 obtain⟨T,h⟩:=h;simp[World.frozen?,h]
theorem AC.reads{w:World}{b:Nat}{L:List Lf}(h:AC w b L):∀(ls:List Lf) (o:Nat),(∀i,i<ls.length→L[o+i]?=ls[i]?)→Reads w b o ls
 |[],_,_=>trivial
 |l::ls,o,hh=>by
  refine⟨?_,h.reads ls (o+1) λi hi=>?_⟩
  ·have:=hh 0 (by simp);rw[wV h];simp at this;simp[this]
  ·have:=hh (i+1) (by simp;omega);rw[show o+1+i=o+(i+1) by omega,this];simp
def eK(L:List Lf)(o:Nat)(ls:List Lf):List Lf:=L.take o++ls++L.drop (o+ls.length)
theorem kw{L:List Lf}{o:Nat}{ls:List Lf}(h:o+ls.length≤L.length):(eK L o ls).length=L.length:=by
 unfold eK;simp;omega
def iV(w:World)(s:Sl)(sz:Nat)(L:List Lf):Prop:=
 (s.len=0∧s.cap=0∧L=[])∨
 ∃q C,s.p=some q∧AC w q.b C∧s.len≤s.cap∧s.cap≠0∧q.o+s.cap*sz≤C.length∧L.length=s.len*sz∧∀i,i<L.length→C[q.o+i]?=L[i]?
def na(w:World)(s:Sl)(sz:Nat)(M:List Lf):Prop:=M.length=s.len*sz∧(s.p=none→s.len=0)∧∀q,s.p=some q→Reads w q.b q.o M
def Sl.own(s:Sl):Nat→Prop:=λk=>∃q,s.p=some q∧k=q.b∧s.cap≠0
def Sl.sub(s:Sl)(l h m sz:Nat):Sl:=⟨if m=l then s.p else s.p.map λq=>⟨q.b,q.o+l*sz⟩,h-l,m-l⟩
def vP(x:Option Int)(d n:Nat):Prop:=match x with|some i=>i=n|none=>n=d
def kf(n:Nat)(zs:List Lf):List Lf:=(List.replicate n zs).flatten
abbrev WP:=World→Prop
abbrev gx:WP:=λ_=>False
abbrev aq(c:Bool)(A B:WP):WP:=λw=>cond c (A w) (B w)
abbrev d_(p:Prop)(A:WP):WP:=λw=>p∧A w
abbrev deref(p:Option Pt)(K:Pt→WP):WP:=λw=>∃q,p=some q∧K q w
abbrev TN(f:Fv)(A:WP):WP:=λw=>(∃n a c,f=.mk (.func n) a c∨f=.mk (.yield n) a c)∧A w
abbrev idx(s:Sl)(i:Int)(n:Nat)(K:Pt→WP):WP:=λw=>∃q,s.p=some q∧(0≤i∧i<s.len)∧K ⟨q.b,q.o+i.toNat*n⟩ w
abbrev ld(cs:List CK)(p:Pt)(K:Ks.T cs→WP):WP:=λw=>∃x,Reads w p.b p.o (Ks.mk cs x)∧K x w
abbrev st(p:Pt)(ls:List Lf)(A:WP):WP:=λw=>∃L,AC w p.b L∧p.o+ls.length≤L.length∧
 ∀w',jO (Dn p.b) w w'→AC w' p.b (eK L p.o ls)→w'.heap.size=w.heap.size→A w'
abbrev new(ls:List Lf)(K:Nat→WP):WP:=λw=>∀w',jO D5 w w'→AC w' w.heap.size ls→w'.heap.size=w.heap.size+1→K w.heap.size w'
def UX(w:World)(b:Nat)(L:List Lf)(T:TypeId):Prop:=w.heap[b]?=some (.cells (L.map Lf.enc).toArray T (0,0))
abbrev X_(T:TypeId)(ls:List Lf)(K:Nat→WP):WP:=λw=>∀w',jO D5 w w'→UX w' w.heap.size ls T→w'.heap.size=w.heap.size+1→K w.heap.size w'
abbrev mw(sz:Nat)(s x:Sl)(K:Sl→WP):WP:=λw=>∃L M,iV w s sz L∧na w x sz M∧s.len+x.len≤4294967296∧
 ∀w' s',jO s.own w w'→iV w' s' sz (L++M)→s'.len=s.len+x.len→(∀k,s'.own k→s.own k∨w.heap.size≤k)→
  (s.cap<s.len+x.len→jO D5 w w'∧∀k,s'.own k→w.heap.size≤k)→(s.len+x.len≤s.cap→s'=⟨s.p,s.len+x.len,s.cap⟩∧w'.heap.size=w.heap.size)→K s' w'
abbrev N4(zs:List Lf)(sz:Nat)(s:Sl)(n:Int)(K:Sl→WP):WP:=λw=>∃L,iV w s sz L∧(0≤n∧(s.len:Int)+n≤4294967296)∧
 ∀w' s',jO s.own w w'→iV w' s' sz (L++kf n.toNat zs)→s'.len=s.len+n.toNat→(∀k,s'.own k→s.own k∨w.heap.size≤k)→K s' w'
abbrev mk(zs:List Lf)(len cap:Int)(K:Sl→WP):WP:=λw=>(0≤len∧len≤cap∧cap≤4294967296)∧
 ∀w',jO D5 w w'→AC w' w.heap.size (kf cap.toNat zs)→w'.heap.size=w.heap.size+1→K ⟨some ⟨w.heap.size,0⟩,len.toNat,cap.toNat⟩ w'
abbrev EF(s:Sl)(lo hi mx:Option Int)(sz:Nat)(K:Sl→WP):WP:=λw=>(s.A8=false∧(s.cap≠0→s.p≠none))∧∃l h m:Nat,vP lo 0 l∧vP hi s.len h∧vP mx s.cap m∧(l≤h∧h≤m∧m≤s.cap)∧K (s.sub l h m sz) w
abbrev WI(zs:List Lf)(s:Sl)(A:WP):WP:=λw=>((s.p=none∨s.len=0)∧A w)∨∃q C,s.p=some q∧s.len≠0∧AC w q.b C∧q.o+s.len*zs.length≤C.length∧
 ∀w',jO (Dn q.b) w w'→AC w' q.b (eK C q.o (kf s.len zs))→w'.heap.size=w.heap.size→A w'
abbrev VI(cs:List CK)(ls:List Lf)(i:Int)(n sz:Nat)(K:Ks.T cs→WP):WP:=λw=>(0≤i∧i<n)∧∃x,Ks.mk cs x=(ls.drop (i.toNat*sz)).take sz∧K x w
abbrev Yf(s:ByteArray)(lo hi:Option Int)(K:ByteArray→WP):WP:=λw=>∃l h:Nat,vP lo 0 l∧vP hi s.size h∧(l≤h∧h≤s.size)∧K (s.extract l h) w
def W_(l:List UInt8):List Lf:=l.map λb=>.int .u8 b.toNat
abbrev Xd(s:Sl)(K:ByteArray→WP):WP:=λw=>∃l:List UInt8,na w s 1 (W_ l)∧s.len=l.length∧K ⟨l.toArray⟩ w
abbrev Xc(s:ByteArray)(i:Int)(K:Int→WP):WP:=λw=>∃b:UInt8,(0≤i∧s[i.toNat]?=some b)∧K b.toNat w
def AD(w:World)(r:Nat)(k:IntKind)(cs:Ks)(m:List (Int×Ks.T cs)):Prop:=
 ∃(es:Array MapEntry) (c:Nat),w.heap[r]?=some (.map es c)∧es.toList.map (λe=>(e.key,e.val))=m.map λx=>(Value.int k x.1,Value.agg ((Ks.mk cs x.2).map Lf.enc).toArray)
def getM{α:Type}:List (Int×α)→Int→Option α
 |[],_=>none
 |y::m,k=>if y.1=k then some y.2 else getM m k
def Ei{α:Type}:List (Int×α)→Int→α→List (Int×α)
 |[],k,x=>[(k,x)]
 |y::m,k,x=>if y.1=k then(k,x)::m else y::Ei m k x
abbrev mkm(K:Nat→WP):WP:=λw=>∀w',jO D5 w w'→w'.heap[w.heap.size]?=some (.map #[] 0)→w'.heap.size=w.heap.size+1→K w.heap.size w'
abbrev mlk(r:Nat)(kk:IntKind)(k:Int)(cs:Ks)(z:List Lf)(K:Ks.T cs×Bool→WP):WP:=λw=>∃m,AD w r kk cs m∧((∃x,getM m k=some x∧K (x,true) w)∨(getM m k=none∧∃x,Ks.mk cs x=z∧K (x,false) w))
abbrev mup(r:Nat)(kk:IntKind)(k:Int)(cs:Ks)(ls:List Lf)(A:WP):WP:=λw=>∃m x,AD w r kk cs m∧ls=Ks.mk cs x∧∀w',jO (Dn r) w w'→AD w' r kk cs (Ei m k x)→w'.heap.size=w.heap.size→A w'
abbrev co(p:Pt)(ls:List Lf)(A:WP):WP:=λw=>Reads w p.b p.o ls∧A w
abbrev both(A B:WP):WP:=λw=>A w∧B w
abbrev bF(A:WP):WP:=λw=>∀w',jO D5 w w'→w'.heap.size=w.heap.size→A w'
def JV(P:Program)(f:FuncId):Bool:=match P.funcs[f]? with
 | some fn => fn.name != "runtime.NumGoroutine" && fn.body.isSome
 |none=>false
def xT(P:Program)(f:FuncId)(args:List Value)(w:World)(R:Value→World→Prop):Prop:=
 JV P f=true∧CallsIn Fence.wide 0 P f args.toArray w λe w'=>∃v,e=.returned v∧R v w'
inductive kh(P:Program)(f:FuncId)(args:List Value)(w:World)(R:Value→World→Prop):Prop
 |enters (h:xT P f args w R):kh P f args w R
 |ao (v:Value) (w':World) (h:(callFunc f args.toArray).run P w=.ok (.value v) w') (hR:R v w'):kh P f args w R
def uw(P:Program)(f:Fv)(args:List Value)(w:World)(R:Value→World→Prop):Prop:=
 match f with
 |.mk (.func g) first captured=>xT P g (first++args++captured) w R
 |.mk (.yield l) [] _=>∃fn tmps assign body,(Instr.yield l args.toArray).run P w=.ok (.round l fn tmps assign body) w∧
   RoundIn Fence.wide 0 P l fn tmps assign body w λe w'=>∃v,e=.returned v∧R v w'
 |_=>False
def qS(P:Program)(f:Fv)(args:List Value)(w:World)(R:Value→World→Prop):Prop:=
 match f with
 |.mk (.func g) first captured=>xT P g (first++args++captured) w R
 |_=>False
theorem xT.mono{P:Program}{f:FuncId}{args:List Value}{w:World}{R R':Value→World→Prop}(h:xT P f args w R)(hr:∀v w',R v w'→R' v w'):xT P f args w R':=
 ⟨h.1,h.2.mono λ_ w' ⟨v,hv,r⟩=>⟨v,hv,hr v w' r⟩⟩
theorem kh.mono{P:Program}{f:FuncId}{args:List Value}{w:World}{R R':Value→World→Prop}(h:kh P f args w R)(hr:∀v w',R v w'→R' v w'):kh P f args w R':=
 match h with
 |.enters h=>.enters (h.mono hr)
 |.ao v w' h1 h2=>.ao v w' h1 (hr _ _ h2)
theorem kh.e{P:Program}{f:FuncId}{args:List Value}{w:World}{R:Value→World→Prop}(h:kh P f args w R)(he:JV P f=true):xT P f args w R:=by
 rcases h with h|⟨v,w',h1,_⟩
 ·exact h
 unfold JV at he;unfold callFunc at h1;simp only[cj,wv,dp]at h1;split at he
 ·rename_i fn hf;simp only[fG,bne_iff_ne,ne_eq]at he;have hb:fn.body.isNone=false:=by cases hh:fn.body<;>simp[hh]at he⊢
  simp[hf,he.1,hb]at h1
 ·cases he
theorem uw.mono{P:Program}{f:Fv}{args:List Value}{w:World}{R R':Value→World→Prop}(h:uw P f args w R)(hr:∀v w',R v w'→R' v w'):uw P f args w R':=by
 unfold uw at*
 split at h
 ·exact h.mono hr
 ·obtain⟨fn,tmps,as,body,h1,h2⟩:=h;exact⟨fn,tmps,as,body,h1,h2.mono λ_ w' ⟨v,hv,r⟩=>⟨v,hv,hr v w' r⟩⟩
 ·exact h.elim
theorem qS.mono{P:Program}{f:Fv}{args:List Value}{w:World}{R R':Value→World→Prop}(h:qS P f args w R)(hr:∀v w',R v w'→R' v w'):qS P f args w R':=by
 unfold qS at*
 split at h
 ·exact h.mono hr
 ·exact h.elim
abbrev call(P:Program)(f:FuncId)(args:List V1)(rs:List Sh)(K:Rs.T rs→WP):WP:=λw=>
 kh P f (args.map V1.enc) w λv w'=>∃x,v=(mE (Rs.mk rs x)).enc∧lH w w'∧K x w'
abbrev tg(P:Program)(f:Fv)(args:List V1)(rs:List Sh)(K:Rs.T rs→WP):WP:=λw=>
 uw P f (args.map V1.enc) w λv w'=>∃x,v=(mE (Rs.mk rs x)).enc∧lH w w'∧K x w'
abbrev loop(cs:List CK)(x₀:Ks.T cs)(B:(Ks.T cs→WP)→Ks.T cs→WP):WP:=λw=>
 ∃(I:Ks.T cs→WP) (μ:Ks.T cs→World→Nat),I x₀ w∧∀x w,I x w→B (λy w'=>I y w'∧μ y w'<μ x w) x w
abbrev join(cs:List CK)(A:(Ks.T cs→WP)→WP)(K:Ks.T cs→WP):WP:=λw=>
 ∃J:Ks.T cs→WP,(∀x w',J x w'→K x w')∧A J w
end Go.X

namespace Go.X
def ow(P:Program)(t:TypeId):Option CK:=
 match P.underlying t with
 |some .bool=>some .bool
 |some (.int k)=>some (.int k)
 |some (.pointer _)=>some .ptr
 |some (.slice _)=>some .sl
 |some .string=>some .str
 |some (.func _ _ _)=>some .fn
 |some (.interface _)=>some .WL
 |_=>none
def kinds(P:Program):Nat→TypeId→Option (List CK)
 |0,_=>none
 |d+1,t=>
  match P.underlying t with
  |some (.struct fs)=>fs.toList.foldr (λf acc=>match kinds P d f.type,acc with|some a,some b=>some (a++b)|_,_=>none) (some [])
  |some (.array n e)=>match kinds P d e with|some ks=>some (List.replicate n ks).flatten|none=>none
  |_=>match ow P t with|some c=>some [c]|none=>none
def fb(P:Program)(t:TypeId):Bool:=
 match P.underlying t with
 |some (.struct _)=>true
 |some (.array _ _)=>true
 |_=>false
def Nn(P:Program)(t:TypeId):Option Sh:=
 if fb P t then(match kinds P 8 t with|some ks=>if ks.length=P.cellsOf t then some (.agg ks)else none|none=>none)
 else(match ow P t with|some c=>some (.lf c)|none=>none)
def pM{α:Type}:List (Option α)→Option (List α)
 |[]=>some []
 |none::_=>none
 |some x::r=>match pM r with|some xs=>some (x::xs)|none=>none
def P9(P:Program)(t:TypeId):Option (List Sh):=
 match P.underlying t with
 |some (.tuple ts)=>pM (ts.toList.map (Nn P))
 |_=>match Nn P t with|some s=>some [s]|none=>none
def yE:Value→Option Lf
 |.int k n=>some (.int k n)
 |.bool b=>some (.bool b)
 |.pointer none=>some (.ptr none)
 |.slice none 0 0=>some (.sl ⟨none,0,0⟩)
 |.string s=>some (.str s)
 |.nilFunc=>some (.fn .nil)
 |.nilIface=>some .QF
 |_=>none
def tN:Value→Option V1
 |.agg cs=>match pM (cs.toList.map yE)with|some ls=>some (.agg ls)|none=>none
 |v=>match yE v with|some l=>some (.lf l)|none=>none
def lG(P:Program)(t:TypeId):Option (List Lf):=
 match P.info? t with
 |some i=>match i.zero with
  |some z=>match tN z with|some v=>some v.I8|none=>none
  |none=>none
 |none=>none
inductive Ij where
 |un
 |val (v:TV)
 |gv (j:Nat) (want:Bool) (v:TV)
abbrev Env:=List Ij
def Env.get:Env→Nat→Ij
 |[],_=>.un
 |x::_,0=>x
 |_::e,n+1=>Env.get e n
def Env.set:Env→Nat→Ij→Env
 |[],_,_=>[]
 |_::e,0,y=>y::e
 |x::e,n+1,y=>x::Env.set e n y
def Eg(d:Nat):Ij→Ij
 |.gv j w v=>match Nat.beq j d with|true=>.un|false=>.gv j w v
 |x=>x
def Env.put(e:Env)(d:Option Nat)(x:Ij):Env:=
 match d with
 |none=>e
 |some d=>Env.set (e.map (Eg d)) d x
def CS:TV:=.Nx []
abbrev E1:=List (Nat×Bool)
def DR(j:Nat)(w:Bool):E1→Bool
 |[]=>false
 |(i,v)::c=>match Nat.beq i j with
  |true=>(match v,w with|true,true=>true|false,false=>true|_,_=>DR j w c)
  |false=>DR j w c
def Dz(e:Env):Nat→Nat→E1
 |0,_=>[]
 |n+1,j=>match e.get j with
  |.gv i w _=>(i,w)::Dz e n i
  |_=>[]
def nJ(e:Env)(c:E1):Operand→Option TV
 |.tmp t=>match e.get t with
  |.val v=>some v
  |.gv j w v=>match DR j w c with|true=>some v|false=>none
  |.un=>none
 |.const v=>match tN v with|some x=>some (.one x)|none=>none
 |.func f=>some (.one (.lf (.fn (.mk (.func f) [] []))))
 |.global _=>none
def Lj(e:Env)(c:E1):List Operand→Option (List V1)
 |[]=>some []
 |x::r=>match nJ e c x with
  |some (.one v)=>(match Lj e c r with|some vs=>some (v::vs)|none=>none)
  |_=>none
def TS(a b:IntKind):Bool:=match a,b with
 |.i8,.i8=>true|.i16,.i16=>true|.i32,.i32=>true|.i64,.i64=>true
 |.u8,.u8=>true|.u16,.u16=>true|.u32,.u32=>true|.u64,.u64=>true
 |_,_=>false
def ym(ls:List Lf)(off n:Nat):List Lf:=(ls.drop off).take n
def I1(P:Program)(rec:TypeId→List Lf→List Lf→Option Bool)(xs ys:List Lf):List Field→Option Bool
 |[]=>some true
 | f :: r => match f.name == "_" with
  |true=>I1 P rec xs ys r
  |false=>match rec f.type (ym xs f.offset (P.cellsOf f.type)) (ym ys f.offset (P.cellsOf f.type)),r with
   |some a,[]=>some a
   |some a,g::r=>(match I1 P rec xs ys (g::r)with|some b=>some (a&&b)|none=>none)
   |none,_=>none
def I0(rec:List Lf→List Lf→Option Bool)(sz:Nat)(xs ys:List Lf):Nat→Nat→Option Bool
 |0,_=>some true
 |m+1,i=>match rec (ym xs (i*sz) sz) (ym ys (i*sz) sz),m with
  |some a,0=>some a
  |some a,k+1=>(match I0 rec sz xs ys (k+1) (i+1)with|some b=>some (a&&b)|none=>none)
  |none,_=>none
def UJ(P:Program):Nat→TypeId→List Lf→List Lf→Option Bool
 |0,_,_,_=>none
 |d+1,t,xs,ys=>
  match P.underlying t with
  |some .bool=>(match xs,ys with|[.bool a],[.bool b]=>some (a==b)|_,_=>none)
  |some (.int _)=>(match xs,ys with|[.int k a],[.int k' b]=>(match TS k k' with|true=>some (a==b)|false=>none)|_,_=>none)
  |some .string=>(match xs,ys with|[.str a],[.str b]=>some (a.toList==b.toList)|_,_=>none)
  |some (.struct fs)=>(match P.stoodInHeld t with|true=>none|false=>I1 P (λu=>UJ P d u) xs ys fs.toList)
  |some (.array n e)=>(match n with|0=>none|n+1=>I0 (UJ P d e) (P.cellsOf e) xs ys (n+1) 0)
  |_=>none
def FM:Fv→Bool
 |.nil=>true
 |_=>false
def ot(b:Bool):Option TV:=some (.one (.lf (.bool b)))
def ru(k:IntKind)(n:Int):Option TV:=some (.one (.lf (.int k n)))
def Rt(op:BinOp)(k:IntKind)(a b:Int):Option TV:=
 match op with
 |.add=>ru k (k.wrap (a+b))
 |.sub=>ru k (k.wrap (a-b))
 |.mul=>ru k (k.wrap (a*b))
 |.and=>ru k (k.wrap (BitVec.ofInt k.bits a&&&BitVec.ofInt k.bits b).toNat)
 |.or=>ru k (k.wrap (BitVec.ofInt k.bits a|||BitVec.ofInt k.bits b).toNat)
 |.xor=>ru k (k.wrap (BitVec.ofInt k.bits a^^^BitVec.ofInt k.bits b).toNat)
 |.eql=>ot (a==b)
 |.neq=>ot (a !=b)
 |.lss=>ot (a<b)
 |.leq=>ot (a≤b)
 |.gtr=>ot (a>b)
 |.geq=>ot (a≥b)
 |_=>none
def isEq:BinOp→Option Bool
 |.eql=>some true
 |.neq=>some false
 |_=>none
def xb(eq:Bool)(b:Bool):Option TV:=match eq with|true=>ot b|false=>ot (!b)
def X1(P:Program)(eq:Bool)(t:TypeId):V1→V1→Option TV
 |.lf (.bool a),.lf (.bool b)=>(match P.underlying t with|some .bool=>xb eq (a==b)|_=>none)
 |.lf (.str a),.lf (.str b)=>xb eq (a.toList==b.toList)
 |.lf (.ptr p),.lf (.ptr none)=>(match P.underlying t with|some (.pointer _)=>xb eq p.isNone|_=>none)
 |.lf (.sl s),.lf (.sl ⟨none,0,0⟩)=>(match P.underlying t with|some (.slice _)=>xb eq s.isNil|_=>none)
 |.lf (.fn f),.lf (.fn .nil)=>(match P.underlying t with|some (.func _ _ _)=>xb eq (FM f)|_=>none)
 |.agg xs,.agg ys=>(match fb P t&&!P.eqGuardType P.depth t with
  |true=>(match UJ P 8 t xs ys with|some b=>xb eq b|none=>none)
  |false=>none)
 |_,_=>none
def Ru(P:Program)(op:BinOp)(t:TypeId)(x y:V1):Option TV:=
 match x,y with
 |.lf (.int k a),.lf (.int k' b)=>(match TS k k' with|true=>Rt op k a b|false=>none)
 |x,y=>match isEq op with
  |some eq=>X1 P eq t x y
  |none=>none
def Yh(op:UnOp):V1→Option TV
 |.lf (.bool b)=>(match op with|.not=>ot (!b)|_=>none)
 |.lf (.int k n)=>(match op with|.neg=>ru k (k.wrap (0-n))|_=>none)
 |_=>none
def uI(P:Program)(t:TypeId)(i:Nat):Option Field:=
 match P.underlying t with
 |some (.struct fs)=>fs[i]?
 |_=>none
def u9(P:Program)(t:TypeId)(ls:List Lf)(off:Nat):Option V1:=
 match fb P t with
 |true=>some (.agg ((ls.drop off).take (P.cellsOf t)))
 |false=>match ls[off]? with|some l=>some (.lf l)|none=>none
def X9:V1→Option Int
 |.lf (.sl s)=>some s.len
 |.lf (.str s)=>some s.size
 |_=>none
def yq(place:Nat→Option (Nat×Nat))(ls:List Lf):List (Nat×V1)→Option (List Lf)
 |[]=>some ls
 |(i,v)::r=>match place i with
  |none=>none
  |some (off,size)=>match Nat.beq v.I8.length size&&Nat.ble (off+v.I8.length) ls.length with
   |true=>yq place (eK ls off v.I8) r
   |false=>none
def sk(e:Env)(c:E1):List (Nat×Operand)→Option (List (Nat×V1))
 |[]=>some []
 |(i,x)::r=>match nJ e c x with
  |some (.one v)=>(match sk e c r with|some vs=>some ((i,v)::vs)|none=>none)
  |_=>none
def yU(P:Program)(fs:Array Field)(i:Nat):Option (Nat×Nat):=match fs[i]? with
 |some f=>some (f.offset,P.cellsOf f.type)
 |none=>none
def placeOf(P:Program)(t:TypeId):Nat→Option (Nat×Nat):=
 match P.underlying t with
 |some (.struct fs)=>yU P fs
 |some (.array _ e)=>λi=>some (i*P.cellsOf e,P.cellsOf e)
 |_=>λ_=>none
def FK(P:Program)(t:TypeId):Bool:=
 match P.underlying t with
 |some (.struct fs)=>fs.toList.all λf=>(P.info? f.type).isSome
 |some (.array _ e)=>(P.info? e).isSome
 |_=>false
def lY(mx:Bool)(k:IntKind):Int→List V1→Option TV
 |a,[]=>ru k a
 |a,.lf (.int k' b)::r=>(match TS k k' with
  |true=>(match mx with|true=>lY mx k (if b>a then b else a) r|false=>lY mx k (if b<a then b else a) r)
  |false=>none)
 |_,_=>none
def ye(b:Builtin)(vs:List V1):Option TV:=
 match b,vs with
 |.len,[v]=>(match X9 v with|some n=>ru .i64 n|none=>none)
 |.cap,[.lf (.sl s)]=>ru .i64 s.cp
 |.max,.lf (.int k a)::r=>lY true k a r
 |.min,.lf (.int k a)::r=>lY false k a r
 |_,_=>none
def se(P:Program)(b:Builtin)(ts:Array TypeId)(vs:List V1):Bool:=
 match b with
 |.len|.cap=>(match ts[0]?,vs with
  |some t,[.lf (.sl _)]=>(match P.underlying t with|some (.slice _)=>true|_=>false)
  |some t,[.lf (.str _)]=>(match P.underlying t with|some .string=>true|_=>false)
  |_,_=>false)
 |_=>true
def CN:Operand→Nat
 |.tmp t=>t
 |_=>0
def HC:Operand→Bool
 |.tmp _=>true
 |_=>false
def JN:Option V1→Option TV
 |some v=>some (.one v)
 |none=>none
def w_(P:Program)(e:Env)(c:E1)(o:Oper):Option TV:=
  match o.op with
  |.move x=>nJ e c x
  |.assign x=>nJ e c x
  |.pick cn x y=>(match nJ e c cn with
    |some (.one (.lf (.bool b)))=>
      (match nJ e (match HC cn with|true=>(CN cn,true)::c|false=>c) x,nJ e (match HC cn with|true=>(CN cn,false)::c|false=>c) y with
       |some (.one (.lf (.bool p))),some (.one (.lf (.bool q)))=>ot (cond b p q)
       |vx,vy=>match b with|true=>vx|false=>vy)
    |_=>none)
  |.build t ps=>(match lG P t,sk e c ps.toList with
    |some z,some vs=>(match FK P t with|true=>(match yq (placeOf P t) z vs with|some ls=>some (.one (.agg ls))|none=>none)|false=>none)
    |_,_=>none)
  |.binOp op t x y _=>(match nJ e c x,nJ e c y with
    |some (.one a),some (.one b)=>Ru P op t a b
    |_,_=>none)
  |.unOp op _ x=>(match nJ e c x with|some (.one a)=>Yh op a|_=>none)
  |.convert src dst x=>(match nJ e c x with
    |some (.one (.lf (.int _ n)))=>(match P.underlying src,P.underlying dst with
      |some (.int _),some (.int k)=>ru k (k.wrap n)
      |_,_=>none)
    |_=>none)
  |.makeFunc fn first cap=>(match Lj e c first.toList,Lj e c cap.toList with
    |some a,some b=>some (.one (.lf (.fn (.mk fn (a.map V1.enc) (b.map V1.enc)))))
    |_,_=>none)
  |.fieldAddr t x i=>(match nJ e c x,uI P t i with
    |some (.one (.lf (.ptr (some p)))),some f=>(match Nat.beq (P.cellsOf f.type) 0 with
      |true=>none
      |false=>some (.one (.lf (.ptr (some ⟨p.b,p.o+f.offset⟩)))))
    |_,_=>none)
  |.field t x i=>(match nJ e c x,uI P t i with
    |some (.one (.agg ls)),some f=>(match(P.underlying f.type).isSome with|true=>JN (u9 P f.type ls f.offset)|false=>none)
    |_,_=>none)
  |.index t x (.const (.int _ n))=>(match nJ e c x,P.underlying t with
    |some (.one (.agg ls)),some (.array len el)=>(match decide (0≤n∧n<(len:Int)),(P.underlying el).isSome with
      |true,true=>JN (u9 P el ls (n.toNat*P.cellsOf el))
      |_,_=>none)
    |_,_=>none)
  |.extract x i=>(match nJ e c x with
    |some (.Nx vs)=>JN vs[i]?
    |_=>none)
  |.call cl=>(match cl.callee with
    |.builtin b=>(match Lj e c cl.args.toList with|some vs=>(match se P b cl.argTypes vs with|true=>ye b vs|false=>none)|none=>none)
    |_=>none)
  |_=>none
def QK(P:Program)(t:TypeId)(p:Pt)(K:TV→WP):WP:=
 match Nn P t with
 |some (.lf c)=>ld [c] p λx=>K (.one (.lf (c.mk x)))
 |some (.agg cs)=>ld cs p λx=>K (.one (.agg (Ks.mk cs x)))
 |none=>gx
def me:Operand→Bool
 |.const (.int _ n)=>match decide (n=0)with|true=>false|false=>true
 |_=>false
def BO(op:BinOp)(y:Operand)(k:IntKind)(a b:Int)(K:TV→WP):WP:=
 match op with
 |.quo=>(match me y with|true=>K (.one (.lf (.int k (k.wrap (a.tdiv b)))))|false=>d_ (b≠0) (K (.one (.lf (.int k (k.wrap (a.tdiv b)))))))
 |.rem=>(match me y with|true=>K (.one (.lf (.int k (a.tmod b))))|false=>d_ (b≠0) (K (.one (.lf (.int k (a.tmod b))))))
 |.shl=>d_ (0≤b) (K (.one (.lf (.int k (k.wrap (a*2^min b.toNat k.bits))))))
 |.shr=>d_ (0≤b) (K (.one (.lf (.int k (a.fdiv (2^min b.toNat k.bits))))))
 |_=>gx
def T9(P:Program)(f:FuncId)(args:List V1)(t:TypeId)(K:TV→WP):WP:=
 match P9 P t with
 |some rs=>call P f args rs λx=>K (mE (Rs.mk rs x))
 |none=>gx
def M0(P:Program)(f:Fv)(args:List V1)(t:TypeId)(K:TV→WP):WP:=
 match P9 P t with
 |some rs=>tg P f args rs λx=>K (mE (Rs.mk rs x))
 |none=>gx
def uF(P:Program)(t:TypeId):Option TypeId:=
 match P.underlying t with
 |some (.slice e)=>some e
 |_=>none
def Rk(P:Program)(t:TypeId):Option (Nat×TypeId):=
 match P.underlying t with
 |some (.array n e)=>some (n,e)
 |_=>none
def VG(P:Program)(t:TypeId):Option Unit:=
 match P.underlying t with
 |some (.int _)=>some ()
 |_=>none
def VU(P:Program)(t:TypeId):Bool:=
 match P.underlying t with
 |some (.struct fs)=>(match fs[0]? with|some f=>(match P.underlying f.type with|some (.pointer u)=>Nat.beq u t|_=>false)|none=>false)
 |_=>false
def Qd(P:Program)(t:TypeId):Bool:=
 match P.underlying t with
 |some .string=>true
 |_=>false
def Fg(P:Program)(t:TypeId):Bool:=
 match P.underlying t with
 |some (.slice e)=>(match P.underlying e with|some (.int .u8)=>true|_=>false)
 |_=>false
def Je(P:Program)(t:TypeId):Option (IntKind×Ks×List Lf):=
 match P.underlying t with
 |some (.map kt et)=>(match P.underlying kt,Nn P et,P.info? et with
  |some (.int k),some (.agg cs),some i=>(match i.zero with
   |some (.agg zs)=>(match pM (zs.toList.map yE)with|some z=>some (k,cs,z)|none=>none)
   |_=>none)
  |_,_,_=>none)
 |_=>none
def Eb(e:Env)(c:E1):Option Operand→Option (Option Int)
 |none=>some none
 |some x=>match nJ e c x with
  |some (.one (.lf (.int _ n)))=>some (some n)
  |_=>none
def D_(P:Program)(e:Env)(c:E1)(o:Oper)(K:TV→WP):WP:=
 match w_ P e c o with
 |some v=>K v
 |none=>
  match o.op with
  |.alloc t=>(match lG P t with
   |some ls=>(match VU P t with
    |true=>X_ t ls λb=>K (.one (.lf (.ptr (some ⟨b,0⟩))))
    |false=>new ls λb=>K (.one (.lf (.ptr (some ⟨b,0⟩)))))
   |none=>gx)
  |.box _ x=>(match nJ e c x with
   |some (.one v)=>new v.I8 λb=>K (.one (.lf (.ptr (some ⟨b,0⟩))))
   |_=>gx)
  |.buildSlice t n ps=>(match uF P t with
   |some el=>(match lG P el,sk e c ps.toList with
    |some z,some vs=>(match Nat.beq z.length (P.cellsOf el)&&Nat.ble (n*P.cellsOf el) 16777216&&!Nat.beq (P.cellsOf el) 0,yq (λi=>some (i*P.cellsOf el,P.cellsOf el)) (List.replicate n z).flatten vs with
     |true,some ls=>new ls λb=>K (.one (.lf (.sl ⟨some ⟨b,0⟩,n,n⟩)))
     |_,_=>gx)
    |_,_=>gx)
   |none=>gx)
  |.load t a=>(match nJ e c a with
   |some (.one (.lf (.ptr (some p))))=>QK P t p K
   |_=>gx)
  |.store t a x=>(match nJ e c a,nJ e c x with
   |some (.one (.lf (.ptr (some p)))),some (.one v)=>(match Nat.beq v.I8.length (P.cellsOf t)&&!Nat.beq (P.cellsOf t) 0 with
    |true=>st p v.I8 (K CS)
    |false=>gx)
   |_,_=>gx)
  |.nilCheck x=>(match nJ e c x with
   |some (.one (.lf (.ptr p)))=>deref p λq=>K (.one (.lf (.ptr (some q))))
   |some (.one (.lf (.fn f)))=>TN f (K (.one (.lf (.fn f))))
   |_=>gx)
  |.binOp op _ x y _=>(match nJ e c x,nJ e c y with
   |some (.one (.lf (.int k a))),some (.one (.lf (.int k' b)))=>(match op with
    |.shl=>BO op y k a b K
    |.shr=>BO op y k a b K
    |_=>match TS k k' with|true=>BO op y k a b K|false=>gx)
   |some (.one (.lf (.str a))),some (.one (.lf (.str b)))=>(match op with
    |.add=>d_ (((a.size+b.size:Nat):Int)≤IntKind.i64.max) (K (.one (.lf (.str (a++b)))))
    |_=>gx)
   |_,_=>gx)
  |.indexAddr t x i=>(match nJ e c x,nJ e c i with
   |some (.one (.lf (.sl s))),some (.one (.lf (.int _ n)))=>(match uF P t with
    |some el=>(match(P.underlying el).isSome with
     |true=>idx s n (P.cellsOf el) λq=>K (.one (.lf (.ptr (some q))))
     |false=>gx)
    |none=>gx)
   |some (.one (.lf (.ptr (some p)))),some (.one (.lf (.int _ n)))=>(match P.underlying t with
    |some (.array len el)=>(match(P.underlying el).isSome with
     |true=>d_ (0≤n∧n<len) (K (.one (.lf (.ptr (some ⟨p.b,p.o+n.toNat*P.cellsOf el⟩)))))
     |false=>gx)
    |_=>gx)
   |_,_=>gx)
  |.makeSlice t l cp=>(match uF P t,nJ e c l,nJ e c cp with
   |some el,some (.one (.lf (.int _ n))),some (.one (.lf (.int _ m)))=>(match lG P el with
    |some z=>(match Nat.beq z.length (P.cellsOf el)&&!Nat.beq (P.cellsOf el) 0&&Nat.ble (P.bytesOf el) 4096 with
     |true=>mk z n m λs=>K (.one (.lf (.sl s)))
     |false=>gx)
    |none=>gx)
   |_,_,_=>gx)
  |.slice t x lo hi mx=>(match Rk P t with
   |some (n,el)=>(match nJ e c x,Eb e c lo,Eb e c hi,Eb e c mx with
    |some (.one (.lf (.ptr (some p)))),some l,some h,some m=>(match !Nat.beq (P.cellsOf el) 0&&(!m.isSome||h.isSome)with
     |true=>EF ⟨some p,n,n⟩ l h m (P.cellsOf el) λs=>K (.one (.lf (.sl s)))
     |false=>gx)
    |_,_,_,_=>gx)
   |none=>match uF P t,nJ e c x,Eb e c lo,Eb e c hi,Eb e c mx with
   |some el,some (.one (.lf (.sl s))),some l,some h,some m=>(match !Nat.beq (P.cellsOf el) 0&&(!m.isSome||h.isSome)with
    |true=>EF s l h m (P.cellsOf el) λs=>K (.one (.lf (.sl s)))
    |false=>gx)
   |none,some (.one (.lf (.str s))),some l,some h,some none=>(match Qd P t with
    |true=>Yf s l h λs=>K (.one (.lf (.str s)))
    |false=>gx)
   |_,_,_,_,_=>gx)
  |.convert src dst x=>(match nJ e c x,Fg P src&&Qd P dst with
   |some (.one (.lf (.sl s))),true=>Xd s λb=>K (.one (.lf (.str b)))
   |_,_=>gx)
  |.index t x i=>(match nJ e c x,nJ e c i,P.underlying t with
   |some (.one (.agg ls)),some (.one (.lf (.int _ n))),some (.array len el)=>(match Nn P el with
    |some (.lf k)=>VI [k] ls n len (P.cellsOf el) λx=>K (.one (.lf (k.mk x)))
    |some (.agg ks)=>VI ks ls n len (P.cellsOf el) λx=>K (.one (.agg (Ks.mk ks x)))
    |none=>gx)
   |some (.one (.lf (.str s))),some (.one (.lf (.int _ n))),some .string=>Xc s n λx=>K (.one (.lf (.int .u8 x)))
   |_,_,_=>gx)
  |.makeMap _ none=>mkm λr=>K (.one (.lf (.mp r)))
  |.lookup t x i true=>(match nJ e c x,nJ e c i,Je P t with
   |some (.one (.lf (.mp r))),some (.one (.lf (.int kk k))),some (k',cs,z)=>(match TS kk k' with
    |true=>mlk r kk k cs z λy=>K (.Nx [.agg (Ks.mk cs y.1),.lf (.bool y.2)])
    |false=>gx)
   |_,_,_=>gx)
  |.mapUpdate t x i v=>(match nJ e c x,nJ e c i,nJ e c v,Je P t with
   |some (.one (.lf (.mp r))),some (.one (.lf (.int kk k))),some (.one (.agg ls)),some (k',cs,_)=>(match TS kk k' with
    |true=>mup r kk k cs ls (K CS)
    |false=>gx)
   |_,_,_,_=>gx)
  |.call cl=>(match cl.callee with
   |.builtin .append=>(match Lj e c cl.args.toList,(cl.argTypes[0]?).bind (uF P),(cl.argTypes[1]?).bind (uF P)with
    |some [.lf (.sl s),.lf (.sl x)],some el,some _=>(match lG P el with
     |some z=>(match Nat.beq z.length (P.cellsOf el)&&!Nat.beq (P.cellsOf el) 0&&Nat.ble (P.bytesOf el) 2048&&!Nat.beq (P.bytesOf el) 0 with
      |true=>mw (P.cellsOf el) s x λs=>K (.one (.lf (.sl s)))
      |false=>gx)
     |none=>gx)
    |some [.lf (.sl s),.lf (.int _ n)],some el,none=>(match lG P el,(cl.argTypes[1]?).bind (VG P)with
     |some z,some ()=>(match Nat.beq z.length (P.cellsOf el)&&!Nat.beq (P.cellsOf el) 0&&Nat.ble (P.bytesOf el) 2048&&!Nat.beq (P.bytesOf el) 0 with
      |true=>N4 z (P.cellsOf el) s n λs=>K (.one (.lf (.sl s)))
      |false=>gx)
     |_,_=>gx)
    |_,_,_=>gx)
   |.builtin .clear=>(match Lj e c cl.args.toList,(cl.argTypes[0]?).bind (uF P)with
    |some [.lf (.sl s)],some el=>(match lG P el with
     |some z=>(match Nat.ble 1 z.length with|true=>WI z s (K CS)|false=>gx)
     |none=>gx)
    |_,_=>gx)
   |.value (.func f)=>(match Lj e c cl.args.toList with|some vs=>T9 P f vs o.type K|none=>gx)
   |.value x=>(match nJ e c x,Lj e c cl.args.toList with
    |some (.one (.lf (.fn f))),some vs=>M0 P f vs o.type K
    |_,_=>gx)
   |_=>gx)
  |_=>gx
def QQ(op:Op):Bool:=
 match op with
 |.move _=>true
 |.assign _=>true
 |.pick _ _ _=>true
 |.build _ _=>true
 |.binOp b _ _ _ _=>(match b with|.quo=>false|.rem=>false|.shl=>false|.shr=>false|_=>true)
 |.unOp _ _ _=>true
 |.convert _ _ _=>true
 |.makeFunc _ _ _=>true
 |.fieldAddr _ _ _=>true
 |.field _ _ _=>true
 |.extract _ _=>true
 |.index _ _ (.const _)=>true
 |.call cl=>(match cl.callee with
  |.builtin b=>(match b with|.len=>true|.cap=>true|.max=>true|.min=>true|_=>false)
  |_=>false)
 |_=>false
def Hx(j:Nat)(o:Oper):Bool:=match o.guard with
 |some (i,_)=>Nat.beq i j
 |none=>false
def anyI(f:Oper→Nat→Bool):List Oper→Nat→Bool
 |[],_=>false
 |o::r,i=>f o i||anyI f r (i+1)
def parts(all:List Oper):Nat→Nat→Bool
 |0,_=>false
 |n+1,j=>anyI (λo i=>Hx j o&&(!QQ o.op||parts all n i)) all 0
def F5(e:Env)(o:Oper)(v:TV):Env:=e.put o.dst (.val v)
def yL(p:Bool)(e:Env)(o:Oper)(k:Env→WP)(v:TV):WP:=
 match p with
 |true=>(match o.dst,v with
  |some d,.one (.lf (.bool b))=>aq b (k (e.put (some d) (.val (.one (.lf (.bool true)))))) (k (e.put (some d) (.val (.one (.lf (.bool false))))))
  |_,_=>gx)
 |false=>k (F5 e o v)
def QH:Ij→Bool
 |.val (.Nx [])=>true
 |_=>false
def po(P:Program)(all:List Oper):List Oper→Nat→Env→(Env→WP)→WP
 |[],_,e,K=>K e
 |o::r,i,e,K=>
  match o.guard with
  |none=>D_ P e [] o (yL (parts all 6 i) e o λe=>po P all r (i+1) e K)
  |some (j,want)=>match(all[j]?).bind (·.dst)with
   |none=>gx
   |some sj=>match parts all 6 j with
    |true=>(match e.get sj with
     |.val (.one (.lf (.bool b)))=>(match b,want with
      |true,true=>D_ P e [] o (yL (parts all 6 i) e o λe=>po P all r (i+1) e K)
      |false,false=>D_ P e [] o (yL (parts all 6 i) e o λe=>po P all r (i+1) e K)
      |_,_=>po P all r (i+1) (F5 e o CS) K)
     |.val (.Nx [])=>po P all r (i+1) (F5 e o CS) K
     |_=>gx)
    |false=>(match QH (e.get sj)with
     |true=>po P all r (i+1) (F5 e o CS) K
     |false=>match w_ P e ((sj,want)::Dz e 5 sj) o,o.dst with
     |some v,some d=>(match Nat.beq d sj,e.get sj with
      |false,.val (.one (.lf (.bool _)))=>po P all r (i+1) (e.put (some d) (.gv sj want v)) K
      |false,.gv _ _ (.one (.lf (.bool _)))=>po P all r (i+1) (e.put (some d) (.gv sj want v)) K
      |_,_=>gx)
     |_,_=>gx)
inductive DT where
 |aG
 |f (i:Nat) (sl:List Nat) (r:DT)
 |w (i:Nat) (sl:List Nat) (r:DT)
 |wa (i:Nat) (sl:List Nat) (r alt:DT)
def bit(m i:Nat):Bool:=Nat.testBit m i
def qP(m i:Nat):Nat:=m|||(1 <<< i)
def G0(a b:Nat):Bool:=Nat.beq (a&&&b) a
def vL:List Edge→Nat
 |[]=>0
 |e::r=>match Region.binds .any e with|true=>qP (vL r) e.on|false=>vL r
def iI(o:Oper):Nat:=vL o.after.toList
def Dk(acc:List Nat):List Edge→Nat
 |[]=>0
 |e::r=>match Region.binds .any e with|true=>qP (Dk acc r) e.on|||(acc[e.on]?).getD 0|false=>Dk acc r
def N3:List Oper→List Nat→List Nat
 |[],acc=>acc
 |o::r,acc=>N3 r (acc++[Dk acc o.after.toList])
def Iw(ops:List Oper)(i:Nat):Nat:=((N3 ops [])[i]?).getD 0
def TR(op:Op):Bool:=match op with
 |.assign _=>false
 |.load _ _=>true
 |.nilCheck _=>true
 |.indexAddr _ _ _=>true
 |.index _ _ _=>true
 |.binOp _ _ _ _ _=>true
 |op=>QQ op
def kZ(n:Nat):List Nat→Bool
 |[]=>false
 |x::r=>Nat.beq x n||kZ n r
def mT(sl:List Nat):Nat→Env→Env
 |_,[]=>[]
 |n,x::e=>(match kZ n sl with|true=>x|false=>.un)::mT sl (n+1) e
def qf(e:Env)(d:Option Nat)(v:TV):Env:=match d with|none=>e|some d=>e.set d (.val v)
def Pr(i:Nat)(ai:Nat)(sl:List Nat):List Oper→Nat→Bool
 |[],_=>true
 |o::r,j=>(match o.dst with
  |none=>true
  |some s=>!kZ s sl||bit ai j||(bit (iI o) i&&!TR o.op)||(Nat.beq i j&&!TR o.op))&&Pr i ai sl r (j+1)
def Hy(ops:List Oper)(i:Nat)(o:Oper)(sl:List Nat):Bool:=Pr i (iI o) sl ops 0
def Mb(ops:List Oper)(i:Nat)(o:Oper)(sl:List Nat)(V:Nat):Bool:=!bit V i&&(G0 (iI o) V&&Hy ops i o sl)
def O9(V C:Nat):List Oper→Nat→Bool
 |[],_=>true
 |o::r,j=>(bit V j||bit C j||!G0 (iI o) V)&&O9 V C r (j+1)
def DM(V:Nat):List Oper→Nat→Bool
 |[],_=>true
 |_::r,j=>bit V j&&DM V r (j+1)
def Hs(d:Nat):List Oper→Bool
 |[]=>false
 |o::r=>(match o.dst with|some s=>Nat.beq s d|none=>false)||Hs d r
def iY:List Oper→Bool
 |[]=>true
 |o::r=>(match o.dst with|some s=>!Hs s r|none=>true)&&iY r
def VE(i:Nat):List Oper→Bool
 |[]=>false
 |o::r=>Hx i o||VE i r
abbrev C1:=List (Nat×Pt×List Lf)
def Fs:C1→Nat→WP→WP
 |[],_,A=>A
 |(i,p,ls)::r,m,A=>match bit m i with|true=>Fs r m A|false=>co p ls (Fs r m A)
def Vd(i:Nat)(l:Option (Pt×List Lf))(ec:C1):C1:=match l with|none=>ec|some (p,ls)=>(i,p,ls)::ec
def Pk(P:Program)(e:Env)(o:Oper)(K:TV→Option (Pt×List Lf)→WP):WP:=
 match w_ P e [] o with
 |some v=>K v none
 |none=>match o.op with
  |.load t x=>(match nJ e [] x with
   |some (.one (.lf (.ptr (some p))))=>(match Nn P t with
    |some (.lf c)=>ld [c] p λx=>K (.one (.lf (c.mk x))) (some (p,Ks.mk [c] x))
    |some (.agg cs)=>ld cs p λx=>K (.one (.agg (Ks.mk cs x))) (some (p,Ks.mk cs x))
    |none=>gx)
   |_=>gx)
  |.nilCheck _=>D_ P e [] o λv=>K v none
  |.indexAddr _ _ _=>D_ P e [] o λv=>K v none
  |.index _ _ _=>D_ P e [] o λv=>K v none
  |.binOp _ _ _ _ _=>D_ P e [] o λv=>K v none
  |_=>gx
def Rx(g:Bool)(o:Oper)(e:Env)(k:Env→WP)(v:TV):WP:=
 match g with
 |true=>(match v with
  |.one (.lf (.bool b))=>aq b (k (qf e o.dst (.one (.lf (.bool true))))) (k (qf e o.dst (.one (.lf (.bool false)))))
  |_=>k (qf e o.dst v))
 |false=>k (qf e o.dst v)
def tR(ops:List Oper)(o:Oper)(e:Env)(go skip:WP):WP:=
 match o.guard with
 |none=>go
 |some (j,want)=>match(ops[j]?).bind (·.dst)with
  |none=>gx
  |some sj=>match e.get sj with
   |.val (.one (.lf (.bool b)))=>(match b,want with
    |true,true=>go
    |false,false=>go
    |_,_=>skip)
   |.val (.Nx [])=>skip
   |_=>gx
def VH:DT→Bool
 |.w _ _ _=>true
 |.wa _ _ _ _=>true
 |_=>false
def hY(P:Program)(ops:List Oper)(K:Env→WP):DT→Nat→Nat→Env→C1→WP
 |.aG,V,_,e,_=>match DM V ops 0 with|true=>K e|false=>gx
 |.f i sl r,V,_,e,ec=>match ops[i]? with
  |none=>gx
  |some o=>match Mb ops i o sl V&&TR o.op with
   |true=>tR ops o (mT sl 0 e) (Pk P (mT sl 0 e) o λv l=>Rx (VE i ops) o e (λe'=>hY P ops K r (qP V i) 0 e' (Vd i l ec)) v) (hY P ops K r (qP V i) 0 (qf e o.dst CS) ec)
   |false=>gx
 |.w i sl r,V,C,e,ec=>match ops[i]? with
  |none=>gx
  |some o=>match Mb ops i o sl V&&O9 V (qP C i) ops 0 with
   |true=>tR ops o (mT sl 0 e) (D_ P (mT sl 0 e) [] o λv=>Fs ec (Iw ops i) (Rx (VE i ops) o e (λe'=>hY P ops K r (qP V i) 0 e' ec) v)) (hY P ops K r (qP V i) 0 (qf e o.dst CS) ec)
   |false=>gx
 |.wa i sl r alt,V,C,e,ec=>match ops[i]? with
  |none=>gx
  |some o=>match Mb ops i o sl V&&VH alt with
   |true=>both (tR ops o (mT sl 0 e) (D_ P (mT sl 0 e) [] o λv=>Fs ec (Iw ops i) (Rx (VE i ops) o e (λe'=>hY P ops K r (qP V i) 0 e' ec) v)) (hY P ops K r (qP V i) 0 (qf e o.dst CS) ec))
     (hY P ops K alt V (qP C i) e ec)
   |false=>gx
abbrev xn:=Nat×Sh
inductive EZ where
 |o
 |d (t:DT)
 |s (a b:EZ)
 |j (sl:List xn) (a b:EZ)
 |b (a:EZ)
 |bj (sl:List xn) (a:EZ)
 |l (sl:List xn) (a:EZ)
 |r (rs:List Sh) (a b:EZ)
def nL:List xn→List CK
 |[]=>[]
 |(_,.lf c)::r=>c::nL r
 |(_,.agg cs)::r=>cs++nL r
def yS(e:Env):List xn→Option (List Lf)
 |[]=>some []
 |(n,.lf _)::r=>match e.get n with
  |.val (.one (.lf l))=>(match yS e r with|some ls=>some (l::ls)|none=>none)
  |_=>none
 |(n,.agg cs)::r=>match e.get n with
  |.val (.one (.agg xs))=>(match Nat.beq xs.length cs.length,yS e r with|true,some ls=>some (xs++ls)|_,_=>none)
  |_=>none
def w9(sl:List xn)(e:Env)(J:Ks.T (nL sl)→WP):WP:=
 match yS e sl with
 |some ls=>(match Ks.un (nL sl) ls with|some x=>J x|none=>gx)
 |none=>gx
def sR:List xn→List Lf→Env→Env
 |[],_,e=>e
 |(n,.lf _)::r,ls,e=>match ls with
  |l::ls=>sR r ls (e.put (some n) (.val (.one (.lf l))))
  |[]=>e
 |(n,.agg cs)::r,ls,e=>sR r (ls.drop cs.length) (e.put (some n) (.val (.one (.agg (ls.take cs.length)))))
def fK:Env→Env
 |[]=>[]
 |.gv _ _ _::e=>.un::fK e
 |x::e=>x::fK e
def tS:List Nat→Env→Env
 |[],e=>e
 |d::r,e=>tS r (e.set d .un)
def fh:List Oper→List Nat
 |[]=>[]
 |o::r=>match o.dst with|some d=>d::fh r|none=>fh r
def writes:Code→List Nat
 |.region _ ops _=>fh ops.toList
 |.seq a b=>writes a++writes b
 |.cond _ a b=>writes a++writes b
 |.block _ a=>writes a
 |.loop a=>writes a
 |.scope a=>writes a
 |_=>[]
def GX(ws:List Nat):List xn→Bool
 |[]=>true
 |(n,_)::r=>kZ n ws&&GX ws r
def Dp(c:Code)(e:Env):Env:=tS (writes c) (fK e)
def sS(c:Code)(sl:List xn)(e:Env)(x:Ks.T (nL sl)):Env:=sR sl (Ks.mk (nL sl) x) (Dp c e)
def oO(n:Nat)(i:Nat)(A B:WP):WP:=match Nat.beq i n with|true=>A|false=>B
def y9(e:Env):List Nat→List V1→Env
 |d::ds,v::vs=>y9 (e.put (some d) (.val (.one v))) ds vs
 |_,_=>e
def nf:Code→List Nat
 |.seq a b=>nf a++nf b
 |.cond _ a b=>nf a++nf b
 |.block i a=>(nf a).filter (λj=>!Nat.beq i j)
 |.loop a=>nf a
 |.scope a=>nf a
 |.exit i=>[i]
 |_=>[]
def vr:Code→Bool
 |.seq a b=>vr a||vr b
 |.cond _ a b=>vr a||vr b
 |.block _ a=>vr a
 |.loop a=>vr a
 |.scope a=>vr a
 |.ret=>true
 |_=>false
def BL(j:Nat)(kx:Nat→WP):List Nat→WP
 |[]=>gx
 |i::r=>oO (i+2) j (kx i) (BL j kx r)
def LF(c:Code)(j:Nat)(kn kr:WP)(kx:Nat→WP):WP:=
 oO 0 j kn (match vr c with|true=>oO 1 j kr (BL j kx (nf c))|false=>BL j kx (nf c))
abbrev qc(P:Program)(fv:Fv)(rs:List Sh)(B:Rs.T rs→(WP→WP)→WP→(Nat→WP)→WP)(K:Nat→WP):WP:=λw=>
 ∀(w1:World) (l:Nat) (st:Nat→Obj) (busy:Obj),(∀j,st j≠lC)→busy≠lC→jO D5 w w1→w.heap.size≤l→l<w1.heap.size→w1.heap[l]?=some (st 0)→
  (∀(x:Rs.T rs) (W:World) (R:Value→World→Prop),
   B x (λA W0=>W0.heap[l]?=some (st 0)∧∀W1,jO (Dn l) W0 W1→W1.heap[l]?=some busy→W1.heap.size=W0.heap.size→A W1)
    (λW2=>W2.heap[l]?=some busy∧∀W3,jO (Dn l) W2 W3→W3.heap[l]?=some (st 0)→W3.heap.size=W2.heap.size→R (.bool true) W3)
    (λj W2=>W2.heap[l]?=some busy∧∀W3,jO (Dn l) W2 W3→W3.heap[l]?=some (st j)→W3.heap.size=W2.heap.size→R (.bool false) W3) W→
   W.heap[l]?=some (st 0)→
   uw P (.mk (.yield l) [] []) ((Rs.mk rs x).map V1.enc) W R)→
  qS P fv [Fv.enc (.mk (.yield l) [] [])] w1 λ_ w2=>lH w1 w2∧∃j,w2.heap[l]?=some (st j)∧∀w3,jO (Dn l) w2 w3→w3.heap.size=w2.heap.size→K j w3
def uu(P:Program)(inR:Bool):Code→EZ→Env→(Env→WP)→(Nat→Env→WP)→(Env→WP)→WP
 |.skip,_,e,kn,_,_=>kn e
 |.label _,_,e,kn,_,_=>kn e
 |.region _ ops false,_,e,kn,_,_=>po P ops.toList ops.toList 0 e kn
 |.region _ ops true,.d t,e,kn,_,_=>match P.follows .mixedOrders&&iY ops.toList with
  |true=>bF (hY P ops.toList kn t 0 0 (fK e) [])
  |false=>gx
 |.seq a b,.s x y,e,kn,kx,kr=>uu P inR a x e (λe1=>uu P inR b y e1 kn kx kr) kx kr
 |.seq a b,.j sl x y,e,kn,kx,kr=>match GX (writes a) sl with
  |true=>join (nL sl) (λJ=>uu P inR a x e (λe1=>w9 sl e1 J) kx kr) (λv=>uu P inR b y (sS a sl e v) kn kx kr)
  |false=>gx
 |.cond c a b,.s x y,e,kn,kx,kr=>match nJ e [] c with
  |some (.one (.lf (.bool t)))=>aq t (uu P inR a x e kn kx kr) (uu P inR b y e kn kx kr)
  |_=>gx
 |.block id a,.b x,e,kn,kx,kr=>uu P inR a x e kn (λi e1=>oO id i (kn e1) (kx i e1)) kr
 |.block id a,.bj sl x,e,kn,kx,kr=>match GX (writes a) sl with
  |true=>join (nL sl) (λJ=>uu P inR a x e (λe1=>w9 sl e1 J) (λi e1=>oO id i (w9 sl e1 J) (kx i e1)) kr) (λv=>kn (sS a sl e v))
  |false=>gx
 |.loop a,.l sl x,e,_,kx,kr=>match GX (writes a) sl with
  |true=>w9 sl e λx0=>loop (nL sl) x0 (λJ v=>uu P inR a x (sS a sl e v) (λe1=>w9 sl e1 J) kx kr)
  |false=>gx
 |.exit i,_,e,_,kx,_=>kx i e
 |.ret,_,e,_,_,kr=>kr e
 |.scope a,x,e,kn,kx,kr=>uu P inR a x e kn kx kr
 |.rangeFunc f ps as body,.r rs x y,e,kn,kx,kr=>match inR,nJ e [] f with
  |false,some (.one (.lf (.fn fv)))=>(match Nat.beq rs.length ps.size with
   |true=>qc P fv rs (λv A4 next jump=>uu P true as x (y9 (fK e) ps.toList (Rs.mk rs v)) (λe1=>A4 (uu P true body y e1 (λ_=>next) (λi _=>jump (i+2)) (λ_=>jump 1))) (λ_ _=>gx) (λ_=>gx))
     (λj=>LF body j (kn e) (kr e) (λi=>kx i e))
   |false=>gx)
  |_,_=>gx
 |_,_,_,_,_,_=>gx
structure U6(A B:WP):Prop where
 eq:A=B
structure Lv(n:Nat)(w w':World):Prop where
 os:w'.os=w.os
 tape:w'.tape=w.tape
 output:w'.output=w.output
 size:w'.heap.size=w.heap.size
 same:∀k:Nat,(k<n∨w.heap[k]?≠some lC)→w'.heap[k]?=w.heap[k]?
abbrev lB(n:Nat)(A:WP):WP:=λw=>∀w',Lv n w w'→A w'
def cz:Code→Bool
 |.seq a b=>cz a||cz b
 |.cond _ a b=>cz a||cz b
 |.block _ a=>cz a
 |.loop a=>cz a
 |.scope a=>cz a
 |.rangeFunc _ _ _ _=>true
 |_=>false
def Aw(P:Program)(e:Env):List ResultVar→(List V1→WP)→WP
 |[],K=>K []
 |.tmp t::r,K=>match e.get t with
  |.val (.one v)=>Aw P e r λvs=>K (v::vs)
  |_=>gx
 |.cell t ty::r,K=>match e.get t,Nn P ty with
  |.val (.one (.lf (.ptr (some p)))),some (.lf c)=>ld [c] p λx=>Aw P e r λvs=>K (.lf (c.mk x)::vs)
  |.val (.one (.lf (.ptr (some p)))),some (.agg cs)=>ld cs p λx=>Aw P e r λvs=>K (.agg (Ks.mk cs x)::vs)
  |_,_=>gx
def Uo(rs:List Sh)(vs:List V1)(R:Rs.T rs→WP):WP:=
 match Rs.un rs vs with|some x=>R x|none=>gx
def DH(n:Nat)(args:List V1):Env:=args.map (λv=>.val (.one v))++List.replicate (n-args.length) (.val CS)
def P6(P:Program)(fn:Func)(an:EZ)(args:List V1)(rs:List Sh)(R:Rs.T rs→WP):WP:=λw=>
 match fn.body with
 |none=>False
 |some c=>
  let kr (e:Env):WP:=Aw P e fn.results.toList λvs=>Uo rs vs λx=>match cz c with
   |true=>lB w.heap.size (R x)
   |false=>R x
  uu P false c an (DH fn.ntmps args) kr (λ_ _=>gx) kr w
end Go.X

namespace Go.X
theorem Env.uM(e:Env)(d:Nat)(y:Ij)(i:Nat):(Env.set e d y).get i=if i=d∧d<e.length then y else e.get i:=by
 induction e generalizing d i with
 |nil=>simp[Env.set,Env.get]
 |cons x e ih=>
  cases d with
  |zero=>cases i<;>simp[Env.set,Env.get]
  |succ d=>cases i with
   |zero=>simp[Env.set,Env.get]
   |succ i=>simp[Env.set,Env.get,ih]
theorem Env.get_map(f:Ij→Ij)(hf:f .un=.un)(e:Env)(i:Nat):Env.get (e.map f) i=f (e.get i):=by
 induction e generalizing i with
 |nil=>simp[Env.get,hf]
 |cons x e ih=>cases i<;>simp[Env.get,ih]
theorem Env.uT(e:Env)(d:Nat)(y:Ij):(Env.set e d y).length=e.length:=by
 induction e generalizing d with
 |nil=>rfl
 |cons x e ih=>cases d<;>simp[Env.set,ih]
theorem Env.yv(e:Env)(i:Nat)(h:e.length≤i):e.get i=.un:=by
 induction e generalizing i with
 |nil=>rfl
 |cons x e ih=>cases i with
  |zero=>simp at h
  |succ i=>simp[Env.get];exact ih i (by simpa using h)
def jd(a:Act)(i:Nat):Ij→Prop
 |.un=>True
 |.val v=>a.tmps[i]?=some v.enc
 |.gv j w v=>(a.tmps[j]?=some (.bool w)→a.tmps[i]?=some v.enc)∧(a.tmps[j]?≠some (.bool w)→a.tmps[i]?=some undef)
structure lU(e:Env)(a:Act):Prop where
 len:e.length=a.tmps.size
 ok:∀i,jd a i (e.get i)
def eW(c:E1)(a:Act):Prop:=∀j w,DR j w c=true→a.tmps[j]?=some (.bool w)
theorem eW.nil(a:Act):eW [] a:=λ_ _ h=>by cases h
theorem tT{j:Nat}{w:Bool}{c:E1}{a:Act}(hc:eW c a)(h:a.tmps[j]?=some (.bool w)):eW ((j,w)::c) a:=by
 intro i v hi;simp only[DR]at hi;split at hi
 ·rename_i hb;have e:j=i:=px hb;subst e;cases w<;>cases v<;>first|exact h|exact hc _ _ hi
 ·exact hc _ _ hi
theorem DV{v:Value}{l:Lf}(h:yE v=some l):l.enc=v:=by
 unfold yE at h;split at h<;>cases h<;>rfl
theorem x5{α:Type}:∀{l:List (Option α)} {xs:List α},pM l=some xs→l=xs.map some
 |[],xs,h=>by cases h;rfl
 |none::r,xs,h=>by simp[pM]at h
 |some x::r,xs,h=>by
  simp only[pM]at h;split at h
  ·rename_i ys hy;cases h;simp[x5 hy]
  ·cases h
theorem I7{vs:List Value}{ls:List Lf}(h:vs.map yE=ls.map some):ls.map Lf.enc=vs:=by
 induction vs generalizing ls with
 |nil=>cases ls<;>simp at h⊢
 |cons v vs ih=>
  cases ls with
  |nil=>simp at h
  |cons l ls=>
   simp at h;simp[DV h.1,ih h.2]
theorem vT{v:Value}{x:V1}(h:tN v=some x):x.enc=v:=by
 unfold tN at h;split at h
 ·rename_i cs;split at h
  ·rename_i ls hl;cases h;have:=I7 (x5 hl);simp[V1.enc,this]
  ·cases h
 ·split at h
  ·rename_i l hl;cases h;exact DV hl
  ·cases h
theorem Lf.cells(l:Lf):l.enc.cells=#[l.enc]:=by
 cases l with
 |sl s=>
  obtain⟨a,c,h,_⟩:=s.ly;simp[Lf.enc,h,Value.cells]
 |fn f=>cases f<;>simp[Lf.enc,Fv.enc,Value.cells]
 |_=>simp[Lf.enc,Value.cells]
theorem V1.cells(v:V1):v.enc.cells=(v.I8.map Lf.enc).toArray:=by
 cases v with
 |lf l=>simp[V1.enc,V1.I8,Lf.cells]
 |agg ls=>simp[V1.enc,V1.I8,Value.cells]
section
variable {P:Program} {e:Env} {a:Act} {c:E1} {w:World}
theorem bu(hA:lU e a)(hc:eW c a){x:Operand}{v:TV}(h:nJ e c x=some v):a.eval x=v.enc:=by
 unfold nJ at h;split at h
 ·rename_i t;have hk:=hA.ok t;split at h
  ·rename_i u hu;cases h;rw[hu]at hk;simp only[jd]at hk;simp[Act.eval,hk]
  ·rename_i j ww u hu;rw[hu]at hk;split at h
   ·rename_i hin;cases h;have:=hk.1 (hc _ _ hin);simp[Act.eval,this]
   ·cases h
  ·cases h
 ·split at h
  ·rename_i y hy;cases h;simp[Act.eval,TV.enc,vT hy]
  ·cases h
 ·cases h;simp[Act.eval,TV.enc,V1.enc,Lf.enc,Fv.enc]
 ·cases h
theorem pQ(hA:lU e a)(hc:eW c a):∀{xs:List Operand} {vs:List V1},Lj e c xs=some vs→xs.map a.eval=vs.map V1.enc
 |[],vs,h=>by simp[Lj]at h;subst h;rfl
 |x::r,vs,h=>by
  simp only[Lj]at h;split at h
  ·rename_i v hv;split at h
   ·rename_i us hu;cases h;simp only[kq];rw[bu hA hc hv,pQ hA hc hu]
    rfl
   ·cases h
  ·cases h
theorem tP(hA:lU e a)(hc:eW c a):∀{xs:List (Nat×Operand)} {vs:List (Nat×V1)},sk e c xs=some vs→xs.map (λx=>(x.1,a.eval x.2))=vs.map (λx=>(x.1,x.2.enc))
 |[],vs,h=>by simp[sk]at h;subst h;rfl
 |(i,x)::r,vs,h=>by
  simp only[sk]at h;split at h
  ·rename_i v hv;split at h
   ·rename_i us hu;cases h;simp only[kq];rw[bu hA hc hv,tP hA hc hu]
    rfl
   ·cases h
  ·cases h
end
theorem ky(a:Act)(d:Nat)(v:Value)(i:Nat):(a.put (some d) v).tmps[i]?=if i=d∧d<a.tmps.size then some v else a.tmps[i]?:=by
 simp only[Act.put];by_cases h:d=i
 ·subst h;by_cases hl:d<a.tmps.size
  ·simp[hl]
  ·simp[hl]
 ·rw[F6 h];simp[lS h]
theorem size_put(a:Act)(d:Option Nat)(v:Value):(a.put d v).tmps.size=a.tmps.size:=by
 cases d<;>simp[Act.put]
theorem Eh{a:Act}{d:Nat}{v:Value}{i:Nat}(hi:¬(i=d∧d<a.tmps.size)){x:Ij}(h:jd a i x):jd (a.put (some d) v) i (Eg d x):=by
 cases x with
 |un=>trivial
 |val u=>simp only[Eg,jd]at*;rw[ky,ay hi];exact h
 |gv j w u=>
  simp only[Eg];split
  ·trivial
  ·rename_i hb;have hne:¬j=d:=λe=>by rw[e,CA]at hb;cases hb
   simp only[jd]at*;rw[ky,ky,ay hi,ay (λhh=>hne hh.1)];exact h
theorem lU.put{e:Env}{a:Act}(h:lU e a)(d:Option Nat)(v:TV):lU (e.put d (.val v)) (a.put d v.enc):=by
 cases d with
 |none=>exact h
 |some d=>
  refine⟨by rw[size_put,←h.len];simp[Env.put,Env.uT],λi=>?_⟩;simp only[Env.put];rw[Env.uM];split
  ·rename_i hi;simp only[jd];rw[ky,aC ⟨hi.1,by rw[←h.len];simpa using hi.2⟩]
  ·rename_i hi;rw[Env.get_map _ rfl];exact Eh (by rw[←h.len];simpa using hi) (h.ok i)
theorem lU.Mv{e:Env}{a:Act}(h:lU e a){d j:Nat}(hj:d≠j)(want:Bool)(v:TV)(u:Value)
  (h1:a.tmps[j]?=some (.bool want)→u=v.enc) (h2:a.tmps[j]?≠some (.bool want)→u=undef):lU (e.put (some d) (.gv j want v)) (a.put (some d) u):=by
 refine⟨by rw[size_put,←h.len];simp[Env.put,Env.uT],λi=>?_⟩;simp only[Env.put];rw[Env.uM];split
 ·rename_i hi;have hd:d<a.tmps.size:=by rw[←h.len];simpa using hi.2
  simp only[jd];have e1:(a.put (some d) u).tmps[i]?=some u:=by rw[ky,aC ⟨hi.1,hd⟩]
  have e2:(a.put (some d) u).tmps[j]?=a.tmps[j]?:=by rw[ky,ay (λhh=>hj hh.1.symm)]
  rw[e1,e2];exact⟨λhh=>by rw[h1 hh],λhh=>by rw[h2 hh]⟩
 ·rename_i hi;rw[Env.get_map _ rfl];exact Eh (by rw[←h.len];simpa using hi) (h.ok i)
end Go.X

namespace Go.X
variable {P:Program}
theorem tU{a b:IntKind}(h:TS a b=true):a=b:=by cases a<;>cases b<;>first|rfl|cases h
def ny(P:Program)(t:TypeId)(ls:List Lf)(v:Value):Prop:=if fb P t then v=.agg (ls.map Lf.enc).toArray else ∃l,ls=[l]∧v=l.enc
theorem sv(P:Program)(t:TypeId){d:TypeDesc}(h:P.underlying t=some d)(w:World):(isAgg t).run P w=.ok (fb P t) w:=by
 unfold isAgg fb;simp only[cj,eZ h,dp,h];cases d<;>rfl
theorem jL{t:TypeId}{d:TypeDesc}(h:P.underlying t=some d)(w:World):(sizeOf t).run P w=.ok (P.cellsOf t) w:=by
 unfold sizeOf typeInfo Program.cellsOf;cases hi:P.info? t with
 |none=>simp[Program.underlying,hi]at h
 |some i=>simp[hi]
theorem u_{t:TypeId}{d:TypeDesc}(h:P.underlying t=some d)(xs:List Lf)(off:Nat)(ls:List Lf)(hl:ym xs off (P.cellsOf t)=ls)(hs:fb P t=false→∃l,ls=[l])(w:World):
  ∃v,(part t (xs.map Lf.enc).toArray off).run P w=.ok v w∧ny P t ls v:=by
 unfold part;simp only[cj,sv P t h,dp,qC];unfold ny;cases ha:fb P t with
 |true=>
  simp only[gU,jL h,dp,dQ];refine⟨_,rfl,?_⟩;subst hl;simp[ym,List.map_take,List.map_drop]
 |false=>
  obtain⟨l,rfl⟩:=hs ha;have hx:xs[off]?=some l:=by
   have:=jF (λz=>z[0]?) hl;simp only[ym]at this;rw[oC]at this;split at this
   ·simpa using this
   ·simp at this
  simp[hx]
theorem BS{d:Nat}{fs:List Field}{xs ys:List Lf}{b:Bool}{rec:TypeId→List Lf→List Lf→Option Bool}(w:World)
  (hrec:∀t us vs b,rec t us vs=some b→(∃dd,P.underlying t=some dd)∧(fb P t=false→(∃l,us=[l])∧∃l,vs=[l])∧∀x y,ny P t us x→ny P t vs y→(Op.equalIn d t x y).run P w=.ok b w)
  (h:I1 P rec xs ys fs=some b):(Op.eqFields d (xs.map Lf.enc).toArray (ys.map Lf.enc).toArray fs).run P w=.ok b w:=by
 induction fs generalizing b with
 |nil=>simp[I1]at h;subst h;simp[Op.eqFields]
 |cons f r ih=>
  unfold I1 at h;split at h
  ·rename_i hn;have hn' : f.name = "_" := by simpa using hn
   simp only[Op.eqFields,hn',ne_eq,not_true,iX];exact ih h
  ·rename_i hn;have hn' : ¬ f.name = "_" := by simpa using hn
   simp only[Op.eqFields,ne_eq,hn',vf,gU,cj];have step:∀a,rec f.type (ym xs f.offset (P.cellsOf f.type)) (ym ys f.offset (P.cellsOf f.type))=some a→
     ∃u v,(part f.type (xs.map Lf.enc).toArray f.offset).run P w=.ok u w∧(part f.type (ys.map Lf.enc).toArray f.offset).run P w=.ok v w∧(Op.equalIn d f.type u v).run P w=.ok a w:=by
    intro a ha;obtain⟨⟨dd,hd⟩,hs,he⟩:=hrec _ _ _ _ ha;obtain⟨u,hu,iu⟩:=u_ hd xs f.offset _ rfl (λz=>(hs z).1) w;obtain⟨v,hv,iv⟩:=u_ hd ys f.offset _ rfl (λz=>(hs z).2) w;exact⟨u,v,hu,hv,he u v iu iv⟩
   split at h
   ·rename_i a ha;cases h;obtain⟨u,v,hu,hv,he⟩:=step _ ha;simp only[hu,hv,he,dp,qC];cases b<;>simp[Op.eqFields]
   ·rename_i a g r' ha;obtain⟨u,v,hu,hv,he⟩:=step _ ha;split at h
    ·rename_i b' hb';cases h;simp only[hu,hv,he,dp,qC,ih hb'];cases a<;>simp
    ·cases h
   ·cases h
theorem Av{d:Nat}{t:TypeId}{xs ys:List Lf}{rec:List Lf→List Lf→Option Bool}{dd:TypeDesc}(ht:P.underlying t=some dd)(w:World)
  (hrec:∀us vs b,rec us vs=some b→(fb P t=false→(∃l,us=[l])∧∃l,vs=[l])∧∀x y,ny P t us x→ny P t vs y→(Op.equalIn d t x y).run P w=.ok b w):
  ∀(m i:Nat) (b:Bool),I0 rec (P.cellsOf t) xs ys m i=some b→
   (forIn (List.range' i m) ((none,()):Option Bool×Unit) (λi _=>do
    let a←part t (xs.map Lf.enc).toArray (i*P.cellsOf t)
    let c←part t (ys.map Lf.enc).toArray (i*P.cellsOf t)
    let r←Op.equalIn d t a c
    if(!r)=true then pure (ForInStep.done (some false,()))else pure (ForInStep.yield (none,())))).run P w
    =.ok (if b then(none,())else(some false,())) w:=by
 intro m
 induction m with
 |zero=>intro i b h;simp[I0]at h;subst h;simp
 |succ m ih=>
  intro i b h;unfold I0 at h;simp only[List.range'_succ,List.forIn_cons,cj];have step:∀a,rec (ym xs (i*P.cellsOf t) (P.cellsOf t)) (ym ys (i*P.cellsOf t) (P.cellsOf t))=some a→
    ∃u v,(part t (xs.map Lf.enc).toArray (i*P.cellsOf t)).run P w=.ok u w∧(part t (ys.map Lf.enc).toArray (i*P.cellsOf t)).run P w=.ok v w∧(Op.equalIn d t u v).run P w=.ok a w:=by
   intro a ha;obtain⟨hs,he⟩:=hrec _ _ _ ha;obtain⟨u,hu,iu⟩:=u_ ht xs (i*P.cellsOf t) _ rfl (λz=>(hs z).1) w;obtain⟨v,hv,iv⟩:=u_ ht ys (i*P.cellsOf t) _ rfl (λz=>(hs z).2) w;exact⟨u,v,hu,hv,he u v iu iv⟩
  split at h
  ·rename_i a ha;cases h;obtain⟨u,v,hu,hv,he⟩:=step _ ha;simp only[hu,hv,he,dp];cases b<;>simp
  ·rename_i a k ha;obtain⟨u,v,hu,hv,he⟩:=step _ ha;split at h
   ·rename_i b' hb';cases h;have h3:=ih (i+1) b' hb';simp only[hu,hv,he,dp];cases a with
    |false=>simp
    |true=>simpa using h3
   ·cases h
  ·cases h
theorem TL:∀(d D:Nat) (t:TypeId) (xs ys:List Lf) (b:Bool) (w:World),d≤D→UJ P d t xs ys=some b→
  (∃dd,P.underlying t=some dd)∧(fb P t=false→(∃l,xs=[l])∧∃l,ys=[l])∧∀x y,ny P t xs x→ny P t ys y→(Op.equalIn D t x y).run P w=.ok b w:=by
 intro d
 induction d with
 |zero=>intro D t xs ys b w _ h;simp[UJ]at h
 |succ d ih=>
  intro D t xs ys b w hD h;obtain⟨D,rfl⟩:∃n,D=n+1:=⟨D-1,by omega⟩;simp only[UJ]at h;split at h
  ·rename_i hu;have hg:fb P t=false:=by simp[fb,hu]
   split at h
   ·rename_i p q;cases h;refine⟨⟨_,hu⟩,λ_=>⟨⟨_,rfl⟩,_,rfl⟩,λx y hx hy=>?_⟩;simp only[ny,hg,iW,iX]at hx hy;obtain⟨l,h1,rfl⟩:=hx;obtain⟨m,h2,rfl⟩:=hy;cases h1;cases h2;exact run_equalIn_bool' w D t _ _ hu
   ·cases h
  ·rename_i k hu;have hg:fb P t=false:=by simp[fb,hu]
   split at h
   ·rename_i k1 p k2 q;split at h
    ·rename_i hk;cases h;refine⟨⟨_,hu⟩,λ_=>⟨⟨_,rfl⟩,_,rfl⟩,λx y hx hy=>?_⟩;simp only[ny,hg,iW,iX]at hx hy;obtain⟨l,h1,rfl⟩:=hx;obtain⟨m,h2,rfl⟩:=hy;cases h1;cases h2;rw[←tU hk];exact run_equalIn_int w D t k1 k p q hu
    ·cases h
   ·cases h
  ·rename_i hu;have hg:fb P t=false:=by simp[fb,hu]
   split at h
   ·rename_i p q;cases h;refine⟨⟨_,hu⟩,λ_=>⟨⟨_,rfl⟩,_,rfl⟩,λx y hx hy=>?_⟩;simp only[ny,hg,iW,iX]at hx hy;obtain⟨l,h1,rfl⟩:=hx;obtain⟨m,h2,rfl⟩:=hy;cases h1;cases h2;exact run_equalIn_string w D t _ _ hu
   ·cases h
  ·rename_i fs hu;have hg:fb P t=true:=by simp[fb,hu]
   split at h
   ·cases h
   ·rename_i hst;refine⟨⟨_,hu⟩,λz=>(by rw[hg]at z;cases z),λx y hx hy=>?_⟩;simp only[ny,hg,gU]at hx hy;subst hx;subst hy;have hf:P.fieldsOf t=fs:=by simp[Program.fieldsOf,hu]
    rw[run_equalIn_struct w D t _ _ (by rw[hf];exact hu) hst,hf];exact BS w (λt us vs b hh=>ih D t us vs b w (by omega) hh) h
  ·rename_i n e hu;have hg:fb P t=true:=by simp[fb,hu]
   refine⟨⟨_,hu⟩,λz=>(by rw[hg]at z;cases z),λx y hx hy=>?_⟩;simp only[ny,hg,gU]at hx hy;subst hx;subst hy;simp only[Op.equalIn,cj,eZ hu,dp];cases n with
   |zero=>cases h
   |succ n=>
    have hrec:=λus vs b hh=>ih D e us vs b w (by omega) hh;have hue:∃dd,P.underlying e=some dd:=by
     dsimp only at h;unfold I0 at h;split at h<;>rename_i hh
     ·exact(hrec _ _ _ hh).1
     ·exact(hrec _ _ _ hh).1
     ·cases h
    obtain⟨dd,hdd⟩:=hue;simp only[jL hdd,dp];rw[Std.Legacy.Range.forIn_eq_forIn_range'];have:=Av (xs:=xs) (ys:=ys) hdd w (λus vs b hh=>(hrec us vs b hh).2) (n+1) 0 b h;simp only[Std.Legacy.Range.size];simp only[Nat.sub_zero,Nat.div_one,Nat.add_one_sub_one]at*;rw[this];cases b<;>simp
  ·cases h
theorem fq(op:BinOp)(t:TypeId)(x y:Operand)(a b:Lf)(w:World)(hn:a≠ .QF:=by simp):(eqGuard op t x y a.enc b.enc).run P w=.ok () w:=by
  have hs:∀s:Sl,∃x n c,s.enc=.slice x n c:=λs=>by obtain⟨x,c,hx,_⟩:=s.ly;exact⟨x,_,c,hx⟩
  have hf:∀f:Fv,f.enc=.nilFunc∨∃x y z,f.enc=.func x y z:=λf=>by cases f<;>simp[Fv.enc]
  have hl:∀l:Lf,l≠ .QF→(∃k n,l.enc=.int k n)∨(∃b,l.enc=.bool b)∨(∃p,l.enc=.pointer p)∨(∃x n c,l.enc=.slice x n c)∨(∃s,l.enc=.string s)∨l.enc=.nilFunc∨(∃x y z,l.enc=.func x y z)∨∃r,l.enc=.map (some r):=λl hn=>by
    cases l with
    |sl s=>obtain⟨x,n,c,h⟩:=hs s;exact .inr (.inr (.inr (.inl ⟨x,n,c,h⟩)))
    |fn f=>
      rcases hf f with h|h
      · exact .inr (.inr (.inr (.inr (.inr (.inl h)))))
      · exact .inr (.inr (.inr (.inr (.inr (.inr (.inl h))))))
    |QF=>exact absurd rfl hn
    |_=>simp[Lf.enc]
  rcases hl a hn with⟨k,n,h⟩|⟨k,h⟩|⟨k,h⟩|⟨k,n,c,h⟩|⟨k,h⟩|h|⟨k,n,c,h⟩|⟨k,h⟩<;>rw[h]<;>by_cases hb:b=.QF;all_goals first
    |(subst hb;cases op<;>simp[eqGuard])
    |(rcases hl b hb with⟨k,n,h⟩|⟨k,h⟩|⟨k,h⟩|⟨k,n,c,h⟩|⟨k,h⟩|h|⟨k,n,c,h⟩|⟨k,h⟩<;>rw[h]<;>cases op<;>simp[eqGuard])
theorem Pv{op:BinOp}{eq:Bool}(h:isEq op=some eq):op=if eq then .eql else .neq:=by
 cases op<;>simp[isEq]at h<;>subst h<;>rfl
theorem N9{op:BinOp}{k:IntKind}{a b:Int}{v:TV}(h:Rt op k a b=some v)(t:TypeId)(w:World):(binOp op t (.int k a) (.int k b)).run P w=.ok v.enc w:=by
 cases op<;>simp only[Rt,ru,ot,qA,reduceCtorEq]at h<;>subst h<;>
  simp[binOp,Op.intArith,Op.intBits,Op.intCmp,TV.enc,V1.enc,Lf.enc]
theorem Bu{eq b:Bool}{v:TV}(h:xb eq b=some v):v.enc=.bool (if eq then b else !b):=by
 cases eq<;>simp only[xb,ot,qA]at h<;>subst h<;>rfl
theorem DI(d:Nat){t u:TypeId}(hu:P.underlying t=some (.pointer u))(p:Option Pt)(w:World):(Op.equalIn (d+1) t (.pointer (p.map Pt.addr)) (.pointer none)).run P w=.ok p.isNone w:=by
 cases p<;>simp[Op.equalIn,eZ hu]
theorem FC(d:Nat){t u:TypeId}(hu:P.underlying t=some (.slice u))(s:Sl)(l c:Nat)(w:World):(Op.equalIn (d+1) t s.enc (.slice none l c)).run P w=.ok s.isNil w:=by
 obtain⟨a,m,h,_,_,hn⟩:=s.ly;rw[h];cases a with
 |none=>rw[hn.1 rfl];simp[Op.equalIn,eZ hu]
 |some a=>
  have:s.isNil=false:=by
   cases hh:s.isNil with
   |false=>rfl
   |true=>have:=hn.2 hh;cases this
  rw[this];simp[Op.equalIn,eZ hu]
theorem FB(d:Nat){t:TypeId}{a b:Array TypeId}{c:Bool}(hu:P.underlying t=some (.func a b c))(f:Fv)(w:World):(Op.equalIn (d+1) t f.enc .nilFunc).run P w=.ok (FM f) w:=by
 cases f<;>simp[Fv.enc,FM,Op.equalIn,eZ hu]
theorem TM{eq:Bool}{t:TypeId}{x y:V1}{v:TV}(h:X1 P eq t x y=some v)(x0 y0:Operand)(w:World):
  ((do eqGuard (if eq then .eql else .neq) t x0 y0 x.enc y.enc;binOp (if eq then .eql else .neq) t x.enc y.enc:Sem Value)).run P w=.ok v.enc w:=by
 unfold X1 at h;split at h
 · -- bool
  rename_i a b;split at h
  ·rename_i hu;rw[Bu h];simp only[cj,V1.enc,fq,ne_eq,reduceCtorEq,vf,dp];have:=run_equalIn_bool' (P:=P) w 9999 t a b hu;cases eq<;>simp[binOp,Lf.enc,Op.equal,Op.maxDepth,this]
  ·cases h
 · -- string
  rename_i a b;rw[Bu h];simp only[cj,V1.enc,fq,ne_eq,reduceCtorEq,vf,dp];cases eq<;>simp[binOp,Lf.enc,Op.stringOp]
 · -- pointer
  rename_i p;split at h
  ·rename_i hu;rw[Bu h];simp only[cj,V1.enc,fq,ne_eq,reduceCtorEq,vf,dp];have:=DI 9999 hu p w;cases eq<;>simp[binOp,Lf.enc,Op.equal,Op.maxDepth,this]
  ·cases h
 · -- slice
  rename_i s;split at h
  ·rename_i hu;rw[Bu h];simp only[cj,V1.enc,fq,ne_eq,reduceCtorEq,vf,dp];have:=FC 9999 hu s 0 0 w;obtain⟨x,c,hx,_⟩:=s.ly;have hz:(Lf.sl ⟨none,0,0⟩).enc=.slice none 0 0:=rfl;have hy:(Lf.sl s).enc=.slice x s.len c:=hx;rw[hx]at this;rw[hz,hy];cases eq<;>simp[binOp,Op.equal,Op.maxDepth,this]
  ·cases h
 · -- function
  rename_i f;split at h
  ·rename_i hu;rw[Bu h];simp only[cj,V1.enc,fq,ne_eq,reduceCtorEq,vf,dp];have:=FB 9999 hu f w;cases f<;>simp only[Fv.enc]at this<;>cases eq<;>simp[binOp,Lf.enc,Fv.enc,Op.equal,Op.maxDepth,this]
  ·cases h
 · -- aggregates
  rename_i xs ys;split at h
  ·rename_i hg;simp only[fG,mX]at hg;obtain⟨hagg,hguard⟩:=hg;split at h
   ·rename_i b hb;rw[Bu h];obtain⟨_,_,he⟩:=TL 8 10000 t xs ys b w (by omega) hb;have he:=he (.agg (xs.map Lf.enc).toArray) (.agg (ys.map Lf.enc).toArray) (by simp[ny,hagg]) (by simp[ny,hagg]);simp only[cj,V1.enc,run_eqGuard_agg w _ t _ _ _ _ hguard,dp];cases eq
    ·simp only[iW,iX,run_neq_struct,he,dp]
    ·simp only[gU,run_eql_struct,he,dp]
   ·cases h
  ·cases h
 ·cases h
theorem N_{op:BinOp}{t:TypeId}{x y:V1}{v:TV}(h:Ru P op t x y=some v)(x0 y0:Operand)(w:World):
  ((do eqGuard op t x0 y0 x.enc y.enc;binOp op t x.enc y.enc:Sem Value)).run P w=.ok v.enc w:=by
 unfold Ru at h;split at h
 ·rename_i k a k' b;split at h
  ·rename_i hk;have:=tU hk;subst this;simp only[cj,V1.enc,fq,ne_eq,reduceCtorEq,vf,dp];exact N9 h t w
  ·cases h
 ·split at h
  ·rename_i eq heq;rw[Pv heq];exact TM h x0 y0 w
  ·cases h
end Go.X

namespace Go.X
variable {P:Program}
theorem zW(L:List Lf)(off:Nat)(l:Lf)(r:List Lf)(h:off+(l::r).length≤L.length):eK (L.set off l) (off+1) r=eK L off (l::r):=by
 unfold eK;simp only[kS]at h⊢;rw[List.set_eq_take_append_cons_drop,aC (by omega)];have h1:(List.take off L++l::List.drop (off+1) L).take (off+1)=List.take off L++[l]:=by
  rw[List.take_append];simp only[fM];rw[show min off L.length=off by omega,show off+1-off=1 by omega,kp (by simp;omega)];simp
 have h2:(List.take off L++l::List.drop (off+1) L).drop (off+1+r.length)=L.drop (off+(r.length+1)):=by
  rw[zf];simp only[fM];rw[show min off L.length=off by omega,Bg (by simp;omega),show off+1+r.length-off=r.length+1 by omega];simp;rw[show off+1+r.length=off+(r.length+1) by omega]
 rw[h1,h2];simp
theorem Hw(off:Nat):∀(r:List Lf) (k:Nat) (L:List Lf),off+k+r.length≤L.length→
  ((r.map Lf.enc).zipIdx k).foldl (λ(cs:Array Value) (x:Value×Nat)=>cs.setIfInBounds (off+x.2) x.1) (L.map Lf.enc).toArray=((eK L (off+k) r).map Lf.enc).toArray
 |[],k,L,h=>by simp[eK]
 |l::r,k,L,h=>by
  simp only[kq,List.zipIdx_cons,Cq];have:(List.map Lf.enc L).toArray.setIfInBounds (off+k) l.enc=(List.map Lf.enc (L.set (off+k) l)).toArray:=by
   simp[List.map_set]
  rw[this,Hw off r (k+1) _ (by simp at h⊢;omega),show off+(k+1)=off+k+1 by omega,zW _ _ _ _ (by simpa using h)]
theorem BU{place:Nat→Option (Nat×Nat)}:∀{vs:List (Nat×V1)} {ls ls':List Lf},yq place ls vs=some ls'→
  Instr.fill place (ls.map Lf.enc).toArray (vs.map λx=>(x.1,x.2.enc))=some (ls'.map Lf.enc).toArray
 |[],ls,ls',h=>by simp[yq]at h;subst h;rfl
 |(i,v)::r,ls,ls',h=>by
  simp only[yq]at h;split at h
  ·cases h
  ·rename_i off size hp;split at h
   ·rename_i hb;simp only[fG,wz,zn]at hb;simp only[kq,Instr.fill,hp,V1.cells];rw[ay (by simp[hb.1];omega)];have:=Hw off v.I8 0 ls (by omega);simp only[vk]at this;rw[←BU h,←this];simp
   ·cases h
theorem yB{t:TypeId}(h:(P.info? t).isSome=true)(w:World):(sizeOf t).run P w=.ok (P.cellsOf t) w:=by
 unfold sizeOf typeInfo Program.cellsOf;cases hi:P.info? t with
 |none=>simp[hi]at h
 |some i=>simp[hi]
theorem mG{t:TypeId}{ls:List Lf}(h:lG P t=some ls)(w:World):∃v:Value,(zeroValue t).run P w=.ok v w∧v.cells=(ls.map Lf.enc).toArray:=by
 unfold lG at h;split at h
 ·rename_i i hi;split at h
  ·rename_i z hz;split at h
   ·rename_i v hv;cases h;refine⟨z,by simp[zeroValue,typeInfo,hi,hz],?_⟩;rw[←vT hv,V1.cells]
   ·cases h
  ·cases h
 ·cases h
theorem yY(w:World):∀(fs:List Field),(fs.all λf=>(P.info? f.type).isSome)=true→
  (fs.mapM (m:=Sem) λf=>do pure (f.offset,←sizeOf f.type)).run P w=.ok (fs.map λf=>(f.offset,P.cellsOf f.type)) w
 |[],_=>by simp
 |f::fs,h=>by
  simp only[List.all_cons,fG]at h;simp only[Cu,cj,yB h.1,dp,dQ,yY w fs h.2,kq]
theorem Kk{t:TypeId}{z ls:List Lf}{vs:List (Nat×V1)}(hz:lG P t=some z)(hi:FK P t=true)(hf:yq (placeOf P t) z vs=some ls)(w:World):
  (Instr.build t (vs.map λx=>(x.1,x.2.enc)).toArray).run P w=.ok (.agg (ls.map Lf.enc).toArray) w:=by
 obtain⟨v,hv,hc⟩:=mG hz w;unfold Instr.build;simp only[cj,hv,dp];unfold FK at hi;unfold placeOf at hf;have hfill:=BU hf;split at hi
 ·rename_i fs hu;obtain⟨fl,rfl⟩:∃fl:List Field,fs=fl.toArray:=⟨fs.toList,by simp⟩;simp only[hu]at hfill;simp only[eZ hu,dp,cj,List.mapM_toArray,Sem.run_map,yY w _ hi,hc];have e:(λi:Nat=>((List.map (λf:Field=>(f.offset,P.cellsOf f.type)) fl).toArray)[i]?)=yU P fl.toArray:=by
   funext i
   simp only[yU,Bh,oD];cases fl[i]?<;>rfl
  rw[e,hfill];simp
 ·rename_i n el hu;simp only[hu]at hfill;simp only[eZ hu,dp,cj,yB hi,hc];simp[hfill]
 ·cases hi
theorem AM{t:TypeId}{i:Nat}{f:Field}(h:uI P t i=some f):∃fs,P.underlying t=some (.struct fs)∧fs[i]?=some f:=by
 unfold uI at h;split at h
 ·rename_i fs hu;exact⟨fs,hu,h⟩
 ·cases h
theorem jv{t:TypeId}(h:P.cellsOf t≠0)(w:World):(sizeOf t).run P w=.ok (P.cellsOf t) w:=by
 refine yB ?_ w;unfold Program.cellsOf at h;cases hi:P.info? t with
 |none=>simp[hi]at h
 |some i=>rfl
theorem su{mx:Bool}{k:IntKind}:∀{vs:List V1} {a:Int} {v:TV} (_:lY mx k a vs=some v) (w:World),
  (List.foldlM (m:=Sem) (if mx then Builtin.max2 else Builtin.min2) (.int k a) (vs.map V1.enc)).run P w=.ok v.enc w
 |[],a,v,h,w=>by simp only[lY,ru,qA]at h;subst h;simp[TV.enc,V1.enc,Lf.enc]
 |.lf (.int k' b)::r,a,v,h,w=>by
  simp only[lY]at h;split at h
  ·rename_i hk;have:=tU hk;subst this;cases mx
   ·simp only[iW,iX,kq,List.foldlM_cons,V1.enc,Lf.enc,Builtin.min2,cj,dQ,dp];exact su (mx:=false) h w
   ·simp only[gU,kq,List.foldlM_cons,V1.enc,Lf.enc,Builtin.max2,cj,dQ,dp];exact su (mx:=true) h w
  ·cases h
 |.lf (.bool _)::_,_,_,h,_=>by simp[lY]at h
 |.lf (.ptr _)::_,_,_,h,_=>by simp[lY]at h
 |.lf (.sl _)::_,_,_,h,_=>by simp[lY]at h
 |.lf (.str _)::_,_,_,h,_=>by simp[lY]at h
 |.lf (.fn _)::_,_,_,h,_=>by simp[lY]at h
 |.agg _::_,_,_,h,_=>by simp[lY]at h
theorem Fe{b:Builtin}{vs:List V1}{ts:Array TypeId}{v:TV}(h:ye b vs=some v)(hb:se P b ts vs=true)(t:TypeId)(cs:Array Bool)(w:World):
  (builtin b ts t cs (vs.map V1.enc).toArray).run P w=.ok (.value v.enc) w:=by
 unfold ye at h;split at h
 ·rename_i x;split at h
  ·rename_i n hn;simp only[ru,qA]at h;subst h;simp only[se]at hb;split at hb
   ·rename_i t0 s ht0 hx;cases hx;cases hn;split at hb
    ·rename_i u hu;obtain⟨x,c,hx,_⟩:=s.ly;simp[builtin,Builtin.len_,ht0,V1.enc,Lf.enc,hx,eZ hu,TV.enc,goInt]
    ·cases hb
   ·rename_i t0 s ht0 hx;cases hx;cases hn;split at hb
    ·rename_i hu;simp[builtin,Builtin.len_,ht0,V1.enc,Lf.enc,eZ hu,TV.enc,goInt]
    ·cases hb
   ·cases hb
  ·cases h
 ·rename_i s;simp only[ru,qA]at h;subst h;simp only[se]at hb;split at hb
  ·rename_i t0 s ht0 hx;cases hx;split at hb
   ·rename_i u hu;obtain⟨x,c,hx,_,hcp,_⟩:=s.ly;simp[builtin,Builtin.cap_,ht0,V1.enc,Lf.enc,hx,hcp,eZ hu,TV.enc,goInt]
   ·cases hb
  ·rename_i hx;cases hx
  ·cases hb
 ·rename_i k a r;simp only[builtin,Builtin.max_,kq,V1.enc,Lf.enc];have:=su (P:=P) h w;simp only[gU]at this;simp[this]
 ·rename_i k a r;simp only[builtin,Builtin.min_,kq,V1.enc,Lf.enc];have:=su (P:=P) h w;simp only[iW,iX]at this;simp[this]
 ·cases h
section
variable {e:Env} {a:Act} {c:E1}
theorem kD{α β:Type}(xs:Array α)(f:α→β):xs.map f=(xs.toList.map f).toArray:=by
 exact(Array.toArray_toList (xs:=xs.map f)).symm.trans (jF List.toArray Array.toList_map)
theorem Up{op:UnOp}{x:V1}{v:TV}(h:Yh op x=some v)(w:World):(Op.unary op x.enc).run P w=.ok v.enc w:=by
 unfold Yh at h;split at h
 ·cases op<;>simp only[ot,qA,reduceCtorEq]at h;subst h;simp[V1.enc,Lf.enc,Op.unary,TV.enc]
 ·cases op<;>simp only[ru,qA,reduceCtorEq]at h;subst h;simp[V1.enc,Lf.enc,Op.unary,Op.intArith,TV.enc]
 ·cases h
theorem FF{t:TypeId}{i:Nat}{f:Field}(hf:uI P t i=some f)(hz:P.cellsOf f.type≠0)(p:Pt)(w:World):
  (Instr.fieldAt t (.pointer (some p.addr)) i).run P w=.ok (.pointer (some ⟨p.b,p.o+f.offset,none⟩)) w:=by
 obtain⟨fs,hu,hi⟩:=AM hf;unfold Instr.fieldAt;simp only[cj,eZ hu,dp,hi];simp only[Instr.sureAddr,cj,dQ,dp,fieldPlace,jv hz,qC,ay hz,Addr.add];split
 ·rename_i h0;simp[h0]
 ·rfl
theorem tV{t:TypeId}{ls:List Lf}{off:Nat}{v:V1}(h:u9 P t ls off=some v){d:TypeDesc}(hd:P.underlying t=some d)(w:World):
  (part t (ls.map Lf.enc).toArray off).run P w=.ok v.enc w:=by
 unfold u9 at h;unfold part;simp only[cj,sv P t hd,dp,qC];split at h
 ·rename_i hg;cases h;simp only[hg,gU,jL hd,dp,dQ];simp[V1.enc,List.map_take,List.map_drop]
 ·rename_i hg;simp only[hg,iW,iX];split at h
  ·rename_i l hl;cases h;simp[hl,V1.enc]
  ·cases h
theorem K2(hA:lU e a)(hc:eW c a){cn:Operand}{b:Bool}(h:nJ e c cn=some (.one (.lf (.bool b)))):eW (match HC cn with|true=>(CN cn,b)::c|false=>c) a:=by
 cases cn with
 |tmp t=>
  simp only[HC,CN];refine tT hc ?_;have:=bu hA hc h;simp only[Act.eval,TV.enc,V1.enc,Lf.enc]at this;have h2:a.tmps.getD t undef=.bool b:=this;rw[En]at h2;cases hh:a.tmps[t]? with
  |none=>rw[hh]at h2;simp[undef]at h2
  |some z=>rw[hh]at h2;simp at h2;rw[h2]
 |const v=>exact hc
 |global g=>exact hc
 |func f=>exact hc
theorem y8(hA:lU e a)(hc:eW c a){o:Oper}{v:TV}(h:w_ P e c o=some v)(w:World):(execOp a.eval o).run P w=.ok (.value v.enc) w:=by
 unfold w_ at h;split at h
 ·rename_i x ho;simp only[execOp,ho,dQ];rw[bu hA hc h]
 ·rename_i x ho;simp only[execOp,ho,dQ];rw[bu hA hc h]
 · -- pick
  rename_i cn x y ho;simp only[execOp,ho];split at h
  ·rename_i b hb;rw[bu hA hc hb];simp only[TV.enc,V1.enc,Lf.enc,asBool,cj,dQ,dp];have hctx:=K2 hA hc hb;split at h
   ·rename_i p q hp hq;simp only[ot,qA]at h;subst h;cases b with
    |true=>simp only[gU];rw[bu hA hctx hp];rfl
    |false=>simp only[iW,iX];rw[bu hA hctx hq];rfl
   ·cases b with
    |true=>simp only[gU];rw[bu hA hctx h];rfl
    |false=>simp only[iW,iX];rw[bu hA hctx h];rfl
  ·cases h
 · -- build
  rename_i t ps ho;simp only[execOp,ho];split at h
  ·rename_i z vs hz hv;split at h
   ·rename_i hi;split at h
    ·rename_i ls hl;cases h;have e1:=tP hA hc hv;have e2:ps.map (λx:Nat×Operand=>(x.1,a.eval x.2))=(vs.map λx=>(x.1,x.2.enc)).toArray:=by
      rw[←e1];exact kD _ _
     have:=Kk hz hi hl w;rw[←e2]at this;rw[cj,this]
     rfl
    ·cases h
   ·cases h
  ·cases h
 · -- binOp
  rename_i op t x y u ho;simp only[execOp,ho];split at h
  ·rename_i p q hp hq;rw[bu hA hc hp,bu hA hc hq];have:=N_ (P:=P) h x y w;simp only[TV.enc]at this⊢;rw[cj,this]
   rfl
  ·cases h
 · -- unOp
  rename_i op t x ho;simp only[execOp,ho];split at h
  ·rename_i p hp;rw[bu hA hc hp];simp only[TV.enc];rw[cj,Up h]
   rfl
  ·cases h
 · -- convert
  rename_i src dst x ho;simp only[execOp,ho];split at h
  ·rename_i k n hp;rw[bu hA hc hp];split at h
   ·rename_i k1 k2 hs hd;simp only[ru,qA]at h;subst h;simp[TV.enc,V1.enc,Lf.enc,convert,eZ hs,eZ hd,Conv.intToInt]
   ·cases h
  ·cases h
 · -- makeFunc
  rename_i fn first cap ho
  simp only[execOp,ho];split at h
  ·rename_i p q hp hq;cases h;have e1:first.map a.eval=(p.map V1.enc).toArray:=by rw[←pQ hA hc hp];exact kD _ _
   have e2:cap.map a.eval=(q.map V1.enc).toArray:=(by rw[←pQ hA hc hq];exact kD _ _);simp[Instr.makeFunc,e1,e2,TV.enc,V1.enc,Lf.enc,Fv.enc]
  ·cases h
 · -- fieldAddr
  rename_i t x i ho;simp only[execOp,ho];split at h
  ·rename_i p f hp hf;rw[bu hA hc hp];split at h
   ·cases h
   ·rename_i hz;cases h;have hz':P.cellsOf f.type≠0:=λz=>by rw[z]at hz;cases hz
    simp only[TV.enc,V1.enc,Lf.enc,tw];rw[cj,FF hf hz' p w]
    rfl
  ·cases h
 · -- field
  rename_i t x i ho;simp only[execOp,ho];split at h
  ·rename_i ls f hp hf;rw[bu hA hc hp];split at h
   ·rename_i hle;obtain⟨fs,hu,hi⟩:=AM hf;unfold JN at h;split at h
    ·rename_i u hv;cases h;obtain⟨d,hd⟩:=qx.1 hle;simp only[TV.enc];rw[cj,V1.enc,Instr.field];simp only[cj,eZ hu,dp,hi,asAgg,dQ,tV hv hd]
    ·cases h
   ·cases h
  ·cases h
 · -- index
  rename_i t x k n ho;simp only[execOp,ho];split at h
  ·rename_i ls len el hp hu;rw[bu hA hc hp];split at h
   ·rename_i hd hel;have hd:=bJ hd;unfold JN at h;split at h
    ·rename_i u hv;cases h;obtain⟨d,hdd⟩:=qx.1 hel;simp only[TV.enc];rw[cj,V1.enc,Instr.index];simp only[Act.eval,asIntOf,cj,dQ,dp,eZ hu];simp[hd,jL hdd,tV hv hdd]
    ·cases h
   ·cases h
  ·cases h
 · -- extract
  rename_i x i ho;simp only[execOp,ho];split at h
  ·rename_i vs hp;rw[bu hA hc hp];unfold JN at h;split at h
   ·rename_i u hv;cases h;simp[TV.enc,Instr.extract,hv]
   ·cases h
  ·cases h
 · -- builtins
  rename_i cl ho;simp only[execOp,ho];split at h
  ·rename_i b hb;split at h
   ·rename_i vs hvs;split at h
    ·rename_i hok;have e1:cl.args.map a.eval=(vs.map V1.enc).toArray:=by rw[←pQ hA hc hvs];exact kD _ _
     simp only[resolve,hb,e1,cj,dQ,dp,invoke];exact Fe h hok _ _ w
    ·cases h
   ·cases h
  ·cases h
 ·cases h
end
end Go.X

namespace Go.X
variable {P:Program}
abbrev Fr(r:Option Nat):Fence:={Fence.wide with round:=r}
theorem yi{r:Option Nat}{n:Nat}{f:FuncId}{args:Array Value}{w:World}{R:Ending→World→Prop}(h:CallsIn Fence.wide n P f args w R):CallsIn (Fr r) n P f args w R:=h
theorem GN{r:Option Nat}{n l:Nat}{f:FuncId}{tmps:Array Value}{as body:Code}{w:World}{R:Ending→World→Prop}(h:RoundIn Fence.wide n P l f tmps as body w R):RoundIn (Fr r) n P l f tmps as body w R:=h
theorem yo{r:Option Nat}{p:Prop}:(Fr r).depth.isSome=true→p:=λh=>by cases h
theorem nn{w:World}{b:Nat}:∀(ls:List Lf) (L:List Lf) (o k:Nat) (_:AC w b L) (_:o+k+ls.length≤L.length),
  ∃w',(storeCells ⟨b,o,none⟩ (ls.map Lf.enc) k).run P w=.ok () w'∧jO (Dn b) w w'∧AC w' b (eK L (o+k) ls)∧w'.heap.size=w.heap.size:=by
 intro ls
 induction ls generalizing w with
 |nil=>intro L o k hb hl;exact⟨w,rfl,jO.refl _ _,by simpa [eK]using hb,rfl⟩
 |cons l ls ih=>
  intro L o k hb hl;simp only[kS]at hl;have hcell:=wV hb (o+k);have hfr:=Ao hb (o+k);have hlk:o+k<L.length:=by omega
  have hsome:w.cell? ⟨b,o+k,none⟩=some (L[o+k]).enc:=by rw[hcell,jG hlk];rfl
  have hone:l.enc.oneCell'=true:=by
   cases l with
   |sl s=>obtain⟨x,c,hx,_⟩:=s.ly;simp[Lf.enc,hx,Value.oneCell']
   |fn f=>cases f<;>simp[Lf.enc,Fv.enc,Value.oneCell']
   |_=>simp[Lf.enc,Value.oneCell']
  have hadd:(⟨b,o,none⟩:Addr).add k=⟨b,o+k,none⟩:=by
   unfold Addr.add;split
   ·rename_i h0;subst h0;simp
   ·rfl
  have hrun:(store (⟨b,o+k,none⟩:Addr) l.enc).run P w=.ok () (w.setCell ⟨b,o+k,none⟩ l.enc):=by
   rw[run_store P w _ _ _ hone,hsome];simp[hfr]
  have hblk:AC (w.setCell ⟨b,o+k,none⟩ l.enc) b (L.set (o+k) l):=by
   obtain⟨T,hT⟩:=hb;refine⟨T,?_⟩;simp[World.setCell,Array.getElem?_modify,hT,List.map_set]
  have hext:jO (Dn b) w (w.setCell ⟨b,o+k,none⟩ l.enc):=by
   refine⟨rfl,rfl,rfl,by simp[World.setCell],λi hi hn=>MG _ _ _ _ hn,λi hi=>?_⟩;by_cases hib:i=b
   ·subst hib;obtain⟨T,hT⟩:=hb;rw[hT]at hi;cases hi
   ·rw[MG _ _ _ _ hib];exact hi
  have hsz:(w.setCell ⟨b,o+k,none⟩ l.enc).heap.size=w.heap.size:=by simp[World.setCell]
  obtain⟨w',h1,h2,h3,h4⟩:=ih (L.set (o+k) l) o (k+1) hblk (by simp;omega);refine⟨w',?_,hext.trans h2,?_,by rw[h4,hsz]⟩
  ·simp only[kq,storeCells,cj,hadd,hrun,dp];exact h1
  ·rw[show o+(k+1)=o+k+1 by omega,zW _ _ _ _ (by simp;omega)]at h3;exact h3
theorem jQ(w:World)(o:Obj):jO D5 w {w with heap:=w.heap.push o}:=
 ⟨rfl,rfl,rfl,by simp,λk hk _=>MK w o k hk,λk hk=>(MK w o k (qw.1 hk).1).trans hk⟩
theorem vO(w:World)(ls:List Lf)(T:TypeId):AC {w with heap:=w.heap.push (.cells (ls.map Lf.enc).toArray T)} w.heap.size ls:=⟨T,by simp⟩
theorem add_eq(b o k:Nat):(⟨b,o,none⟩:Addr).add k=⟨b,o+k,none⟩:=by
 unfold Addr.add;split
 ·rename_i h0;subst h0;simp
 ·rfl
theorem rQ{w:World}{b:Nat}:∀{ls:List Lf} {o:Nat},Reads w b o ls→∀j v,(ls.map Lf.enc)[j]?=some v→w.cell? ((⟨b,o,none⟩:Addr).add j)=some v
 |l::ls,o,h,0,v,hv=>by
  simp at hv;subst hv;rw[add_eq];exact h.1
 |l::ls,o,h,j+1,v,hv=>by
  have:=rQ h.2 j v (by simpa using hv);rw[add_eq]at*;rw[show o+(j+1)=o+1+j by omega];exact this
 |[],o,h,j,v,hv=>by simp at hv
theorem DX{w:World}{b o:Nat}{ls:List Lf}(h:Reads w b o ls):(loadCells ⟨b,o,none⟩ ls.length).run P w=.ok (ls.map Lf.enc).toArray w:=by
 have:=run_loadCells_list (P:=P) w ⟨b,o,none⟩ (ls.map Lf.enc) (λj v hj=>rQ h j v hj);simpa using this
theorem tY{t:TypeId}{d:TypeDesc}(hd:P.underlying t=some d)(hg:fb P t=false){w:World}{b o:Nat}{l:Lf}(h:Reads w b o [l]):
  (loadVar t ⟨b,o,none⟩).run P w=.ok l.enc w:=by
 unfold loadVar;simp only[cj,sv P t hd,dp,hg,iW,iX];simp[h.1]
theorem rA{t:TypeId}{d:TypeDesc}(hd:P.underlying t=some d)(hg:fb P t=true){w:World}{b o:Nat}{ls:List Lf}(hl:ls.length=P.cellsOf t)(h:Reads w b o ls):
  (loadVar t ⟨b,o,none⟩).run P w=.ok (.agg (ls.map Lf.enc).toArray) w:=by
 unfold loadVar;simp only[cj,sv P t hd,dp,hg,gU,jL hd,←hl,DX h,dQ]
theorem Ks.len:∀(cs:List CK) (x:Ks.T cs),(Ks.mk cs x).length=cs.length
 |[],_=>rfl
 |[_],_=>rfl
 |_::d::r,x=>by simp only[Ks.mk,kS];rw[Ks.len (d::r) x.2];rfl
theorem zX{t:TypeId}{c:CK}(h:Nn P t=some (.lf c)):fb P t=false∧∃d,P.underlying t=some d:=by
 unfold Nn at h;split at h
 ·split at h
  ·split at h<;>cases h
  ·cases h
 ·rename_i hg;refine⟨by simpa using hg,?_⟩;split at h
  ·rename_i c hc;unfold ow at hc;split at hc<;>first|exact⟨_,by assumption⟩|cases hc
  ·cases h
theorem vA{t:TypeId}{cs:List CK}(h:Nn P t=some (.agg cs)):fb P t=true∧(∃d,P.underlying t=some d)∧cs.length=P.cellsOf t:=by
 unfold Nn at h;split at h
 ·rename_i hg;split at h
  ·split at h
   ·cases h;refine⟨hg,?_,by assumption⟩;unfold fb at hg;split at hg<;>first|exact⟨_,by assumption⟩|cases hg
   ·cases h
  ·cases h
 ·split at h<;>cases h
section
variable {e:Env} {a:Act} {c:E1} {w:World} {r:Option Nat} {n0:Nat} {K':Act→World→Prop} {Q:Exit→Act→World→Prop}
def E3(P:Program)(r:Option Nat)(a:Act)(o:Oper)(w:World)(K:TV→WP):Prop:=
 ∀(K':Act→World→Prop) (Q:Exit→Act→World→Prop),(∀v w',lH w w'→K v w'→K' (a.put o.dst v.enc) w')→o.wpIn (Fr r) 0 P a w K' Q
theorem ct{o:Oper}{K:TV→WP}{v:TV}{w':World}(hnd:∀x,o.op≠.defer x)(h:(execOp a.eval o).run P w=.ok (.value v.enc) w')(hd:lH w w')(hk:K v w'):E3 P r a o w K:=by
 intro K' Q hK;refine⟨λf _=>trivial,?_⟩;rw[zk _ _ _ hnd,h];exact hK v w' hd hk
theorem AQ{o:Oper}{K:TV→WP}{w':World}(hnd:∀x,o.op≠.defer x)(h:(execOp a.eval o).run P w=.ok .skip w')(hd:lH w w')(hk:K CS w'):E3 P r a o w K:=by
 intro K' Q hK;refine⟨λf _=>trivial,?_⟩;rw[zk _ _ _ hnd,h];exact hK CS w' hd hk
theorem uD{f:FuncId}(h:JV P f=true)(args:Array Value)(w:World):(callFunc f args).run P w=.ok (.enter f args) w:=by
 unfold JV at h;unfold callFunc;simp only[cj,wv,dp];split at h
 ·rename_i fn hf;simp only[fG,bne_iff_ne,ne_eq]at h;have hb:fn.body.isNone=false:=by cases hh:fn.body<;>simp[hh]at h⊢
  simp[hf,h.1,hb]
 ·cases h
theorem AP{o:Oper}{K:TV→WP}{f:FuncId}{args:List Value}(hnd:∀x,o.op≠.defer x)(h:(execOp a.eval o).run P w=(callFunc f args.toArray).run P w)
  (hk:kh P f args w λv w'=>∃u:TV,v=u.enc∧lH w w'∧K u w'):E3 P r a o w K:=by
 rcases hk with hk|⟨v,w',hv,u,rfl,hd,hku⟩
 ·rw[uD hk.1]at h;intro K' Q hK;refine⟨λf _=>trivial,?_⟩;rw[zk _ _ _ hnd,h];refine⟨yo,yi (hk.2.mono ?_)⟩;rintro e w' ⟨v,rfl,u,rfl,hd,hku⟩;exact hK u w' hd hku
 ·exact ct hnd (h.trans hv) hd hku
end
end Go.X

namespace Go.X
variable {P:Program}
section
variable {e:Env} {a:Act} {c:E1} {w:World} {r:Option Nat}
theorem P1{o:Oper}{K:TV→WP}{f:FuncId}{vs:List V1}{t:TypeId}(hnd:∀x,o.op≠.defer x)(hrun:(execOp a.eval o).run P w=(callFunc f (vs.map V1.enc).toArray).run P w)
  (h:T9 P f vs t K w):E3 P r a o w K:=by
 unfold T9 at h;cases hrs:P9 P t with
 |none=>rw[hrs]at h;exact h.elim
 |some rs=>
  rw[hrs]at h;exact AP hnd hrun (kh.mono h λv w' ⟨x,hv,hd,hk⟩=>⟨_,hv,hd,hk⟩)
theorem M1{o:Oper}{K:TV→WP}{f:Fv}{vs:List V1}{t:TypeId}{x:Operand}{ts:Array TypeId}{as:Array Operand}(ho:o.op=.call ⟨.value x,as,ts⟩)(hx:a.eval x=f.enc)
  (has:as.map a.eval=(vs.map V1.enc).toArray) (h:M0 P f vs t K w):E3 P r a o w K:=by
 have hnd:∀x,o.op≠.defer x:=by rw[ho];intro x;simp
 unfold M0 at h;cases hrs:P9 P t with
 |none=>rw[hrs]at h;exact h.elim
 |some rs=>
  rw[hrs]at h;cases f with
  |nil=>exact h.elim
  |mk fn first cap=>
   cases fn with
   |func g=>
    refine AP (args:=first++vs.map V1.enc++cap) hnd ?_ (kh.mono (.enters h) λv w' ⟨x,hv,hd,hk⟩=>⟨_,hv,hd,hk⟩);simp[execOp,ho,resolve,hx,has,Fv.enc,Deferred.ofValue,invoke]
   |yield l=>
    cases first with
    |cons z zs=>exact h.elim
    |nil=>
     obtain⟨fn,tmps,asg,body,hy,hr⟩:=h;intro K' Q hK;refine⟨λf _=>trivial,?_⟩;rw[zk _ _ _ hnd];have:(execOp a.eval o).run P w=.ok (.round l fn tmps asg body) w:=by
      simp[execOp,ho,resolve,hx,has,Fv.enc,Deferred.ofValue,invoke,hy]
     rw[this];refine⟨yo,GN (hr.mono ?_)⟩;rintro e w' ⟨v,rfl,u,rfl,hd,hku⟩;exact hK _ w' hd hku
   |method n=>exact h.elim
   |methodOf t n=>exact h.elim
   |via t p f q=>exact h.elim
theorem ou{op:BinOp}{k:IntKind}{x y:Int}{t:TypeId}(hy:y≠0)(w:World):
  (op=.quo→(binOp op t (.int k x) (.int k y)).run P w=.ok (.int k (k.wrap (x.tdiv y))) w)∧(op=.rem→(binOp op t (.int k x) (.int k y)).run P w=.ok (.int k (x.tmod y)) w):=by
 constructor<;>intro h<;>subst h<;>simp[binOp,Op.intDiv,hy]
theorem sN{op:BinOp}{k k':IntKind}{x y:Int}{t:TypeId}(hy:0≤y)(w:World):
  (op=.shl→(binOp op t (.int k x) (.int k' y)).run P w=.ok (.int k (k.wrap (x*2^min y.toNat k.bits))) w)∧(op=.shr→(binOp op t (.int k x) (.int k' y)).run P w=.ok (.int k (x.fdiv (2^min y.toNat k.bits))) w):=by
 have:¬y<0:=by omega
 constructor<;>intro h<;>subst h<;>simp[binOp,Op.shift,this]
theorem yN{x:Operand}{k:IntKind}{n:Int}(h:me x=true)(hx:a.eval x=.int k n):n≠0:=by
 unfold me at h;split at h
 ·rename_i k' m;simp only[Act.eval,Value.int.injEq]at hx;obtain⟨_,rfl⟩:=hx;split at h
  ·cases h
  ·rename_i hd;exact bQ hd
 ·cases h
theorem BP{o:Oper}{K:TV→WP}{op:BinOp}{t u:TypeId}{x y:Operand}{k k':IntKind}{p q:Int}(ho:o.op=.binOp op t x y u)(hx:a.eval x=.int k p)(hy:a.eval y=.int k' q)
  (hk:op=.shl∨op=.shr∨k=k') (h:BO op y k p q K w):E3 P r a o w K:=by
 have hnd:∀x,o.op≠.defer x:=by rw[ho];intro x;simp
 have hrun:∀v,(binOp op t (.int k p) (.int k' q)).run P w=.ok v w→(execOp a.eval o).run P w=.ok (.value v) w:=by
  intro v hv;have hg:=fq (P:=P) op t x y (.int k p) (.int k' q) w;simp only[Lf.enc]at hg;simp only[execOp,ho,hx,hy];rw[cj,cj,hg];simp[hv]
 cases op with
 |quo=>
  have e:k=k':=by rcases hk with hk|hk|hk;cases hk;cases hk;exact hk
  subst e;simp only[BO]at h;cases hz:me y with
  |true=>rw[hz]at h;exact ct (v:=.one (.lf (.int k _))) hnd (hrun _ ((ou (yN hz hy) w).1 rfl)) (lH.refl w) h
  |false=>rw[hz]at h;exact ct (v:=.one (.lf (.int k _))) hnd (hrun _ ((ou h.1 w).1 rfl)) (lH.refl w) h.2
 |rem=>
  have e:k=k':=by rcases hk with hk|hk|hk;cases hk;cases hk;exact hk
  subst e;simp only[BO]at h;cases hz:me y with
  |true=>rw[hz]at h;exact ct (v:=.one (.lf (.int k _))) hnd (hrun _ ((ou (yN hz hy) w).2 rfl)) (lH.refl w) h
  |false=>rw[hz]at h;exact ct (v:=.one (.lf (.int k _))) hnd (hrun _ ((ou h.1 w).2 rfl)) (lH.refl w) h.2
 |shl=>exact ct (v:=.one (.lf (.int k _))) hnd (hrun _ ((sN h.1 w).1 rfl)) (lH.refl w) h.2
 |shr=>exact ct (v:=.one (.lf (.int k _))) hnd (hrun _ ((sN h.1 w).2 rfl)) (lH.refl w) h.2
 |_=>exact h.elim
theorem N5{t el:TypeId}{n:Nat}(h:Rk P t=some (n,el)):P.underlying t=some (.array n el):=by
 unfold Rk at h;split at h
 ·rename_i hu;cases h;exact hu
 ·cases h
theorem lx{t el:TypeId}(h:uF P t=some el):P.underlying t=some (.slice el):=by
 unfold uF at h;split at h
 ·rename_i e hu;cases h;exact hu
 ·cases h
end
end Go.X

namespace Go.X
variable {P:Program}
theorem Bl{z:List Value}{m:Nat}(hm:z.length=m)(h0:0<m):∀n,(List.range (n*m)).map (λi=>z.toArray[i%m]!)=(List.replicate n z).flatten
 |0=>by simp
 |n+1=>by
  have e:(n+1)*m=m+n*m:=by rw[jZ,Nat.one_mul,Nat.add_comm]
  rw[e,List.range_add,rO,List.map_map];have h1:(List.range m).map (λi=>z.toArray[i%m]!)=z:=by
   apply List.ext_getElem (by simp[hm]);intro i h1 h2;simp only[List.getElem_map,List.getElem_range];have hi:i<m:=by simpa using h1
   rw[Nat.mod_eq_of_lt hi];simp[hm,hi]
  have h2:(λi=>z.toArray[i%m]!)∘(λx=>m+x)=λi=>z.toArray[i%m]!:=by
   funext i;simp
  rw[h1,h2,Bl hm h0 n];simp[Gd]
theorem P0(n:Nat)(z:List Lf):(kf n z).map Lf.enc=(List.replicate n (z.map Lf.enc)).flatten:=by
 unfold kf;rw[List.map_flatten,List.map_replicate]
theorem qd(n:Nat)(z:List Lf):(kf n z).length=n*z.length:=by
 unfold kf;simp
theorem qj{z:List Lf}{m:Nat}(hm:z.length=m)(h0:0<m)(n:Nat):(Array.range (n*m)).map (λi=>((z.map Lf.enc).toArray)[i%m]!)=((kf n z).map Lf.enc).toArray:=by
 rw[P0,←Bl (z:=z.map Lf.enc) (m:=m) (by simpa using hm) h0 n];rw[kD];simp
theorem i_{z:List Lf}{m:Nat}(hm:z.length=m)(h0:0<m)(n:Nat):Builtin.zeroCells (z.map Lf.enc).toArray n=((kf n z).map Lf.enc).toArray:=by
 unfold Builtin.zeroCells;simp only[Co,kT,hm];exact qj hm h0 n
theorem AR(n:Nat):∀r c,Builtin.growBy n r c≤2^r*(c+768)
 |0,c=>by simp[Builtin.growBy]
 |r+1,c=>by
  simp only[Builtin.growBy];split
  ·have:1≤2^(r+1):=Nat.one_le_two_pow
   calc c≤1*(c+768):=by omega
    _≤2^(r+1)*(c+768):=py _ this
  ·have:=AR n r (c+(c+768)/4);have h2:c+(c+768)/4+768≤2*(c+768):=by omega
   calc Builtin.growBy n r (c+(c+768)/4)≤2^r*(c+(c+768)/4+768):=this
    _≤2^r*(2*(c+768)):=Ge _ h2
    _=2^(r+1)*(c+768):=by rw[Nat.pow_succ,Nat.mul_assoc]
theorem yM{need cap:Nat}(h:cap<need)(hn:need≤4294967296):Builtin.nextslicecap need cap≤68719493120:=by
 have hc:cap≤4294967296:=by omega
 have hg:Builtin.growBy need 4 cap≤68719493120:=
  lQ (AR need 4 cap) (lQ (Ge (2^4) (Nat.add_le_add_right hc 768)) (by decide))
 unfold Builtin.nextslicecap;split
 ·exact lQ hn (by decide)
 ·split
  ·exact lQ (Ge 2 hc) (by decide)
  ·exact hg
theorem iZ{w:World}{s:Sl}{sz:Nat}{M:List Lf}(h:na w s sz M):(Builtin.firstCells sz s.len (Lf.sl s).enc).run P w=.ok (M.map Lf.enc).toArray w:=by
 obtain⟨hl,hn,hr⟩:=h;simp only[Lf.enc];cases hp:s.p with
 |none=>
  have:M=[]:=by
   rw[hn hp]at hl;simp at hl;exact hl
  obtain⟨a,c,hx,_⟩:=s.ly;rw[hx,hn hp];cases a with
  |none=>simp[Builtin.firstCells,this]
  |some a=>simp[Builtin.firstCells,this];rfl
 |some q=>
  rw[Sl.wY hp];simp only[Builtin.firstCells,←hl];exact DX (hr q hp)
theorem iV.rd{w:World}{s:Sl}{sz:Nat}{L:List Lf}(h:iV w s sz L)(hz:s.p=none→s.len=0):na w s sz L:=by
 rcases h with⟨h1,h2,rfl⟩|⟨q,C,hp,hb,hle,hc,hC,hL,hi⟩
 ·exact⟨by simp[h1],λ_=>h1,λq _=>trivial⟩
 ·refine⟨hL,hz,λq' hq=>?_⟩;rw[hp]at hq;cases hq;exact hb.reads L q.o hi
theorem iV.PF{w:World}{s:Sl}{sz:Nat}{L:List Lf}(h:iV w s sz L):s.p=none→s.len=0:=by
 intro hp;rcases h with⟨h1,_,_⟩|⟨q,C,hq,_⟩
 ·exact h1
 ·rw[hp]at hq;cases hq
theorem iV.norm{w:World}{s:Sl}{sz:Nat}{L:List Lf}(h:iV w s sz L):s.enc=.slice (s.p.map Pt.addr) s.len s.cap:=by
 rcases h with⟨_,h2,_⟩|⟨q,C,hp,_⟩
 ·exact Sl.wX (Sl.FV h2)
 ·exact Sl.wX (Sl.yO hp)
theorem iV.read{w:World}{s:Sl}{sz:Nat}{L:List Lf}(h:iV w s sz L):na w s sz L:=h.rd h.PF
theorem kL{C M:List Lf}{o:Nat}(h:o+M.length≤C.length)(i:Nat):(eK C o M)[i]?=if i<o then C[i]? else if i<o+M.length then M[i-o]? else C[i]?:=by
 unfold eK;rw[kR,zp];simp only[fM];rw[show min o C.length=o by omega];split
 ·rename_i h1;rw[oC,aC h1]
 ·rename_i h1;rw[zp];split
  ·rename_i h2;rw[aC (by omega)]
  ·rename_i h2;rw[ay (by omega),ve]
   congr 1;omega
theorem Fa{w:World}{s x:Sl}{sz:Nat}{L M:List Lf}{ts:Array TypeId}{t ty el:TypeId}{ty2 el2:TypeId}{z:List Lf}(h0:ts[0]?=some ty)(h1:ts[1]?=some ty2)
  (hu:P.underlying ty=some (.slice el)) (hu2:P.underlying ty2=some (.slice el2)) (hz:lG P el=some z) (hzl:z.length=sz) (hsz:P.cellsOf el=sz) (hpos:0<sz) (hby:P.bytesOf el≤2048) (hby0:P.bytesOf el≠0)
  (hs:iV w s sz L) (hx:na w x sz M) (hlen:s.len+x.len≤4294967296):
  ∃w' s',(Builtin.append_ ts t #[(Lf.sl s).enc,(Lf.sl x).enc]).run P w=.ok (Lf.sl s').enc w'∧jO s.own w w'∧iV w' s' sz (L++M)∧s'.len=s.len+x.len∧(∀k,s'.own k→s.own k∨w.heap.size≤k)∧
   (s.cap<s.len+x.len→jO D5 w w'∧∀k,s'.own k→w.heap.size≤k)∧(s.len+x.len≤s.cap→s'=⟨s.p,s.len+x.len,s.cap⟩∧w'.heap.size=w.heap.size):=by
 have hi:(P.info? el).isSome=true:=by
  unfold Program.cellsOf at hsz;cases hh:P.info? el with
  |none=>rw[hh]at hsz;simp at hsz;omega
  |some i=>rfl
 obtain⟨i,hi⟩:=qx.1 hi;have hbi:i.bytes=P.bytesOf el:=by simp[Program.bytesOf,hi]
 obtain⟨ax,cx,hxe,_⟩:=x.ly;have hse:=hs.norm;have hxr:=iZ (P:=P) hx;have hsr:=iZ (P:=P) hs.read;have hsize:=jv (P:=P) (t:=el) (by omega);by_cases hneed:s.len+x.len≤s.cap
 · -- in place
  have hplace:∃w',((Option.map Pt.addr s.p).elim (pure ():Sem Unit) (λa=>storeCells (a.add (s.len*sz)) (M.map Lf.enc))).run P w=.ok () w'∧jO s.own w w'∧iV w' ⟨s.p,s.len+x.len,s.cap⟩ sz (L++M)∧w'.heap.size=w.heap.size:=by
   rcases hs with⟨e1,e2,rfl⟩|⟨q,C,hp,hb,hle,hc,hC,hL,hgi⟩
   ·have e3:x.len=0:=(by omega);have:M=[]:=by
     have:=hx.1;rw[e3]at this;simp at this;exact this
    subst this;refine⟨w,?_,jO.refl _ _,.inl ⟨by simp;omega,e2,rfl⟩,rfl⟩;cases s.p<;>simp[storeCells]
   ·have hlm:M.length=x.len*sz:=hx.1;have hbound:q.o+s.len*sz+M.length≤C.length:=by
     have:(s.len+x.len)*sz≤s.cap*sz:=py _ hneed;rw[jZ]at this;omega
    obtain⟨w',r1,r2,r3,r4⟩:=nn (P:=P) M C (q.o+s.len*sz) 0 hb (by simpa using hbound);refine⟨w',?_,r2.mono (λk _ hk=>⟨q,hp,hk,hc⟩),.inr ⟨q,_,hp,r3,hneed,hc,?_,?_,?_⟩,r4⟩
    ·simp only[hp,tw,Option.elim_some,add_eq];exact r1
    ·rw[vk,kw hbound];exact hC
    ·simp only[iE,hL,hlm,jZ]
    ·intro j hj;simp only[iE]at hj;rw[vk,kL hbound,zp];by_cases hjl:j<L.length
     ·rw[aC (by omega),aC hjl];exact hgi j hjl
     ·rw[ay (by omega),aC (by omega),ay hjl]
      congr 1;omega
  obtain⟨w',r1,r2,r3,r4⟩:=hplace;refine⟨w',⟨s.p,s.len+x.len,s.cap⟩,?_,r2,r3,rfl,λk ⟨q,h1,h2,h3⟩=>.inl ⟨q,h1,h2,h3⟩,λh=>by omega,λ_=>⟨rfl,r4⟩⟩;have hst:(Builtin.append_ ts t #[(Lf.sl s).enc,(Lf.sl x).enc]).run P w=(((Option.map Pt.addr s.p).elim (pure ():Sem Unit) (λa=>storeCells (a.add (s.len*sz)) (M.map Lf.enc))).run P w).andThen λ_ w'=>.ok (.slice (Option.map Pt.addr s.p) (s.len+x.len) s.cap) w':=by
   simp only[Lf.enc,hse,hxe]at hxr⊢;simp only[Builtin.append_,h0,h1,cj,eZ hu,eZ hu2,hsize,dp,Bh,zo,Ce,dQ,Builtin.lenOf,
    iW,iX,qC,Bool.not_false,gU,hneed,hsz,hxr]
   cases s.p<;>simp
  rw[hst,r1];show Result.ok _ _=Result.ok (Sl.enc _) _;rw[r3.norm]
 · -- a new array
  have hlt:s.cap<s.len+x.len:=by omega
  have h63:¬(((s.len+x.len:Nat):Int)>IntKind.i64.max∧(false=true∨i.bytes=0)):=λhh=>by
   rcases hh.2 with h|h
   ·cases h
   ·exact hby0 (by rw[←hbi];exact h)
  have h48:¬(Builtin.nextslicecap (s.len+x.len) s.cap*i.bytes>2^48):=by
   have h1:=yM hlt hlen;have h2:i.bytes≤2048:=(by omega);have h3:Builtin.nextslicecap (s.len+x.len) s.cap*i.bytes≤68719493120*2048:=Nat.mul_le_mul h1 h2;have h4:(68719493120*2048:Nat)≤2^48:=(by decide);omega
  obtain⟨nc,hnc,hge⟩:∃nc,(Question.appendCap (s.len+x.len) s.cap el).cut (w.tape w.drawn (.appendCap (s.len+x.len) s.cap el))=nc∧s.len+x.len≤nc:=⟨_,rfl,by simp[Question.cut]⟩;obtain⟨w1,hw1⟩:∃w1:World,w1={w with drawn:=w.drawn+1}:=⟨_,rfl⟩;have hheap:w1.heap=w.heap:=by rw[hw1]
  have ext1:jO D5 w w1:=by rw[hw1];exact⟨rfl,rfl,rfl,fa _,λ_ _ _=>rfl,λ_ h=>h⟩
  have hx1:na w1 x sz M:=⟨hx.1,hx.2.1,λq hq=>by
   have:=hx.2.2 q hq;clear hxr;generalize q.o=o at this⊢;clear hx
   induction M generalizing o with
   |nil=>trivial
   |cons m M ih=>exact⟨by rw[←this.1];simp[World.cell?,hheap],ih _ this.2⟩⟩
  have hs1:iV w1 s sz L:=by
   rcases hs with h|⟨q,C,a,⟨T,hb⟩,r⟩
   ·exact .inl h
   ·exact .inr ⟨q,C,a,⟨T,by rw[hheap];exact hb⟩,r⟩
  have hxr1:=iZ (P:=P) hx1;have hsr1:=iZ (P:=P) hs1.read;obtain⟨zv,hzv,hzc⟩:=mG hz w1;obtain⟨cells,hcells⟩:∃cells,cells=L++M++kf (nc-(s.len+x.len)) z:=⟨_,rfl⟩;refine⟨{w1 with heap:=w1.heap.push (.cells (cells.map Lf.enc).toArray el)},⟨some ⟨w1.heap.size,0⟩,s.len+x.len,nc⟩,?_,ext1.trans' (jQ w1 _) (λk _ h=>h.elim) |>.mono (λk _ h=>h.elim),.inr ⟨⟨w1.heap.size,0⟩,cells,rfl,vO w1 cells el,hge,?_,?_,?_,?_⟩,rfl,?_,λ_=>⟨ext1.trans (jQ w1 _),?_⟩,λh=>by omega⟩
  ·simp only[Lf.enc,hse,hxe]at hxr1 hsr1⊢;simp only[Builtin.append_,h0,h1,cj,eZ hu,eZ hu2,hsize,dp,Bh,zo,Ce,dQ,Builtin.lenOf,
    iW,iX,qC,Bool.not_false,gU,hneed]
   simp only[typeInfo,cj,wv,hi,dp,dQ,false_or];simp only[iW,false_or]at h63;rw[ay h63,ay h48];simp only[cj,run_choose,Question.forced,iW,iX,dp,hnc,←hw1,run_askRoom,hsr1,hxr1,hsz,hzv,hzc,newRow,wA,dQ];rw[i_ hzl hpos,Sl.wY (s:=⟨some ⟨w1.heap.size,0⟩,_,_⟩) rfl];simp[hcells]
  ·show nc≠0;omega
  ·simp only[hcells,iE,qd,hs.read.1,hx.1,hzl,nT];have:nc*sz=s.len*sz+x.len*sz+(nc-(s.len+x.len))*sz:=by
    rw[←jZ,←jZ]
    congr 1;omega
   omega
  ·simp only[iE,hs.read.1,hx.1,jZ]
  ·intro j hj;rw[nT,hcells,zp,aC hj]
  ·rintro k ⟨q,h1,h2,_⟩;cases h1;exact .inr (by rw[h2,hheap];exact fa _)
  ·rintro k ⟨q,h1,h2,_⟩;cases h1;rw[h2,hheap];exact fa _
set_option linter.unusedSimpArgs false in
set_option linter.unusedVariables false in
theorem Dl{w:World}{s:Sl}{kx:IntKind}{nx:Int}{sz:Nat}{L:List Lf}{ts:Array TypeId}{t ty el:TypeId}{ty2:TypeId}{k2:IntKind}{z:List Lf}(h0:ts[0]?=some ty)(h1:ts[1]?=some ty2)
  (hu:P.underlying ty=some (.slice el)) (hu2:P.underlying ty2=some (.int k2)) (hz:lG P el=some z) (hzl:z.length=sz) (hsz:P.cellsOf el=sz) (hpos:0<sz) (hby:P.bytesOf el≤2048) (hby0:P.bytesOf el≠0)
  (hs:iV w s sz L) (hx0:0≤nx) (hlen0:(s.len:Int)+nx≤4294967296):
  ∃w' s',(Builtin.append_ ts t #[(Lf.sl s).enc,Value.int kx nx]).run P w=.ok (Lf.sl s').enc w'∧jO s.own w w'∧iV w' s' sz (L++kf nx.toNat z)∧s'.len=s.len+nx.toNat∧(∀k,s'.own k→s.own k∨w.heap.size≤k)∧
   (s.cap<s.len+nx.toNat→jO D5 w w'∧∀k,s'.own k→w.heap.size≤k)∧(s.len+nx.toNat≤s.cap→s'=⟨s.p,s.len+nx.toNat,s.cap⟩∧w'.heap.size=w.heap.size):=by
 obtain⟨xl,hxl⟩:∃xl,xl=nx.toNat:=⟨_,rfl⟩;obtain⟨M,hM⟩:∃M,M=kf xl z:=⟨_,rfl⟩;have hMl:M.length=xl*sz:=by rw[hM,qd,hzl]
 have hlen:s.len+xl≤4294967296:=by omega
 rw[←hxl,←hM];have hw1':IntKind.i64.wrap nx=nx:=by simp[IntKind.wrap,IntKind.bits,IntKind.signed];omega
 have hi:(P.info? el).isSome=true:=by
  unfold Program.cellsOf at hsz;cases hh:P.info? el with
  |none=>rw[hh]at hsz;simp at hsz;omega
  |some i=>rfl
 obtain⟨i,hi⟩:=qx.1 hi;have hbi:i.bytes=P.bytesOf el:=by simp[Program.bytesOf,hi]
 have hsr:=iZ (P:=P) hs.read;have hsize:=jv (P:=P) (t:=el) (by omega);have hbig:¬nx*(i.bytes:Int)>2^48:=by
  have h1:(i.bytes:Int)≤2048:=by omega
  have h2:nx*(i.bytes:Int)≤4294967296*2048:=Cr (by omega) h1 (by omega) (by omega);have h3:(4294967296*2048:Int)≤2^48:=by decide
  omega
 obtain⟨zv0,hzv0,hzc0⟩:=mG hz w;by_cases hneed:s.len+xl≤s.cap
 · -- in place
  have hplace:∃w',((Option.map Pt.addr s.p).elim (pure ():Sem Unit) (λa=>storeCells (a.add (s.len*sz)) (M.map Lf.enc))).run P w=.ok () w'∧jO s.own w w'∧iV w' ⟨s.p,s.len+xl,s.cap⟩ sz (L++M)∧w'.heap.size=w.heap.size:=by
   rcases hs with⟨e1,e2,rfl⟩|⟨q,C,hp,hb,hle,hc,hC,hL,hgi⟩
   ·have e3:xl=0:=(by omega);have:M=[]:=by
     have:=hMl;rw[e3]at this;simp at this;exact this
    subst this;refine⟨w,?_,jO.refl _ _,.inl ⟨by simp;omega,e2,rfl⟩,rfl⟩;cases s.p<;>simp[storeCells]
   ·have hlm:M.length=xl*sz:=hMl;have hbound:q.o+s.len*sz+M.length≤C.length:=by
     have:(s.len+xl)*sz≤s.cap*sz:=py _ hneed;rw[jZ]at this;omega
    obtain⟨w',r1,r2,r3,r4⟩:=nn (P:=P) M C (q.o+s.len*sz) 0 hb (by simpa using hbound);refine⟨w',?_,r2.mono (λk _ hk=>⟨q,hp,hk,hc⟩),.inr ⟨q,_,hp,r3,hneed,hc,?_,?_,?_⟩,r4⟩
    ·simp only[hp,tw,Option.elim_some,add_eq];exact r1
    ·rw[vk,kw hbound];exact hC
    ·simp only[iE,hL,hlm,jZ]
    ·intro j hj;simp only[iE]at hj;rw[vk,kL hbound,zp];by_cases hjl:j<L.length
     ·rw[aC (by omega),aC hjl];exact hgi j hjl
     ·rw[ay (by omega),aC (by omega),ay hjl]
      congr 1;omega
  obtain⟨w',r1,r2,r3,r4⟩:=hplace;refine⟨w',⟨s.p,s.len+xl,s.cap⟩,?_,r2,r3,rfl,λk ⟨q,h1,h2,h3⟩=>.inl ⟨q,h1,h2,h3⟩,λh=>by omega,λ_=>⟨rfl,r4⟩⟩;have hst:(Builtin.append_ ts t #[(Lf.sl s).enc,Value.int kx nx]).run P w=(((Option.map Pt.addr s.p).elim (pure ():Sem Unit) (λa=>storeCells (a.add (s.len*sz)) (M.map Lf.enc))).run P w).andThen λ_ w'=>.ok (.slice (Option.map Pt.addr s.p) (s.len+xl) s.cap) w':=by
   simp only[Lf.enc,hs.norm];simp only[Builtin.append_,h0,h1,cj,eZ hu,eZ hu2,hsize,dp,Bh,zo,Ce,dQ,gU,asInt,asIntOf,hw1',qC,
    ay (show ¬nx<0 by omega),typeInfo,wv,hi,ay hbig,←hxl,Bool.not_true,iW,iX,hneed,hsz]
   by_cases h00:xl*sz=0
   ·have hM0:M=[]:=jD (by rw[hMl];exact h00);simp only[aC h00,dQ,dp,hM0];cases s.p<;>simp
   ·simp only[ay h00,cj,hzv0,hzc0,dp,dQ];rw[i_ hzl hpos,←hM];cases s.p<;>simp
  rw[hst,r1];show Result.ok _ _=Result.ok (Sl.enc _) _;rw[r3.norm]
 · -- a new array
  have hlt:s.cap<s.len+xl:=by omega
  have h48:¬(Builtin.nextslicecap (s.len+xl) s.cap*i.bytes>2^48):=by
   have h1:=yM hlt hlen;have h2:i.bytes≤2048:=(by omega);have h3:Builtin.nextslicecap (s.len+xl) s.cap*i.bytes≤68719493120*2048:=Nat.mul_le_mul h1 h2;have h4:(68719493120*2048:Nat)≤2^48:=(by decide);omega
  obtain⟨nc,hnc,hge⟩:∃nc,(Question.appendCap (s.len+xl) s.cap el).cut (w.tape w.drawn (.appendCap (s.len+xl) s.cap el))=nc∧s.len+xl≤nc:=⟨_,rfl,by simp[Question.cut]⟩;obtain⟨w1,hw1⟩:∃w1:World,w1={w with drawn:=w.drawn+1}:=⟨_,rfl⟩;have hheap:w1.heap=w.heap:=by rw[hw1]
  have ext1:jO D5 w w1:=by rw[hw1];exact⟨rfl,rfl,rfl,fa _,λ_ _ _=>rfl,λ_ h=>h⟩
  have hs1:iV w1 s sz L:=by
   rcases hs with h|⟨q,C,a,⟨T,hb⟩,r⟩
   ·exact .inl h
   ·exact .inr ⟨q,C,a,⟨T,by rw[hheap];exact hb⟩,r⟩
  have hsr1:=iZ (P:=P) hs1.read;obtain⟨zv,hzv,hzc⟩:=mG hz w1;obtain⟨cells,hcells⟩:∃cells,cells=L++M++kf (nc-(s.len+xl)) z:=⟨_,rfl⟩;refine⟨{w1 with heap:=w1.heap.push (.cells (cells.map Lf.enc).toArray el)},⟨some ⟨w1.heap.size,0⟩,s.len+xl,nc⟩,?_,ext1.trans' (jQ w1 _) (λk _ h=>h.elim) |>.mono (λk _ h=>h.elim),.inr ⟨⟨w1.heap.size,0⟩,cells,rfl,vO w1 cells el,hge,?_,?_,?_,?_⟩,rfl,?_,λ_=>⟨ext1.trans (jQ w1 _),?_⟩,λh=>by omega⟩
  ·simp only[Lf.enc,hs.norm]at hsr1⊢;have h63:¬(((s.len+xl:Nat):Int)>IntKind.i64.max):=by
    have:IntKind.i64.max=9223372036854775807:=rfl;rw[this];omega
   simp only[Builtin.append_,h0,h1,cj,eZ hu,eZ hu2,hsize,dp,Bh,zo,Ce,dQ,gU,asInt,asIntOf,hw1',qC,
    ay (show ¬nx<0 by omega),typeInfo,wv,hi,ay hbig,←hxl,Bool.not_true,iW,iX,hneed,true_or,and_true,ay h63,ay h48]
   simp only[cj,run_choose,Question.forced,iW,iX,dp,hnc,←hw1,run_askRoom,hsr1,hsz,newRow,wA,dQ,qC];by_cases h00:xl*sz=0
   ·have hM0:M=[]:=jD (by rw[hMl];exact h00);simp only[aC h00,dQ,dp,hzv,hzc];rw[i_ hzl hpos,Sl.wY (s:=⟨some ⟨w1.heap.size,0⟩,_,_⟩) rfl];simp[hcells,hM0]
   ·simp only[ay h00,cj,hzv,hzc,dp,dQ];rw[i_ hzl hpos,i_ hzl hpos,←hM,Sl.wY (s:=⟨some ⟨w1.heap.size,0⟩,_,_⟩) rfl];simp[hcells]
  ·show nc≠0;omega
  ·simp only[hcells,iE,qd,hs.read.1,hMl,hzl,nT];have:nc*sz=s.len*sz+xl*sz+(nc-(s.len+xl))*sz:=by
    rw[←jZ,←jZ]
    congr 1;omega
   omega
  ·simp only[iE,hs.read.1,hMl,jZ]
  ·intro j hj;rw[nT,hcells,zp,aC hj]
  ·rintro k ⟨q,h1,h2,_⟩;cases h1;exact .inr (by rw[h2,hheap];exact fa _)
  ·rintro k ⟨q,h1,h2,_⟩;cases h1;rw[h2,hheap];exact fa _
end Go.X

