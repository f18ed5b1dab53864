/- A logic of Go code. -/
import Derived.Carry
import Derived.ChangeSlices
import Derived.Deep.LoopGhost
import Derived.KernelRfl
import Derived.Laws.Externs
import Derived.Laws.IdiomStrings
import Derived.MapKept
import Derived.OpenShut
import Derived.OrdersIn
import Derived.ProofKit
import Derived.RangeFuncKeeps
import Derived.RangeFuncLeaves
import Derived.RangeFuncRecord
import Derived.WalkKit
set_option linter.all false
namespace Go.X
abbrev aw:=@if_neg
abbrev aF:=@if_pos
abbrev cd:=@of_decide_eq_false
abbrev bZ:=@of_decide_eq_true
abbrev dH:=@Result.andThen_ok
abbrev cA:=@Sem.run_bind
abbrev eQ:=@List.length_append
abbrev dX:=@List.mem_append
abbrev eW:=@Int.toNat_natCast
abbrev nX:=@List.eq_nil_of_length_eq_zero
abbrev ej:=@Bool.and_eq_true
abbrev gG:=@List.getElem?_eq_getElem
abbrev ie:=@List.getElem?_eq_some_iff
abbrev dY:=@List.mem_cons
abbrev gO:=@List.length_singleton
abbrev fq:=@List.length_cons
abbrev eg:=@Sem.run_pure
abbrev gH:=@List.mem_singleton
abbrev fy:=@List.length_map
abbrev jd:=@Nat.ble_eq_true_of_le
abbrev fk:=@run_underlying
abbrev fU:=@List.length_take
abbrev lB:=@List.getD_eq_getElem?_getD
abbrev jr:=@List.mem_of_getElem?
abbrev l_:=@Int.tdiv_eq_ediv_of_nonneg
abbrev dm:=@congrArg
abbrev kF:=@List.take_of_length_le
abbrev eM:=@Nat.le_refl
abbrev iD:=@List.append_assoc
abbrev js:=@Bool.false_eq_true
abbrev iE:=@List.length_nil
abbrev jZ:=@List.nodup_append
abbrev j_:=@decide_eq_true_eq
abbrev pj:=@Array.getElem?_eq_some_iff
abbrev jH:=@Bool.eq_iff_iff
abbrev mz:=@List.mem_cons_of_mem
abbrev kV:=@List.getElem?_map
abbrev pk:=@List.getElem?_append_left
abbrev lC:=@List.take_add_one
abbrev kG:=@Option.some.inj
abbrev ig:=@Int.le_refl
abbrev na:=@List.mem_cons_self
abbrev lD:=@List.nodup_cons
abbrev ka:=@List.map_cons
abbrev iW:=@Nat.zero_le
abbrev qt:=@Nat.eq_of_beq_eq_true
abbrev nI:=@Bool.not_eq_true'
abbrev nJ:=@Option.some.injEq
abbrev mA:=@List.map_append
abbrev kH:=@Nat.le_trans
abbrev tO:=@List.getElem?_append_right
abbrev qv:=@Nat.mul_le_mul_right
abbrev nK:=@List.cons_append
abbrev nL:=@List.length_drop
abbrev q_:=@List.getElem?_eq_none
abbrev pn:=@List.getElem?_take
abbrev sB:=@List.getElem?_set_self
abbrev kJ:=@Nat.add_mul
abbrev tP:=@Option.isSome_iff_exists
abbrev ma:=@List.mem_map
abbrev nM:=@decide_eq_true
abbrev ra:=@List.pairwise_cons
abbrev tQ:=@List.mem_iff_getElem?
abbrev po:=@List.nil_append
abbrev jt:=@if_false
abbrev iF:=@if_true
abbrev qw:=@List.append_nil
abbrev nN:=@Nat.zero_add
abbrev x_:=@Option.bind_eq_some_iff
abbrev tR:=@List.getElem?_drop
abbrev rb:=@List.length_set
abbrev rf:=@Option.map_some
abbrev sC:=@List.take_length
abbrev Fw:=@List.findIdx?_eq_some_iff_getElem
abbrev Am:=@List.getElem?_cons_zero
abbrev ya:=@List.getElem?_set_ne
abbrev B3:=@Int.tmod_eq_emod_of_nonneg
abbrev vW:=@not_false_eq_true
abbrev tS:=@List.mem_filter
abbrev tT:=@decide_eq_false
abbrev An:=@List.getElem?_append
abbrev yb:=@List.flatMap_cons
abbrev Fx:=@Array.getD_eq_getD_getElem?
abbrev Ao:=@List.filter_eq_self
abbrev Ap:=@List.takeWhile_cons
abbrev B4:=@List.drop_of_length_le
abbrev rh:=@Sem.run_ite
abbrev mC:=@Iff.rfl
abbrev vX:=@List.drop_zero
abbrev B5:=@List.getElem?_toArray
abbrev mD:=@Ne.symm
abbrev Fy:=@Array.getElem?_eq_getElem
abbrev B6:=@List.mem_iff_getElem
abbrev vY:=@Int.mul_assoc
abbrev Fz:=@Nat.add_sub_cancel_left
abbrev FA:=@List.drop_eq_nil_of_le
abbrev vZ:=@Nat.add_zero
abbrev Aq:=@Bool.or_eq_true
abbrev FB:=@List.length_filter_le
abbrev B7:=@Decidable.not_not
abbrev z7:=@Array.size_replicate
abbrev Da:=@Classical.byContradiction
abbrev z8:=@List.mem_append_left
abbrev z_:=@List.pairwise_append
abbrev uI:=@Int.mul_nonneg
abbrev xv:=@List.getElem_mem
abbrev xw:=@Nat.lt_succ_self
abbrev Aa:=@Int.toNat_of_nonneg
abbrev G5:=@Array.getElem?_setIfInBounds_ne
abbrev Db:=@List.getElem?_cons_succ
abbrev Dc:=@decide_eq_false_iff_not
abbrev Ab:=@Nat.eq_zero_or_pos
abbrev Ac:=@Nat.lt_of_lt_of_le
abbrev De:=@Int.le_ediv_iff_mul_le
abbrev Df:=@MapKept.run_getObj_map
abbrev Dg:=@Option.map_eq_some_iff
abbrev Ad:=@Classical.not_not
abbrev Dh:=@Array.getElem?_modify
abbrev Di:=@List.length_replicate
abbrev Dj:=@List.singleton_append
abbrev Dk:=@Bool.or_eq_false_iff
abbrev Ae:=@Int.ediv_le_self
abbrev Af:=@List.drop_append
abbrev Ag:=@List.filter_cons
abbrev Dl:=@List.mem_of_mem_take
abbrev sy:=@beq_iff_eq
abbrev uJ:=@Nat.le_succ
abbrev Dm:=@List.dropWhile_cons
abbrev Dn:=@MapKept.run_findKey
abbrev xx:=@Bool.not_not
abbrev xy:=@Int.le_trans
abbrev xz:=@Int.mul_comm
abbrev Dp:=@List.filter_append
abbrev G6:=@World.putObj_heap_other
abbrev Dq:=@List.size_toArray
abbrev G7:=@Nat.ne_of_beq_eq_false
abbrev G8:=@run_convert_bytes_back
abbrev xA:=@run_program
abbrev Ah:=@Bool.false_or
abbrev Ai:=@Oper.semAt_eq
abbrev sA:=@Prod.ext
abbrev G9:=@List.set_append_right
abbrev G_:=@List.take_append_drop
abbrev Ha:=@Nat.le_of_ble_eq_true
abbrev Aj:=@List.takeWhile_append_dropWhile
abbrev Dr:=@Int.ediv_nonneg
abbrev NO:=@Int.mul_le_mul_of_nonneg_right
abbrev Ds:=@List.foldl_cons
abbrev Ak:=@List.map_map
abbrev NP:=@Nat.and_two_pow_sub_one_eq_mod
abbrev xB:=@Nat.beq_eq
abbrev xC:=@Nat.ble_eq
abbrev Al:=@Nat.mul_comm
abbrev xD:=@run_newObj
abbrev NQ:=@List.take_append_of_le_length
abbrev Hb:=@List.replicate_succ
abbrev Hc:=@Nat.mul_le_mul_left
abbrev Hd:=@beq_eq_false_iff_ne
abbrev Dt:=@Int.mul_le_mul
abbrev NR:=@List.dropLast_concat_getLast
abbrev Du:=@List.drop_left
abbrev Dw:=@List.mapM_cons
abbrev Dx:=@List.take_left
abbrev Dy:=@List.take_zero
abbrev He:=@List.erase_sublist
abbrev qM:=@not_or
abbrev NS:=@Array.getElem?_append_left
abbrev NT:=@Int.fdiv_eq_ediv_of_nonneg
abbrev NU:=@List.nodup_iff_pairwise_ne
abbrev Dz:=@Nat.add_assoc
abbrev DA:=@Prod.mk.injEq
abbrev Hf:=@DataW.trod_string
abbrev Hg:=@List.Sublist.refl
abbrev NV:=@List.append_eq_append_iff
abbrev NW:=@List.drop_eq_getElem_cons
abbrev NX:=@List.findIdx?_eq_none_iff
abbrev NY:=@Option.isNone_iff_eq_none
abbrev NZ:=@RowKit.Below.heap_setCell
abbrev N0:=@Array.getElem?_replicate
abbrev Hh:=@BitVec.toNat_and
abbrev Hi:=@DataW.trod_slice
abbrev Hj:=@List.drop_length
abbrev DB:=@List.map_nil
abbrev DC:=@Nat.beq_refl
abbrev DE:=@Nat.zero_mul
abbrev Hk:=@Option.getD_some
abbrev N1:=@Int.eq_ofNat_of_zero_le
abbrev N2:=@List.countP_cons_of_neg
abbrev N3:=@RowKit.Below.heap_alloc
abbrev Hl:=@DataW.trod_bool
abbrev Hm:=@Nat.div_add_mod
abbrev Hn:=@Nat.mul_eq_zero
abbrev Ho:=@Oper.upon_value
abbrev N4:=@Int.ediv_eq_zero_of_lt
abbrev N5:=@MapKept.run_setObj_map
abbrev N6:=@World.putObj_heap_same
abbrev N8:=@Classical.choose_spec
abbrev Hp:=@DataW.trod_int
abbrev N9:=@Int.ediv_lt_of_lt_mul
abbrev Hq:=@List.drop_drop
abbrev N_:=@List.perm_append_comm
abbrev DF:=@Nat.mod_lt
abbrev Hr:=@List.set_set
abbrev Hs:=@List.sum_nil
abbrev Ht:=@Nat.mul_zero
structure Pt where
 b:Nat
 o:Nat
structure Sl where
 p:Option Pt
 len:Nat
 cap:Nat
inductive Fv where
 |nil
 |mk (fn:Fn) (first captured:List Value)
inductive CK where
 |int (k:IntKind)|bool|ptr|sl|str|fn|Py
abbrev CK.T:CK→Type
 |.int _=>Int
 |.bool=>Bool
 |.ptr=>Option Pt
 |.sl=>Sl
 |.str=>ByteArray
 |.fn=>Fv
 |.Py=>Unit
inductive Lf where
 |int (k:IntKind) (n:Int)|bool (b:Bool)|ptr (p:Option Pt)|sl (s:Sl)|str (s:ByteArray)|fn (f:Fv)|SI|mp (r:Nat)
abbrev Pt.addr(p:Pt):Addr:=⟨p.b,p.o,none⟩
def K4:Nat→Nat×Nat
 |0=>(0,0)
 |n+1=>match(K4 n).1 with
  |0=>((K4 n).2+1,0)
  |a+1=>(a,(K4 n).2+1)
def Zj:Nat→Nat
 |0=>0
 |n+1=>Zj n+n+1
theorem DU:∀(s b:Nat),b≤s→K4 (Zj s+b)=(s-b,b)
 |s,b+1,h=>by
  have:=DU s b (by omega);rw[←Dz];simp only[K4,this];obtain⟨c,hc⟩:∃c,s-b=c+1:=⟨s-b-1,by omega⟩;rw[hc];simp only[DA,and_true];omega
 |0,0,_=>rfl
 |s+1,0,_=>by
  have:=DU s s (eM _);rw[Nat.sub_self]at this;show K4 (Zj s+s+1)=_;simp only[K4,this];simp
theorem Jh(a b:Nat):∃n,K4 n=(a,b):=⟨Zj (a+b)+b,by rw[DU _ _ (by omega)];simp⟩
def E9(n:Nat):Addr:=⟨(K4 n).1,(K4 (K4 n).2).1,some (K4 (K4 n).2).2⟩
theorem Nq(b o k:Nat):∃n,E9 n=⟨b,o,some k⟩:=by
 obtain⟨m,hm⟩:=Jh o k;obtain⟨n,hn⟩:=Jh b m;exact⟨n,by simp[E9,hn,hm]⟩
def Sl.vP(s:Sl):Bool:=s.p.isNone&&(Nat.beq s.len 0&&!(Nat.beq s.cap 0))
def Sl.cp(s:Sl):Nat:=cond s.vP 0 s.cap
def Sl.isNil(s:Sl):Bool:=s.p.isNone&&!s.vP
def Sl.enc(s:Sl):Value:=match s.vP with
 |true=>.slice (some (E9 (s.cap-1))) 0 0
 |false=>.slice (s.p.map Pt.addr) s.len s.cap
theorem Sl.Nr{s:Sl}(h:s.vP=true):s.p=none∧s.len=0∧s.cap≠0:=by
 simp only[Sl.vP,ej,nI,NY]at h;exact⟨h.1,qt h.2.1,λe=>by have:=h.2.2;rw[e]at this;cases this⟩
theorem Sl.xW{s:Sl}(h:s.vP=false):s.enc=.slice (s.p.map Pt.addr) s.len s.cap:=by unfold Sl.enc;rw[h]
theorem Sl.rW(q:Pt)(l c:Nat):Sl.enc ⟨some q,l,c⟩=.slice (some q.addr) l c:=rfl
theorem Sl.zJ{s:Sl}{q:Pt}(h:s.p=some q):s.vP=false:=by simp[Sl.vP,h]
theorem Sl.GV{s:Sl}(h:s.cap=0):s.vP=false:=by rw[Sl.vP,h];simp
theorem Sl.xX{s:Sl}{q:Pt}(h:s.p=some q):s.enc=.slice (some q.addr) s.len s.cap:=by rw[Sl.xW (Sl.zJ h),h];rfl
theorem Sl.lR(s:Sl):∃a c,s.enc=.slice a s.len c∧(s.vP=false→a=s.p.map Pt.addr∧c=s.cap)∧c=s.cp∧(a=none↔s.isNil=true):=by
 cases h:s.vP with
 |true=>
  obtain⟨h1,h2,_⟩:=Sl.Nr h;refine⟨some (E9 (s.cap-1)),0,by unfold Sl.enc;rw[h,h2],λh=>(by cases h),by rw[Sl.cp,h];rfl,?_⟩;rw[Sl.isNil,h];simp
 |false=>exact⟨s.p.map Pt.addr,s.cap,Sl.xW h,λ_=>⟨rfl,rfl⟩,by rw[Sl.cp,h];rfl,by rw[Sl.isNil,h];simp⟩
def Fv.enc:Fv→Value
 |.nil=>.nilFunc
 |.mk f a c=>.func f a.toArray c.toArray
def Lf.enc:Lf→Value
 |.int k n=>.int k n
 |.bool b=>.bool b
 |.ptr p=>.pointer (p.map Pt.addr)
 |.sl s=>s.enc
 |.str s=>.string s
 |.fn f=>f.enc
 |.SI=>.nilIface
 |.mp r=>.map (some r)
def CK.mk:(c:CK)→c.T→Lf
 |.int k,n=>.int k n
 |.bool,b=>.bool b
 |.ptr,p=>.ptr p
 |.sl,s=>.sl s
 |.str,s=>.str s
 |.fn,f=>.fn f
 |.Py,_=>.SI
def CK.un:(c:CK)→Lf→Option c.T
 |.int k,.int k' n=>if k=k' then some n else none
 |.bool,.bool b=>some b
 |.ptr,.ptr p=>some p
 |.sl,.sl s=>some s
 |.str,.str s=>some s
 |.fn,.fn f=>some f
 |.Py,.SI=>some ()
 |_,_=>none
abbrev Ks:=List CK
abbrev Ks.T:List CK→Type
 |[]=>Unit
 |[c]=>c.T
 |c::d::r=>c.T×Ks.T (d::r)
def Ks.mk:(cs:List CK)→Ks.T cs→List Lf
 |[],_=>[]
 |[c],x=>[c.mk x]
 |c::d::r,x=>c.mk x.1::Ks.mk (d::r) x.2
def Ks.un:(cs:List CK)→List Lf→Option (Ks.T cs)
 |[],[]=>some ()
 |[c],[l]=>c.un l
 |c::d::r,l::ls=>match c.un l with
  |some x=>match Ks.un (d::r) ls with
   |some y=>some (x,y)
   |none=>none
  |none=>none
 |_,_=>none
inductive V1 where
 |lf (l:Lf)
 |agg (ls:List Lf)
def V1.enc:V1→Value
 |.lf l=>l.enc
 |.agg ls=>.agg (ls.map Lf.enc).toArray
def V1.J8:V1→List Lf
 |.lf l=>[l]
 |.agg ls=>ls
inductive TV where
 |one (v:V1)
 |O2 (vs:List V1)
def TV.enc:TV→Value
 |.one v=>v.enc
 |.O2 vs=>.tuple (vs.map V1.enc).toArray
inductive Sh where
 |lf (c:CK)
 |agg (cs:List CK)
abbrev Sh.T:Sh→Type
 |.lf c=>c.T
 |.agg cs=>Ks.T cs
def Sh.mk:(s:Sh)→s.T→V1
 |.lf c,x=>.lf (c.mk x)
 |.agg cs,x=>.agg (Ks.mk cs x)
abbrev Rs.T:List Sh→Type
 |[]=>Unit
 |[s]=>s.T
 |s::t::r=>s.T×Rs.T (t::r)
def Rs.mk:(rs:List Sh)→Rs.T rs→List V1
 |[],_=>[]
 |[s],x=>[s.mk x]
 |s::t::r,x=>s.mk x.1::Rs.mk (t::r) x.2
def nb:List V1→TV
 |[v]=>.one v
 |vs=>.O2 vs
def Sh.un:(s:Sh)→V1→Option s.T
 |.lf c,.lf l=>c.un l
 |.agg cs,.agg ls=>Ks.un cs ls
 |_,_=>none
def Rs.un:(rs:List Sh)→List V1→Option (Rs.T rs)
 |[],[]=>some ()
 |[s],[v]=>s.un v
 |s::t::r,v::vs=>match s.un v with
  |some x=>match Rs.un (t::r) vs with
   |some y=>some (x,y)
   |none=>none
  |none=>none
 |_,_=>none
theorem CK.iK{c:CK}{l:Lf}{x:c.T}(h:c.un l=some x):c.mk x=l:=by cases c<;>cases l<;>simp_all[CK.un,CK.mk]
theorem Ks.iK:∀{cs:List CK} {ls:List Lf} {x:Ks.T cs},Ks.un cs ls=some x→Ks.mk cs x=ls
 |[],[],_,_=>rfl
 |[],_::_,_,h=>by simp[Ks.un]at h
 |[c],[],_,h=>by simp[Ks.un]at h
 |[c],[l],x,h=>by simp only[Ks.un]at h;simp only[Ks.mk];rw[CK.iK h]
 |[c],_::_::_,_,h=>by simp[Ks.un]at h
 |c::d::r,[],_,h=>by simp[Ks.un]at h
 |c::d::r,l::ls,x,h=>by
  simp only[Ks.un]at h;split at h
  ·rename_i y hy;split at h
   ·rename_i z hz;cases h;simp only[Ks.mk];rw[CK.iK hy,Ks.iK hz]
   ·cases h
  ·cases h
theorem Sh.iK{s:Sh}{v:V1}{x:s.T}(h:s.un v=some x):s.mk x=v:=by
 cases s with
 |lf c=>cases v with
  |lf l=>simp only[Sh.un]at h;simp only[Sh.mk];rw[CK.iK h]
  |agg ls=>simp[Sh.un]at h
 |agg cs=>cases v with
  |lf l=>simp[Sh.un]at h
  |agg ls=>simp only[Sh.un]at h;simp only[Sh.mk];rw[Ks.iK h]
theorem Rs.iK:∀{rs:List Sh} {vs:List V1} {x:Rs.T rs},Rs.un rs vs=some x→Rs.mk rs x=vs
 |[],[],_,_=>rfl
 |[],_::_,_,h=>by simp[Rs.un]at h
 |[c],[],_,h=>by simp[Rs.un]at h
 |[c],[l],x,h=>by simp only[Rs.un]at h;simp only[Rs.mk];rw[Sh.iK h]
 |[c],_::_::_,_,h=>by simp[Rs.un]at h
 |c::d::r,[],_,h=>by simp[Rs.un]at h
 |c::d::r,l::ls,x,h=>by
  simp only[Rs.un]at h;split at h
  ·rename_i y hy;split at h
   ·rename_i z hz;cases h;simp only[Rs.mk];rw[Sh.iK hy,Rs.iK hz]
   ·cases h
  ·cases h
def Reads(w:World)(b:Nat):Nat→List Lf→Prop
 |_,[]=>True
 |o,l::ls=>w.cell? ⟨b,o,none⟩=some l.enc∧Reads w b (o+1) ls
def Bu(w:World)(b:Nat)(L:List Lf):Prop:=∃T,w.heap[b]?=some (.cells (L.map Lf.enc).toArray T (0,0))
abbrev kU:Obj:=.deferred (some [])
structure ju(S:Nat→Prop)(w w':World):Prop where
 os:w'.os=w.os
 tape:w'.tape=w.tape
 output:w'.output=w.output
 size:w.heap.size≤w'.heap.size
 same:∀k,k<w.heap.size→¬S k→w'.heap[k]?=w.heap[k]?
 Kl:∀k:Nat,w.heap[k]?=some kU→w'.heap[k]?=some kU
structure mg(w w':World):Prop where
 size:w.heap.size≤w'.heap.size
 Kl:∀k:Nat,w.heap[k]?=some kU→w'.heap[k]?=some kU
def C6:Nat→Prop:=λ_=>False
abbrev Er(b:Nat):Nat→Prop:=λk=>k=b
theorem mg.refl(w:World):mg w w:=⟨eM _,λ_ h=>h⟩
theorem mg.trans{a b c:World}(h:mg a b)(k:mg b c):mg a c:=⟨kH h.size k.size,λi hi=>k.Kl i (h.Kl i hi)⟩
theorem ju.xV{S:Nat→Prop}{w w':World}(h:ju S w w'):mg w w':=⟨h.size,h.Kl⟩
theorem ju.refl(S:Nat→Prop)(w:World):ju S w w:=⟨rfl,rfl,rfl,eM _,λ_ _ _=>rfl,λ_ h=>h⟩
theorem ju.mono{S S':Nat→Prop}{w w':World}(h:ju S w w')(hs:∀k,k<w.heap.size→S k→S' k):ju S' w w':=
 ⟨h.os,h.tape,h.output,h.size,λk hk hn=>h.same k hk λe=>hn (hs k hk e),h.Kl⟩
theorem ju.trans{S:Nat→Prop}{a b c:World}(h:ju S a b)(k:ju S b c):ju S a c:=
 ⟨k.os.trans h.os,k.tape.trans h.tape,k.output.trans h.output,kH h.size k.size,
  λi hi hn=>(k.same i (Ac hi h.size) hn).trans (h.same i hi hn),λi hi=>k.Kl i (h.Kl i hi)⟩
theorem ju.trans'{S S':Nat→Prop}{a b c:World}(h:ju S a b)(k:ju S' b c)(hs:∀i,i<a.heap.size→S' i→S i):ju S a c:=
 ⟨k.os.trans h.os,k.tape.trans h.tape,k.output.trans h.output,kH h.size k.size,
  λi hi hn=>(k.same i (Ac hi h.size) λe=>hn (hs i hi e)).trans (h.same i hi hn),λi hi=>k.Kl i (h.Kl i hi)⟩
theorem ju.below{w w':World}(h:ju C6 w w'):RowKit.Below w.heap.size w w':=
 ⟨h.os,h.tape,h.output,h.size,λk hk=>h.same k hk (λe=>e)⟩
theorem xU{w:World}{b:Nat}{L:List Lf}(h:Bu w b L)(o:Nat):w.cell? ⟨b,o,none⟩=(L[o]?).map Lf.enc:=by
 obtain⟨T,h⟩:=h;simp[World.cell?,h]
theorem Bi{w:World}{b:Nat}{L:List Lf}(h:Bu w b L)(o:Nat):w.frozen? ⟨b,o,none⟩=false:=by
 obtain⟨T,h⟩:=h;simp[World.frozen?,h]
theorem Bu.reads{w:World}{b:Nat}{L:List Lf}(h:Bu w b L):∀(ls:List Lf) (o:Nat),(∀i,i<ls.length→L[o+i]?=ls[i]?)→Reads w b o ls
 |[],_,_=>trivial
 |l::ls,o,hh=>by
  refine⟨?_,h.reads ls (o+1) λi hi=>?_⟩
  ·have:=hh 0 (by simp);rw[xU h];simp at this;simp[this]
  ·have:=hh (i+1) (by simp;omega);rw[show o+1+i=o+(i+1) by omega,this];simp
def fa(L:List Lf)(o:Nat)(ls:List Lf):List Lf:=L.take o++ls++L.drop (o+ls.length)
theorem kW{L:List Lf}{o:Nat}{ls:List Lf}(h:o+ls.length≤L.length):(fa L o ls).length=L.length:=by unfold fa;simp;omega
def jq(w:World)(s:Sl)(sz:Nat)(L:List Lf):Prop:=
 (s.len=0∧s.cap=0∧L=[])∨
 ∃q C,s.p=some q∧Bu w q.b C∧s.len≤s.cap∧s.cap≠0∧q.o+s.cap*sz≤C.length∧L.length=s.len*sz∧∀i,i<L.length→C[q.o+i]?=L[i]?
def pA(w:World)(s:Sl)(sz:Nat)(M:List Lf):Prop:=M.length=s.len*sz∧(s.p=none→s.len=0)∧∀q,s.p=some q→Reads w q.b q.o M
def Sl.own(s:Sl):Nat→Prop:=λk=>∃q,s.p=some q∧k=q.b∧s.cap≠0
def Sl.sub(s:Sl)(l h m sz:Nat):Sl:=⟨if m=l then s.p else s.p.map λq=>⟨q.b,q.o+l*sz⟩,h-l,m-l⟩
def wW(x:Option Int)(d n:Nat):Prop:=match x with|some i=>i=n|none=>n=d
def kR(n:Nat)(zs:List Lf):List Lf:=(List.replicate n zs).flatten
abbrev WP:=World→Prop
abbrev gX:WP:=λ_=>False
abbrev ar(c:Bool)(A B:WP):WP:=λw=>cond c (A w) (B w)
abbrev dM(p:Prop)(A:WP):WP:=λw=>p∧A w
abbrev az(p:Option Pt)(K:Pt→WP):WP:=λw=>∃q,p=some q∧K q w
abbrev VP(f:Fv)(A:WP):WP:=λw=>(∃n a c,f=.mk (.func n) a c∨f=.mk (.yield n) a c)∧A w
abbrev idx(s:Sl)(i:Int)(n:Nat)(K:Pt→WP):WP:=λw=>∃q,s.p=some q∧(0≤i∧i<s.len)∧K ⟨q.b,q.o+i.toNat*n⟩ w
abbrev ld(cs:List CK)(p:Pt)(K:Ks.T cs→WP):WP:=λw=>∃x,Reads w p.b p.o (Ks.mk cs x)∧K x w
abbrev st(p:Pt)(ls:List Lf)(A:WP):WP:=λw=>∃L,Bu w p.b L∧p.o+ls.length≤L.length∧
 ∀w',ju (Er p.b) w w'→Bu w' p.b (fa L p.o ls)→w'.heap.size=w.heap.size→A w'
abbrev new(ls:List Lf)(K:Nat→WP):WP:=λw=>∀w',ju C6 w w'→Bu w' w.heap.size ls→w'.heap.size=w.heap.size+1→K w.heap.size w'
def Xl(w:World)(b:Nat)(L:List Lf)(T:TypeId):Prop:=w.heap[b]?=some (.cells (L.map Lf.enc).toArray T (0,0))
abbrev Rf(T:TypeId)(ls:List Lf)(K:Nat→WP):WP:=λw=>∀w',ju C6 w w'→Xl w' w.heap.size ls T→w'.heap.size=w.heap.size+1→K w.heap.size w'
abbrev mi(sz:Nat)(s x:Sl)(K:Sl→WP):WP:=λw=>∃L M,jq w s sz L∧pA w x sz M∧s.len+x.len≤4294967296∧
 ∀w' s',ju s.own w w'→jq w' s' sz (L++M)→s'.len=s.len+x.len→(∀k,s'.own k→s.own k∨w.heap.size≤k)→
  (s.cap<s.len+x.len→ju C6 w w'∧∀k,s'.own k→w.heap.size≤k)→(s.len+x.len≤s.cap→s'=⟨s.p,s.len+x.len,s.cap⟩∧w'.heap.size=w.heap.size)→K s' w'
abbrev PL(zs:List Lf)(sz:Nat)(s:Sl)(n:Int)(K:Sl→WP):WP:=λw=>∃L,jq w s sz L∧(0≤n∧(s.len:Int)+n≤4294967296)∧
 ∀w' s',ju s.own w w'→jq w' s' sz (L++kR n.toNat zs)→s'.len=s.len+n.toNat→(∀k,s'.own k→s.own k∨w.heap.size≤k)→K s' w'
abbrev mk(zs:List Lf)(len cap:Int)(K:Sl→WP):WP:=λw=>(0≤len∧len≤cap∧cap≤4294967296)∧
 ∀w',ju C6 w w'→Bu w' w.heap.size (kR cap.toNat zs)→w'.heap.size=w.heap.size+1→K ⟨some ⟨w.heap.size,0⟩,len.toNat,cap.toNat⟩ w'
abbrev D9(s:Sl)(lo hi mx:Option Int)(sz:Nat)(K:Sl→WP):WP:=λw=>(s.vP=false∧(s.cap≠0→s.p≠none))∧∃l h m:Nat,wW lo 0 l∧wW hi s.len h∧wW mx s.cap m∧(l≤h∧h≤m∧m≤s.cap)∧K (s.sub l h m sz) w
abbrev Za(zs:List Lf)(s:Sl)(A:WP):WP:=λw=>((s.p=none∨s.len=0)∧A w)∨∃q C,s.p=some q∧s.len≠0∧Bu w q.b C∧q.o+s.len*zs.length≤C.length∧
 ∀w',ju (Er q.b) w w'→Bu w' q.b (fa C q.o (kR s.len zs))→w'.heap.size=w.heap.size→A w'
abbrev Ya(cs:List CK)(ls:List Lf)(i:Int)(n sz:Nat)(K:Ks.T cs→WP):WP:=λw=>(0≤i∧i<n)∧∃x,Ks.mk cs x=(ls.drop (i.toNat*sz)).take sz∧K x w
abbrev aat(s:ByteArray)(lo hi:Option Int)(K:ByteArray→WP):WP:=λw=>∃l h:Nat,wW lo 0 l∧wW hi s.size h∧(l≤h∧h≤s.size)∧K (s.extract l h) w
def XB(l:List UInt8):List Lf:=l.map λb=>.int .u8 b.toNat
abbrev Gh(s:Sl)(K:ByteArray→WP):WP:=λw=>∃l:List UInt8,pA w s 1 (XB l)∧s.len=l.length∧K ⟨l.toArray⟩ w
abbrev TE(s:ByteArray)(i:Int)(K:Int→WP):WP:=λw=>∃b:UInt8,(0≤i∧s[i.toNat]?=some b)∧K b.toNat w
def Bv(w:World)(r:Nat)(k:IntKind)(cs:Ks)(m:List (Int×Ks.T cs)):Prop:=
 ∃(es:Array MapEntry) (c:Nat),w.heap[r]?=some (.map es c)∧es.toList.map (λe=>(e.key,e.val))=m.map λx=>(Value.int k x.1,Value.agg ((Ks.mk cs x.2).map Lf.enc).toArray)
def getM{α:Type}:List (Int×α)→Int→Option α
 |[],_=>none
 |y::m,k=>if y.1=k then some y.2 else getM m k
def Fq{α:Type}:List (Int×α)→Int→α→List (Int×α)
 |[],k,x=>[(k,x)]
 |y::m,k,x=>if y.1=k then(k,x)::m else y::Fq m k x
abbrev mkm(K:Nat→WP):WP:=λw=>∀w',ju C6 w w'→w'.heap[w.heap.size]?=some (.map #[] 0)→w'.heap.size=w.heap.size+1→K w.heap.size w'
abbrev mlk(r:Nat)(kk:IntKind)(k:Int)(cs:Ks)(z:List Lf)(K:Ks.T cs×Bool→WP):WP:=λw=>∃m,Bv w r kk cs m∧((∃x,getM m k=some x∧K (x,true) w)∨(getM m k=none∧∃x,Ks.mk cs x=z∧K (x,false) w))
abbrev mup(r:Nat)(kk:IntKind)(k:Int)(cs:Ks)(ls:List Lf)(A:WP):WP:=λw=>∃m x,Bv w r kk cs m∧ls=Ks.mk cs x∧∀w',ju (Er r) w w'→Bv w' r kk cs (Fq m k x)→w'.heap.size=w.heap.size→A w'
abbrev cw(p:Pt)(ls:List Lf)(A:WP):WP:=λw=>Reads w p.b p.o ls∧A w
abbrev both(A B:WP):WP:=λw=>A w∧B w
abbrev bQ(A:WP):WP:=λw=>∀w',ju C6 w w'→w'.heap.size=w.heap.size→A w'
def JW(P:Program)(f:FuncId):Bool:=match P.funcs[f]? with
 | some fn => fn.name != "runtime.NumGoroutine" && fn.body.isSome
 |none=>false
def yL(P:Program)(f:FuncId)(args:List Value)(w:World)(R:Value→World→Prop):Prop:=
 JW P f=true∧CallsIn Fence.wide 0 P f args.toArray w λe w'=>∃v,e=.returned v∧R v w'
inductive ky(P:Program)(f:FuncId)(args:List Value)(w:World)(R:Value→World→Prop):Prop
 |enters (h:yL P f args w R):ky P f args w R
 |af (v:Value) (w':World) (h:(callFunc f args.toArray).run P w=.ok (.value v) w') (hR:R v w'):ky P f args w R
def u_(P:Program)(f:Fv)(args:List Value)(w:World)(R:Value→World→Prop):Prop:=
 match f with
 |.mk (.func g) first captured=>yL P g (first++args++captured) w R
 |.mk (.yield l) [] _=>∃fn tmps assign body,(Instr.yield l args.toArray).run P w=.ok (.round l fn tmps assign body) w∧
   RoundIn Fence.wide 0 P l fn tmps assign body w λe w'=>∃v,e=.returned v∧R v w'
 |_=>False
def rG(P:Program)(f:Fv)(args:List Value)(w:World)(R:Value→World→Prop):Prop:=
 match f with
 |.mk (.func g) first captured=>yL P g (first++args++captured) w R
 |_=>False
theorem yL.mono{P:Program}{f:FuncId}{args:List Value}{w:World}{R R':Value→World→Prop}(h:yL P f args w R)(hr:∀v w',R v w'→R' v w'):yL P f args w R':=
 ⟨h.1,h.2.mono λ_ w' ⟨v,hv,r⟩=>⟨v,hv,hr v w' r⟩⟩
theorem ky.mono{P:Program}{f:FuncId}{args:List Value}{w:World}{R R':Value→World→Prop}(h:ky P f args w R)(hr:∀v w',R v w'→R' v w'):ky P f args w R':=
 match h with
 |.enters h=>.enters (h.mono hr)
 |.af v w' h1 h2=>.af v w' h1 (hr _ _ h2)
theorem ky.e{P:Program}{f:FuncId}{args:List Value}{w:World}{R:Value→World→Prop}(h:ky P f args w R)(he:JW P f=true):yL P f args w R:=by
 rcases h with h|⟨v,w',h1,_⟩
 ·exact h
 unfold JW at he;unfold callFunc at h1;simp only[cA,xA,dH]at h1;split at he
 ·rename_i fn hf;simp only[ej,bne_iff_ne,ne_eq]at he;have hb:fn.body.isNone=false:=by cases hh:fn.body<;>simp[hh]at he⊢
  simp[hf,he.1,hb]at h1
 ·cases he
theorem u_.mono{P:Program}{f:Fv}{args:List Value}{w:World}{R R':Value→World→Prop}(h:u_ P f args w R)(hr:∀v w',R v w'→R' v w'):u_ P f args w R':=by
 unfold u_ at*
 split at h
 ·exact h.mono hr
 ·obtain⟨fn,tmps,as,body,h1,h2⟩:=h;exact⟨fn,tmps,as,body,h1,h2.mono λ_ w' ⟨v,hv,r⟩=>⟨v,hv,hr v w' r⟩⟩
 ·exact h.elim
theorem rG.mono{P:Program}{f:Fv}{args:List Value}{w:World}{R R':Value→World→Prop}(h:rG P f args w R)(hr:∀v w',R v w'→R' v w'):rG P f args w R':=by
 unfold rG at*
 split at h
 ·exact h.mono hr
 ·exact h.elim
abbrev call(P:Program)(f:FuncId)(args:List V1)(rs:List Sh)(K:Rs.T rs→WP):WP:=λw=>
 ky P f (args.map V1.enc) w λv w'=>∃x,v=(nb (Rs.mk rs x)).enc∧mg w w'∧K x w'
abbrev xT(P:Program)(f:Fv)(args:List V1)(rs:List Sh)(K:Rs.T rs→WP):WP:=λw=>
 u_ P f (args.map V1.enc) w λv w'=>∃x,v=(nb (Rs.mk rs x)).enc∧mg w w'∧K x w'
abbrev loop(cs:List CK)(x₀:Ks.T cs)(B:(Ks.T cs→WP)→Ks.T cs→WP):WP:=λw=>
 ∃(I:Ks.T cs→WP) (μ:Ks.T cs→World→Nat),I x₀ w∧∀x w,I x w→B (λy w'=>I y w'∧μ y w'<μ x w) x w
abbrev join(cs:List CK)(A:(Ks.T cs→WP)→WP)(K:Ks.T cs→WP):WP:=λw=>
 ∃J:Ks.T cs→WP,(∀x w',J x w'→K x w')∧A J w
end Go.X

namespace Go.X
def qZ(P:Program)(t:TypeId):Option CK:=
 match P.underlying t with
 |some .bool=>some .bool
 |some (.int k)=>some (.int k)
 |some (.pointer _)=>some .ptr
 |some (.slice _)=>some .sl
 |some .string=>some .str
 |some (.func _ _ _)=>some .fn
 |some (.interface _)=>some .Py
 |_=>none
def kinds(P:Program):Nat→TypeId→Option (List CK)
 |0,_=>none
 |d+1,t=>
  match P.underlying t with
  |some (.struct fs)=>fs.toList.foldr (λf acc=>match kinds P d f.type,acc with|some a,some b=>some (a++b)|_,_=>none) (some [])
  |some (.array n e)=>match kinds P d e with|some ks=>some (List.replicate n ks).flatten|none=>none
  |_=>match qZ P t with|some c=>some [c]|none=>none
def fK(P:Program)(t:TypeId):Bool:=
 match P.underlying t with
 |some (.struct _)=>true
 |some (.array _ _)=>true
 |_=>false
def OP(P:Program)(t:TypeId):Option Sh:=
 if fK P t then(match kinds P 8 t with|some ks=>if ks.length=P.cellsOf t then some (.agg ks)else none|none=>none)
 else(match qZ P t with|some c=>some (.lf c)|none=>none)
def qD{α:Type}:List (Option α)→Option (List α)
 |[]=>some []
 |none::_=>none
 |some x::r=>match qD r with|some xs=>some (x::xs)|none=>none
def RV(P:Program)(t:TypeId):Option (List Sh):=
 match P.underlying t with
 |some (.tuple ts)=>qD (ts.toList.map (OP P))
 |_=>match OP P t with|some s=>some [s]|none=>none
def zx:Value→Option Lf
 |.int k n=>some (.int k n)
 |.bool b=>some (.bool b)
 |.pointer none=>some (.ptr none)
 |.slice none 0 0=>some (.sl ⟨none,0,0⟩)
 |.string s=>some (.str s)
 |.nilFunc=>some (.fn .nil)
 |.nilIface=>some .SI
 |_=>none
def uh:Value→Option V1
 |.agg cs=>match qD (cs.toList.map zx)with|some ls=>some (.agg ls)|none=>none
 |v=>match zx v with|some l=>some (.lf l)|none=>none
def me(P:Program)(t:TypeId):Option (List Lf):=
 match P.info? t with
 |some i=>match i.zero with
  |some z=>match uh z with|some v=>some v.J8|none=>none
  |none=>none
 |none=>none
inductive Jm where
 |un
 |val (v:TV)
 |gv (j:Nat) (want:Bool) (v:TV)
abbrev Env:=List Jm
def Env.get:Env→Nat→Jm
 |[],_=>.un
 |x::_,0=>x
 |_::e,n+1=>Env.get e n
def Env.set:Env→Nat→Jm→Env
 |[],_,_=>[]
 |_::e,0,y=>y::e
 |x::e,n+1,y=>x::Env.set e n y
def Fm(d:Nat):Jm→Jm
 |.gv j w v=>match Nat.beq j d with|true=>.un|false=>.gv j w v
 |x=>x
def Env.put(e:Env)(d:Option Nat)(x:Jm):Env:=
 match d with
 |none=>e
 |some d=>Env.set (e.map (Fm d)) d x
def DS:TV:=.O2 []
abbrev F8:=List (Nat×Bool)
def EU(j:Nat)(w:Bool):F8→Bool
 |[]=>false
 |(i,v)::c=>match Nat.beq i j with
  |true=>(match v,w with|true,true=>true|false,false=>true|_,_=>EU j w c)
  |false=>EU j w c
def EC(e:Env):Nat→Nat→F8
 |0,_=>[]
 |n+1,j=>match e.get j with
  |.gv i w _=>(i,w)::EC e n i
  |_=>[]
def ow(e:Env)(c:F8):Operand→Option TV
 |.tmp t=>match e.get t with
  |.val v=>some v
  |.gv j w v=>match EU j w c with|true=>some v|false=>none
  |.un=>none
 |.const v=>match uh v with|some x=>some (.one x)|none=>none
 |.func f=>some (.one (.lf (.fn (.mk (.func f) [] []))))
 |.global _=>none
def MB(e:Env)(c:F8):List Operand→Option (List V1)
 |[]=>some []
 |x::r=>match ow e c x with
  |some (.one v)=>(match MB e c r with|some vs=>some (v::vs)|none=>none)
  |_=>none
def VX(a b:IntKind):Bool:=match a,b with
 |.i8,.i8=>true|.i16,.i16=>true|.i32,.i32=>true|.i64,.i64=>true
 |.u8,.u8=>true|.u16,.u16=>true|.u32,.u32=>true|.u64,.u64=>true
 |_,_=>false
def zc(ls:List Lf)(off n:Nat):List Lf:=(ls.drop off).take n
def JZ(P:Program)(rec:TypeId→List Lf→List Lf→Option Bool)(xs ys:List Lf):List Field→Option Bool
 |[]=>some true
 | f :: r => match f.name == "_" with
  |true=>JZ P rec xs ys r
  |false=>match rec f.type (zc xs f.offset (P.cellsOf f.type)) (zc ys f.offset (P.cellsOf f.type)),r with
   |some a,[]=>some a
   |some a,g::r=>(match JZ P rec xs ys (g::r)with|some b=>some (a&&b)|none=>none)
   |none,_=>none
def JY(rec:List Lf→List Lf→Option Bool)(sz:Nat)(xs ys:List Lf):Nat→Nat→Option Bool
 |0,_=>some true
 |m+1,i=>match rec (zc xs (i*sz) sz) (zc ys (i*sz) sz),m with
  |some a,0=>some a
  |some a,k+1=>(match JY rec sz xs ys (k+1) (i+1)with|some b=>some (a&&b)|none=>none)
  |none,_=>none
def W7(P:Program):Nat→TypeId→List Lf→List Lf→Option Bool
 |0,_,_,_=>none
 |d+1,t,xs,ys=>
  match P.underlying t with
  |some .bool=>(match xs,ys with|[.bool a],[.bool b]=>some (a==b)|_,_=>none)
  |some (.int _)=>(match xs,ys with|[.int k a],[.int k' b]=>(match VX k k' with|true=>some (a==b)|false=>none)|_,_=>none)
  |some .string=>(match xs,ys with|[.str a],[.str b]=>some (a.toList==b.toList)|_,_=>none)
  |some (.struct fs)=>(match P.stoodInHeld t with|true=>none|false=>JZ P (λu=>W7 P d u) xs ys fs.toList)
  |some (.array n e)=>(match n with|0=>none|n+1=>JY (W7 P d e) (P.cellsOf e) xs ys (n+1) 0)
  |_=>none
def GM:Fv→Bool
 |.nil=>true
 |_=>false
def oX(b:Bool):Option TV:=some (.one (.lf (.bool b)))
def sa(k:IntKind)(n:Int):Option TV:=some (.one (.lf (.int k n)))
def TF(op:BinOp)(k:IntKind)(a b:Int):Option TV:=
 match op with
 |.add=>sa k (k.wrap (a+b))
 |.sub=>sa k (k.wrap (a-b))
 |.mul=>sa k (k.wrap (a*b))
 |.and=>sa k (k.wrap (BitVec.ofInt k.bits a&&&BitVec.ofInt k.bits b).toNat)
 |.or=>sa k (k.wrap (BitVec.ofInt k.bits a|||BitVec.ofInt k.bits b).toNat)
 |.xor=>sa k (k.wrap (BitVec.ofInt k.bits a^^^BitVec.ofInt k.bits b).toNat)
 |.eql=>oX (a==b)
 |.neq=>oX (a !=b)
 |.lss=>oX (a<b)
 |.leq=>oX (a≤b)
 |.gtr=>oX (a>b)
 |.geq=>oX (a≥b)
 |_=>none
def isEq:BinOp→Option Bool
 |.eql=>some true
 |.neq=>some false
 |_=>none
def xb(eq:Bool)(b:Bool):Option TV:=match eq with|true=>oX b|false=>oX (!b)
def eqV(P:Program)(eq:Bool)(t:TypeId):V1→V1→Option TV
 |.lf (.bool a),.lf (.bool b)=>(match P.underlying t with|some .bool=>xb eq (a==b)|_=>none)
 |.lf (.str a),.lf (.str b)=>xb eq (a.toList==b.toList)
 |.lf (.ptr p),.lf (.ptr none)=>(match P.underlying t with|some (.pointer _)=>xb eq p.isNone|_=>none)
 |.lf (.sl s),.lf (.sl ⟨none,0,0⟩)=>(match P.underlying t with|some (.slice _)=>xb eq s.isNil|_=>none)
 |.lf (.fn f),.lf (.fn .nil)=>(match P.underlying t with|some (.func _ _ _)=>xb eq (GM f)|_=>none)
 |.agg xs,.agg ys=>(match fK P t&&!P.eqGuardType P.depth t with
  |true=>(match W7 P 8 t xs ys with|some b=>xb eq b|none=>none)
  |false=>none)
 |_,_=>none
def TG(P:Program)(op:BinOp)(t:TypeId)(x y:V1):Option TV:=
 match x,y with
 |.lf (.int k a),.lf (.int k' b)=>(match VX k k' with|true=>TF op k a b|false=>none)
 |x,y=>match isEq op with
  |some eq=>eqV P eq t x y
  |none=>none
def unV(op:UnOp):V1→Option TV
 |.lf (.bool b)=>(match op with|.not=>oX (!b)|_=>none)
 |.lf (.int k n)=>(match op with|.neg=>sa k (k.wrap (0-n))|_=>none)
 |_=>none
def vt(P:Program)(t:TypeId)(i:Nat):Option Field:=
 match P.underlying t with
 |some (.struct fs)=>fs[i]?
 |_=>none
def vR(P:Program)(t:TypeId)(ls:List Lf)(off:Nat):Option V1:=
 match fK P t with
 |true=>some (.agg ((ls.drop off).take (P.cellsOf t)))
 |false=>match ls[off]? with|some l=>some (.lf l)|none=>none
def aan:V1→Option Int
 |.lf (.sl s)=>some s.len
 |.lf (.str s)=>some s.size
 |_=>none
def zj(place:Nat→Option (Nat×Nat))(ls:List Lf):List (Nat×V1)→Option (List Lf)
 |[]=>some ls
 |(i,v)::r=>match place i with
  |none=>none
  |some (off,size)=>match Nat.beq v.J8.length size&&Nat.ble (off+v.J8.length) ls.length with
   |true=>zj place (fa ls off v.J8) r
   |false=>none
def sT(e:Env)(c:F8):List (Nat×Operand)→Option (List (Nat×V1))
 |[]=>some []
 |(i,x)::r=>match ow e c x with
  |some (.one v)=>(match sT e c r with|some vs=>some ((i,v)::vs)|none=>none)
  |_=>none
def zT(P:Program)(fs:Array Field)(i:Nat):Option (Nat×Nat):=match fs[i]? with
 |some f=>some (f.offset,P.cellsOf f.type)
 |none=>none
def placeOf(P:Program)(t:TypeId):Nat→Option (Nat×Nat):=
 match P.underlying t with
 |some (.struct fs)=>zT P fs
 |some (.array _ e)=>λi=>some (i*P.cellsOf e,P.cellsOf e)
 |_=>λ_=>none
def GK(P:Program)(t:TypeId):Bool:=
 match P.underlying t with
 |some (.struct fs)=>fs.toList.all λf=>(P.info? f.type).isSome
 |some (.array _ e)=>(P.info? e).isSome
 |_=>false
def mI(mx:Bool)(k:IntKind):Int→List V1→Option TV
 |a,[]=>sa k a
 |a,.lf (.int k' b)::r=>(match VX k k' with
  |true=>(match mx with|true=>mI mx k (if b>a then b else a) r|false=>mI mx k (if b<a then b else a) r)
  |false=>none)
 |_,_=>none
def y5(b:Builtin)(vs:List V1):Option TV:=
 match b,vs with
 |.len,[v]=>(match aan v with|some n=>sa .i64 n|none=>none)
 |.cap,[.lf (.sl s)]=>sa .i64 s.cp
 |.max,.lf (.int k a)::r=>mI true k a r
 |.min,.lf (.int k a)::r=>mI false k a r
 |_,_=>none
def sR(P:Program)(b:Builtin)(ts:Array TypeId)(vs:List V1):Bool:=
 match b with
 |.len|.cap=>(match ts[0]?,vs with
  |some t,[.lf (.sl _)]=>(match P.underlying t with|some (.slice _)=>true|_=>false)
  |some t,[.lf (.str _)]=>(match P.underlying t with|some .string=>true|_=>false)
  |_,_=>false)
 |_=>true
def DN:Operand→Nat
 |.tmp t=>t
 |_=>0
def IA:Operand→Bool
 |.tmp _=>true
 |_=>false
def K3:Option V1→Option TV
 |some v=>some (.one v)
 |none=>none
def x7(P:Program)(e:Env)(c:F8)(o:Oper):Option TV:=
  match o.op with
  |.move x=>ow e c x
  |.assign x=>ow e c x
  |.pick cn x y=>(match ow e c cn with
    |some (.one (.lf (.bool b)))=>
      (match ow e (match IA cn with|true=>(DN cn,true)::c|false=>c) x,ow e (match IA cn with|true=>(DN cn,false)::c|false=>c) y with
       |some (.one (.lf (.bool p))),some (.one (.lf (.bool q)))=>oX (cond b p q)
       |vx,vy=>match b with|true=>vx|false=>vy)
    |_=>none)
  |.build t ps=>(match me P t,sT e c ps.toList with
    |some z,some vs=>(match GK P t with|true=>(match zj (placeOf P t) z vs with|some ls=>some (.one (.agg ls))|none=>none)|false=>none)
    |_,_=>none)
  |.binOp op t x y _=>(match ow e c x,ow e c y with
    |some (.one a),some (.one b)=>TG P op t a b
    |_,_=>none)
  |.unOp op _ x=>(match ow e c x with|some (.one a)=>unV op a|_=>none)
  |.convert src dst x=>(match ow e c x with
    |some (.one (.lf (.int _ n)))=>(match P.underlying src,P.underlying dst with
      |some (.int _),some (.int k)=>sa k (k.wrap n)
      |_,_=>none)
    |_=>none)
  |.makeFunc fn first cap=>(match MB e c first.toList,MB e c cap.toList with
    |some a,some b=>some (.one (.lf (.fn (.mk fn (a.map V1.enc) (b.map V1.enc)))))
    |_,_=>none)
  |.fieldAddr t x i=>(match ow e c x,vt P t i with
    |some (.one (.lf (.ptr (some p)))),some f=>(match Nat.beq (P.cellsOf f.type) 0 with
      |true=>none
      |false=>some (.one (.lf (.ptr (some ⟨p.b,p.o+f.offset⟩)))))
    |_,_=>none)
  |.field t x i=>(match ow e c x,vt P t i with
    |some (.one (.agg ls)),some f=>(match(P.underlying f.type).isSome with|true=>K3 (vR P f.type ls f.offset)|false=>none)
    |_,_=>none)
  |.index t x (.const (.int _ n))=>(match ow e c x,P.underlying t with
    |some (.one (.agg ls)),some (.array len el)=>(match decide (0≤n∧n<(len:Int)),(P.underlying el).isSome with
      |true,true=>K3 (vR P el ls (n.toNat*P.cellsOf el))
      |_,_=>none)
    |_,_=>none)
  |.extract x i=>(match ow e c x with
    |some (.O2 vs)=>K3 vs[i]?
    |_=>none)
  |.call cl=>(match cl.callee with
    |.builtin b=>(match MB e c cl.args.toList with|some vs=>(match sR P b cl.argTypes vs with|true=>y5 b vs|false=>none)|none=>none)
    |_=>none)
  |_=>none
def SN(P:Program)(t:TypeId)(p:Pt)(K:TV→WP):WP:=
 match OP P t with
 |some (.lf c)=>ld [c] p λx=>K (.one (.lf (c.mk x)))
 |some (.agg cs)=>ld cs p λx=>K (.one (.agg (Ks.mk cs x)))
 |none=>gX
def mO:Operand→Bool
 |.const (.int _ n)=>match decide (n=0)with|true=>false|false=>true
 |_=>false
def CG(op:BinOp)(y:Operand)(k:IntKind)(a b:Int)(K:TV→WP):WP:=
 match op with
 |.quo=>(match mO y with|true=>K (.one (.lf (.int k (k.wrap (a.tdiv b)))))|false=>dM (b≠0) (K (.one (.lf (.int k (k.wrap (a.tdiv b)))))))
 |.rem=>(match mO y with|true=>K (.one (.lf (.int k (a.tmod b))))|false=>dM (b≠0) (K (.one (.lf (.int k (a.tmod b))))))
 |.shl=>dM (0≤b) (K (.one (.lf (.int k (k.wrap (a*2^min b.toNat k.bits))))))
 |.shr=>dM (0≤b) (K (.one (.lf (.int k (a.fdiv (2^min b.toNat k.bits))))))
 |_=>gX
def Wi(P:Program)(f:FuncId)(args:List V1)(t:TypeId)(K:TV→WP):WP:=
 match RV P t with
 |some rs=>call P f args rs λx=>K (nb (Rs.mk rs x))
 |none=>gX
def Oj(P:Program)(f:Fv)(args:List V1)(t:TypeId)(K:TV→WP):WP:=
 match RV P t with
 |some rs=>xT P f args rs λx=>K (nb (Rs.mk rs x))
 |none=>gX
def vk(P:Program)(t:TypeId):Option TypeId:=
 match P.underlying t with
 |some (.slice e)=>some e
 |_=>none
def Ty(P:Program)(t:TypeId):Option (Nat×TypeId):=
 match P.underlying t with
 |some (.array n e)=>some (n,e)
 |_=>none
def X9(P:Program)(t:TypeId):Option Unit:=
 match P.underlying t with
 |some (.int _)=>some ()
 |_=>none
def Yw(P:Program)(t:TypeId):Bool:=
 match P.underlying t with
 |some (.struct fs)=>(match fs[0]? with|some f=>(match P.underlying f.type with|some (.pointer u)=>Nat.beq u t|_=>false)|none=>false)
 |_=>false
def R5(P:Program)(t:TypeId):Bool:=
 match P.underlying t with
 |some .string=>true
 |_=>false
def Gk(P:Program)(t:TypeId):Bool:=
 match P.underlying t with
 |some (.slice e)=>(match P.underlying e with|some (.int .u8)=>true|_=>false)
 |_=>false
def Kf(P:Program)(t:TypeId):Option (IntKind×Ks×List Lf):=
 match P.underlying t with
 |some (.map kt et)=>(match P.underlying kt,OP P et,P.info? et with
  |some (.int k),some (.agg cs),some i=>(match i.zero with
   |some (.agg zs)=>(match qD (zs.toList.map zx)with|some z=>some (k,cs,z)|none=>none)
   |_=>none)
  |_,_,_=>none)
 |_=>none
def Fc(e:Env)(c:F8):Option Operand→Option (Option Int)
 |none=>some none
 |some x=>match ow e c x with
  |some (.one (.lf (.int _ n)))=>some (some n)
  |_=>none
def Fb(P:Program)(e:Env)(c:F8)(o:Oper)(K:TV→WP):WP:=
 match x7 P e c o with
 |some v=>K v
 |none=>
  match o.op with
  |.alloc t=>(match me P t with
   |some ls=>(match Yw P t with
    |true=>Rf t ls λb=>K (.one (.lf (.ptr (some ⟨b,0⟩))))
    |false=>new ls λb=>K (.one (.lf (.ptr (some ⟨b,0⟩)))))
   |none=>gX)
  |.box _ x=>(match ow e c x with
   |some (.one v)=>new v.J8 λb=>K (.one (.lf (.ptr (some ⟨b,0⟩))))
   |_=>gX)
  |.buildSlice t n ps=>(match vk P t with
   |some el=>(match me P el,sT e c ps.toList with
    |some z,some vs=>(match Nat.beq z.length (P.cellsOf el)&&Nat.ble (n*P.cellsOf el) 16777216&&!Nat.beq (P.cellsOf el) 0,zj (λi=>some (i*P.cellsOf el,P.cellsOf el)) (List.replicate n z).flatten vs with
     |true,some ls=>new ls λb=>K (.one (.lf (.sl ⟨some ⟨b,0⟩,n,n⟩)))
     |_,_=>gX)
    |_,_=>gX)
   |none=>gX)
  |.load t a=>(match ow e c a with
   |some (.one (.lf (.ptr (some p))))=>SN P t p K
   |_=>gX)
  |.store t a x=>(match ow e c a,ow e c x with
   |some (.one (.lf (.ptr (some p)))),some (.one v)=>(match Nat.beq v.J8.length (P.cellsOf t)&&!Nat.beq (P.cellsOf t) 0 with
    |true=>st p v.J8 (K DS)
    |false=>gX)
   |_,_=>gX)
  |.nilCheck x=>(match ow e c x with
   |some (.one (.lf (.ptr p)))=>az p λq=>K (.one (.lf (.ptr (some q))))
   |some (.one (.lf (.fn f)))=>VP f (K (.one (.lf (.fn f))))
   |_=>gX)
  |.binOp op _ x y _=>(match ow e c x,ow e c y with
   |some (.one (.lf (.int k a))),some (.one (.lf (.int k' b)))=>(match op with
    |.shl=>CG op y k a b K
    |.shr=>CG op y k a b K
    |_=>match VX k k' with|true=>CG op y k a b K|false=>gX)
   |some (.one (.lf (.str a))),some (.one (.lf (.str b)))=>(match op with
    |.add=>dM (((a.size+b.size:Nat):Int)≤IntKind.i64.max) (K (.one (.lf (.str (a++b)))))
    |_=>gX)
   |_,_=>gX)
  |.indexAddr t x i=>(match ow e c x,ow e c i with
   |some (.one (.lf (.sl s))),some (.one (.lf (.int _ n)))=>(match vk P t with
    |some el=>(match(P.underlying el).isSome with
     |true=>idx s n (P.cellsOf el) λq=>K (.one (.lf (.ptr (some q))))
     |false=>gX)
    |none=>gX)
   |some (.one (.lf (.ptr (some p)))),some (.one (.lf (.int _ n)))=>(match P.underlying t with
    |some (.array len el)=>(match(P.underlying el).isSome with
     |true=>dM (0≤n∧n<len) (K (.one (.lf (.ptr (some ⟨p.b,p.o+n.toNat*P.cellsOf el⟩)))))
     |false=>gX)
    |_=>gX)
   |_,_=>gX)
  |.makeSlice t l cp=>(match vk P t,ow e c l,ow e c cp with
   |some el,some (.one (.lf (.int _ n))),some (.one (.lf (.int _ m)))=>(match me P el with
    |some z=>(match Nat.beq z.length (P.cellsOf el)&&!Nat.beq (P.cellsOf el) 0&&Nat.ble (P.bytesOf el) 4096 with
     |true=>mk z n m λs=>K (.one (.lf (.sl s)))
     |false=>gX)
    |none=>gX)
   |_,_,_=>gX)
  |.slice t x lo hi mx=>(match Ty P t with
   |some (n,el)=>(match ow e c x,Fc e c lo,Fc e c hi,Fc e c mx with
    |some (.one (.lf (.ptr (some p)))),some l,some h,some m=>(match !Nat.beq (P.cellsOf el) 0&&(!m.isSome||h.isSome)with
     |true=>D9 ⟨some p,n,n⟩ l h m (P.cellsOf el) λs=>K (.one (.lf (.sl s)))
     |false=>gX)
    |_,_,_,_=>gX)
   |none=>match vk P t,ow e c x,Fc e c lo,Fc e c hi,Fc e c mx with
   |some el,some (.one (.lf (.sl s))),some l,some h,some m=>(match !Nat.beq (P.cellsOf el) 0&&(!m.isSome||h.isSome)with
    |true=>D9 s l h m (P.cellsOf el) λs=>K (.one (.lf (.sl s)))
    |false=>gX)
   |none,some (.one (.lf (.str s))),some l,some h,some none=>(match R5 P t with
    |true=>aat s l h λs=>K (.one (.lf (.str s)))
    |false=>gX)
   |_,_,_,_,_=>gX)
  |.convert src dst x=>(match ow e c x,Gk P src&&R5 P dst with
   |some (.one (.lf (.sl s))),true=>Gh s λb=>K (.one (.lf (.str b)))
   |_,_=>gX)
  |.index t x i=>(match ow e c x,ow e c i,P.underlying t with
   |some (.one (.agg ls)),some (.one (.lf (.int _ n))),some (.array len el)=>(match OP P el with
    |some (.lf k)=>Ya [k] ls n len (P.cellsOf el) λx=>K (.one (.lf (k.mk x)))
    |some (.agg ks)=>Ya ks ls n len (P.cellsOf el) λx=>K (.one (.agg (Ks.mk ks x)))
    |none=>gX)
   |some (.one (.lf (.str s))),some (.one (.lf (.int _ n))),some .string=>TE s n λx=>K (.one (.lf (.int .u8 x)))
   |_,_,_=>gX)
  |.makeMap _ none=>mkm λr=>K (.one (.lf (.mp r)))
  |.lookup t x i true=>(match ow e c x,ow e c i,Kf P t with
   |some (.one (.lf (.mp r))),some (.one (.lf (.int kk k))),some (k',cs,z)=>(match VX kk k' with
    |true=>mlk r kk k cs z λy=>K (.O2 [.agg (Ks.mk cs y.1),.lf (.bool y.2)])
    |false=>gX)
   |_,_,_=>gX)
  |.mapUpdate t x i v=>(match ow e c x,ow e c i,ow e c v,Kf P t with
   |some (.one (.lf (.mp r))),some (.one (.lf (.int kk k))),some (.one (.agg ls)),some (k',cs,_)=>(match VX kk k' with
    |true=>mup r kk k cs ls (K DS)
    |false=>gX)
   |_,_,_,_=>gX)
  |.call cl=>(match cl.callee with
   |.builtin .append=>(match MB e c cl.args.toList,(cl.argTypes[0]?).bind (vk P),(cl.argTypes[1]?).bind (vk P)with
    |some [.lf (.sl s),.lf (.sl x)],some el,some _=>(match me P el with
     |some z=>(match Nat.beq z.length (P.cellsOf el)&&!Nat.beq (P.cellsOf el) 0&&Nat.ble (P.bytesOf el) 2048&&!Nat.beq (P.bytesOf el) 0 with
      |true=>mi (P.cellsOf el) s x λs=>K (.one (.lf (.sl s)))
      |false=>gX)
     |none=>gX)
    |some [.lf (.sl s),.lf (.int _ n)],some el,none=>(match me P el,(cl.argTypes[1]?).bind (X9 P)with
     |some z,some ()=>(match Nat.beq z.length (P.cellsOf el)&&!Nat.beq (P.cellsOf el) 0&&Nat.ble (P.bytesOf el) 2048&&!Nat.beq (P.bytesOf el) 0 with
      |true=>PL z (P.cellsOf el) s n λs=>K (.one (.lf (.sl s)))
      |false=>gX)
     |_,_=>gX)
    |_,_,_=>gX)
   |.builtin .clear=>(match MB e c cl.args.toList,(cl.argTypes[0]?).bind (vk P)with
    |some [.lf (.sl s)],some el=>(match me P el with
     |some z=>(match Nat.ble 1 z.length with|true=>Za z s (K DS)|false=>gX)
     |none=>gX)
    |_,_=>gX)
   |.value (.func f)=>(match MB e c cl.args.toList with|some vs=>Wi P f vs o.type K|none=>gX)
   |.value x=>(match ow e c x,MB e c cl.args.toList with
    |some (.one (.lf (.fn f))),some vs=>Oj P f vs o.type K
    |_,_=>gX)
   |_=>gX)
  |_=>gX
def SY(op:Op):Bool:=
 match op with
 |.move _=>true
 |.assign _=>true
 |.pick _ _ _=>true
 |.build _ _=>true
 |.binOp b _ _ _ _=>(match b with|.quo=>false|.rem=>false|.shl=>false|.shr=>false|_=>true)
 |.unOp _ _ _=>true
 |.convert _ _ _=>true
 |.makeFunc _ _ _=>true
 |.fieldAddr _ _ _=>true
 |.field _ _ _=>true
 |.extract _ _=>true
 |.index _ _ (.const _)=>true
 |.call cl=>(match cl.callee with
  |.builtin b=>(match b with|.len=>true|.cap=>true|.max=>true|.min=>true|_=>false)
  |_=>false)
 |_=>false
def Iv(j:Nat)(o:Oper):Bool:=match o.guard with
 |some (i,_)=>Nat.beq i j
 |none=>false
def anyI(f:Oper→Nat→Bool):List Oper→Nat→Bool
 |[],_=>false
 |o::r,i=>f o i||anyI f r (i+1)
def parts(all:List Oper):Nat→Nat→Bool
 |0,_=>false
 |n+1,j=>anyI (λo i=>Iv j o&&(!SY o.op||parts all n i)) all 0
def G4(e:Env)(o:Oper)(v:TV):Env:=e.put o.dst (.val v)
def zG(p:Bool)(e:Env)(o:Oper)(k:Env→WP)(v:TV):WP:=
 match p with
 |true=>(match o.dst,v with
  |some d,.one (.lf (.bool b))=>ar b (k (e.put (some d) (.val (.one (.lf (.bool true)))))) (k (e.put (some d) (.val (.one (.lf (.bool false))))))
  |_,_=>gX)
 |false=>k (G4 e o v)
def SJ:Jm→Bool
 |.val (.O2 [])=>true
 |_=>false
def qk(P:Program)(all:List Oper):List Oper→Nat→Env→(Env→WP)→WP
 |[],_,e,K=>K e
 |o::r,i,e,K=>
  match o.guard with
  |none=>Fb P e [] o (zG (parts all 6 i) e o λe=>qk P all r (i+1) e K)
  |some (j,want)=>match(all[j]?).bind (·.dst)with
   |none=>gX
   |some sj=>match parts all 6 j with
    |true=>(match e.get sj with
     |.val (.one (.lf (.bool b)))=>(match b,want with
      |true,true=>Fb P e [] o (zG (parts all 6 i) e o λe=>qk P all r (i+1) e K)
      |false,false=>Fb P e [] o (zG (parts all 6 i) e o λe=>qk P all r (i+1) e K)
      |_,_=>qk P all r (i+1) (G4 e o DS) K)
     |.val (.O2 [])=>qk P all r (i+1) (G4 e o DS) K
     |_=>gX)
    |false=>(match SJ (e.get sj)with
     |true=>qk P all r (i+1) (G4 e o DS) K
     |false=>match x7 P e ((sj,want)::EC e 5 sj) o,o.dst with
     |some v,some d=>(match Nat.beq d sj,e.get sj with
      |false,.val (.one (.lf (.bool _)))=>qk P all r (i+1) (e.put (some d) (.gv sj want v)) K
      |false,.gv _ _ (.one (.lf (.bool _)))=>qk P all r (i+1) (e.put (some d) (.gv sj want v)) K
      |_,_=>gX)
     |_,_=>gX)
inductive DT where
 |aK
 |f (i:Nat) (sl:List Nat) (r:DT)
 |w (i:Nat) (sl:List Nat) (r:DT)
 |wa (i:Nat) (sl:List Nat) (r alt:DT)
def bit(m i:Nat):Bool:=Nat.testBit m i
def rA(m i:Nat):Nat:=m|||(1 <<< i)
def HX(a b:Nat):Bool:=Nat.beq (a&&&b) a
def wR:List Edge→Nat
 |[]=>0
 |e::r=>match Region.binds .any e with|true=>rA (wR r) e.on|false=>wR r
def jg(o:Oper):Nat:=wR o.after.toList
def En(acc:List Nat):List Edge→Nat
 |[]=>0
 |e::r=>match Region.binds .any e with|true=>rA (En acc r) e.on|||(acc[e.on]?).getD 0|false=>En acc r
def PJ:List Oper→List Nat→List Nat
 |[],acc=>acc
 |o::r,acc=>PJ r (acc++[En acc o.after.toList])
def Jx(ops:List Oper)(i:Nat):Nat:=((PJ ops [])[i]?).getD 0
def VW(op:Op):Bool:=match op with
 |.assign _=>false
 |.load _ _=>true
 |.nilCheck _=>true
 |.indexAddr _ _ _=>true
 |.index _ _ _=>true
 |.binOp _ _ _ _ _=>true
 |op=>SY op
def lH(n:Nat):List Nat→Bool
 |[]=>false
 |x::r=>Nat.beq x n||lH n r
def nB(sl:List Nat):Nat→Env→Env
 |_,[]=>[]
 |n,x::e=>(match lH n sl with|true=>x|false=>.un)::nB sl (n+1) e
def qS(e:Env)(d:Option Nat)(v:TV):Env:=match d with|none=>e|some d=>e.set d (.val v)
def Q0(i:Nat)(ai:Nat)(sl:List Nat):List Oper→Nat→Bool
 |[],_=>true
 |o::r,j=>(match o.dst with
  |none=>true
  |some s=>!lH s sl||bit ai j||(bit (jg o) i&&!VW o.op)||(Nat.beq i j&&!VW o.op))&&Q0 i ai sl r (j+1)
def Iw(ops:List Oper)(i:Nat)(o:Oper)(sl:List Nat):Bool:=Q0 i (jg o) sl ops 0
def Nt(ops:List Oper)(i:Nat)(o:Oper)(sl:List Nat)(V:Nat):Bool:=!bit V i&&(HX (jg o) V&&Iw ops i o sl)
def QK(V C:Nat):List Oper→Nat→Bool
 |[],_=>true
 |o::r,j=>(bit V j||bit C j||!HX (jg o) V)&&QK V C r (j+1)
def EP(V:Nat):List Oper→Nat→Bool
 |[],_=>true
 |_::r,j=>bit V j&&EP V r (j+1)
def Iq(d:Nat):List Oper→Bool
 |[]=>false
 |o::r=>(match o.dst with|some s=>Nat.beq s d|none=>false)||Iq d r
def jv:List Oper→Bool
 |[]=>true
 |o::r=>(match o.dst with|some s=>!Iq s r|none=>true)&&jv r
def X7(i:Nat):List Oper→Bool
 |[]=>false
 |o::r=>Iv i o||X7 i r
abbrev D3:=List (Nat×Pt×List Lf)
def Gt:D3→Nat→WP→WP
 |[],_,A=>A
 |(i,p,ls)::r,m,A=>match bit m i with|true=>Gt r m A|false=>cw p ls (Gt r m A)
def Xz(i:Nat)(l:Option (Pt×List Lf))(fb:D3):D3:=match l with|none=>fb|some (p,ls)=>(i,p,ls)::fb
def QW(P:Program)(e:Env)(o:Oper)(K:TV→Option (Pt×List Lf)→WP):WP:=
 match x7 P e [] o with
 |some v=>K v none
 |none=>match o.op with
  |.load t x=>(match ow e [] x with
   |some (.one (.lf (.ptr (some p))))=>(match OP P t with
    |some (.lf c)=>ld [c] p λx=>K (.one (.lf (c.mk x))) (some (p,Ks.mk [c] x))
    |some (.agg cs)=>ld cs p λx=>K (.one (.agg (Ks.mk cs x))) (some (p,Ks.mk cs x))
    |none=>gX)
   |_=>gX)
  |.nilCheck _=>Fb P e [] o λv=>K v none
  |.indexAddr _ _ _=>Fb P e [] o λv=>K v none
  |.index _ _ _=>Fb P e [] o λv=>K v none
  |.binOp _ _ _ _ _=>Fb P e [] o λv=>K v none
  |_=>gX
def TI(g:Bool)(o:Oper)(e:Env)(k:Env→WP)(v:TV):WP:=
 match g with
 |true=>(match v with
  |.one (.lf (.bool b))=>ar b (k (qS e o.dst (.one (.lf (.bool true))))) (k (qS e o.dst (.one (.lf (.bool false)))))
  |_=>k (qS e o.dst v))
 |false=>k (qS e o.dst v)
def uq(ops:List Oper)(o:Oper)(e:Env)(go skip:WP):WP:=
 match o.guard with
 |none=>go
 |some (j,want)=>match(ops[j]?).bind (·.dst)with
  |none=>gX
  |some sj=>match e.get sj with
   |.val (.one (.lf (.bool b)))=>(match b,want with
    |true,true=>go
    |false,false=>go
    |_,_=>skip)
   |.val (.O2 [])=>skip
   |_=>gX
def X_:DT→Bool
 |.w _ _ _=>true
 |.wa _ _ _ _=>true
 |_=>false
def iP(P:Program)(ops:List Oper)(K:Env→WP):DT→Nat→Nat→Env→D3→WP
 |.aK,V,_,e,_=>match EP V ops 0 with|true=>K e|false=>gX
 |.f i sl r,V,_,e,fb=>match ops[i]? with
  |none=>gX
  |some o=>match Nt ops i o sl V&&VW o.op with
   |true=>uq ops o (nB sl 0 e) (QW P (nB sl 0 e) o λv l=>TI (X7 i ops) o e (λe'=>iP P ops K r (rA V i) 0 e' (Xz i l fb)) v) (iP P ops K r (rA V i) 0 (qS e o.dst DS) fb)
   |false=>gX
 |.w i sl r,V,C,e,fb=>match ops[i]? with
  |none=>gX
  |some o=>match Nt ops i o sl V&&QK V (rA C i) ops 0 with
   |true=>uq ops o (nB sl 0 e) (Fb P (nB sl 0 e) [] o λv=>Gt fb (Jx ops i) (TI (X7 i ops) o e (λe'=>iP P ops K r (rA V i) 0 e' fb) v)) (iP P ops K r (rA V i) 0 (qS e o.dst DS) fb)
   |false=>gX
 |.wa i sl r alt,V,C,e,fb=>match ops[i]? with
  |none=>gX
  |some o=>match Nt ops i o sl V&&X_ alt with
   |true=>both (uq ops o (nB sl 0 e) (Fb P (nB sl 0 e) [] o λv=>Gt fb (Jx ops i) (TI (X7 i ops) o e (λe'=>iP P ops K r (rA V i) 0 e' fb) v)) (iP P ops K r (rA V i) 0 (qS e o.dst DS) fb))
     (iP P ops K alt V (rA C i) e fb)
   |false=>gX
abbrev yf:=Nat×Sh
inductive F4 where
 |o
 |d (t:DT)
 |s (a b:F4)
 |j (sl:List yf) (a b:F4)
 |b (a:F4)
 |bj (sl:List yf) (a:F4)
 |l (sl:List yf) (a:F4)
 |r (rs:List Sh) (a b:F4)
def oy:List yf→List CK
 |[]=>[]
 |(_,.lf c)::r=>c::oy r
 |(_,.agg cs)::r=>cs++oy r
def zQ(e:Env):List yf→Option (List Lf)
 |[]=>some []
 |(n,.lf _)::r=>match e.get n with
  |.val (.one (.lf l))=>(match zQ e r with|some ls=>some (l::ls)|none=>none)
  |_=>none
 |(n,.agg cs)::r=>match e.get n with
  |.val (.one (.agg xs))=>(match Nat.beq xs.length cs.length,zQ e r with|true,some ls=>some (xs++ls)|_,_=>none)
  |_=>none
def x6(sl:List yf)(e:Env)(J:Ks.T (oy sl)→WP):WP:=
 match zQ e sl with
 |some ls=>(match Ks.un (oy sl) ls with|some x=>J x|none=>gX)
 |none=>gX
def tv:List yf→List Lf→Env→Env
 |[],_,e=>e
 |(n,.lf _)::r,ls,e=>match ls with
  |l::ls=>tv r ls (e.put (some n) (.val (.one (.lf l))))
  |[]=>e
 |(n,.agg cs)::r,ls,e=>tv r (ls.drop cs.length) (e.put (some n) (.val (.one (.agg (ls.take cs.length)))))
def fW:Env→Env
 |[]=>[]
 |.gv _ _ _::e=>.un::fW e
 |x::e=>x::fW e
def ur:List Nat→Env→Env
 |[],e=>e
 |d::r,e=>ur r (e.set d .un)
def fz:List Oper→List Nat
 |[]=>[]
 |o::r=>match o.dst with|some d=>d::fz r|none=>fz r
def writes:Code→List Nat
 |.region _ ops _=>fz ops.toList
 |.seq a b=>writes a++writes b
 |.cond _ a b=>writes a++writes b
 |.block _ a=>writes a
 |.loop a=>writes a
 |.scope a=>writes a
 |_=>[]
def HU(ws:List Nat):List yf→Bool
 |[]=>true
 |(n,_)::r=>lH n ws&&HU ws r
def Es(c:Code)(e:Env):Env:=ur (writes c) (fW e)
def tw(c:Code)(sl:List yf)(e:Env)(x:Ks.T (oy sl)):Env:=tv sl (Ks.mk (oy sl) x) (Es c e)
def pB(n:Nat)(i:Nat)(A B:WP):WP:=match Nat.beq i n with|true=>A|false=>B
def z6(e:Env):List Nat→List V1→Env
 |d::ds,v::vs=>z6 (e.put (some d) (.val (.one v))) ds vs
 |_,_=>e
def nR:Code→List Nat
 |.seq a b=>nR a++nR b
 |.cond _ a b=>nR a++nR b
 |.block i a=>(nR a).filter (λj=>!Nat.beq i j)
 |.loop a=>nR a
 |.scope a=>nR a
 |.exit i=>[i]
 |_=>[]
def we:Code→Bool
 |.seq a b=>we a||we b
 |.cond _ a b=>we a||we b
 |.block _ a=>we a
 |.loop a=>we a
 |.scope a=>we a
 |.ret=>true
 |_=>false
def CD(j:Nat)(kx:Nat→WP):List Nat→WP
 |[]=>gX
 |i::r=>pB (i+2) j (kx i) (CD j kx r)
def MV(c:Code)(j:Nat)(kn kr:WP)(kx:Nat→WP):WP:=
 pB 0 j kn (match we c with|true=>pB 1 j kr (CD j kx (nR c))|false=>CD j kx (nR c))
abbrev qP(P:Program)(fv:Fv)(rs:List Sh)(B:Rs.T rs→(WP→WP)→WP→(Nat→WP)→WP)(K:Nat→WP):WP:=λw=>
 ∀(w1:World) (l:Nat) (st:Nat→Obj) (busy:Obj),(∀j,st j≠kU)→busy≠kU→ju C6 w w1→w.heap.size≤l→l<w1.heap.size→w1.heap[l]?=some (st 0)→
  (∀(x:Rs.T rs) (W:World) (R:Value→World→Prop),
   B x (λA W0=>W0.heap[l]?=some (st 0)∧∀W1,ju (Er l) W0 W1→W1.heap[l]?=some busy→W1.heap.size=W0.heap.size→A W1)
    (λW2=>W2.heap[l]?=some busy∧∀W3,ju (Er l) W2 W3→W3.heap[l]?=some (st 0)→W3.heap.size=W2.heap.size→R (.bool true) W3)
    (λj W2=>W2.heap[l]?=some busy∧∀W3,ju (Er l) W2 W3→W3.heap[l]?=some (st j)→W3.heap.size=W2.heap.size→R (.bool false) W3) W→
   W.heap[l]?=some (st 0)→
   u_ P (.mk (.yield l) [] []) ((Rs.mk rs x).map V1.enc) W R)→
  rG P fv [Fv.enc (.mk (.yield l) [] [])] w1 λ_ w2=>mg w1 w2∧∃j,w2.heap[l]?=some (st j)∧∀w3,ju (Er l) w2 w3→w3.heap.size=w2.heap.size→K j w3
def u7(P:Program)(inR:Bool):Code→F4→Env→(Env→WP)→(Nat→Env→WP)→(Env→WP)→WP
 |.skip,_,e,kn,_,_=>kn e
 |.label _,_,e,kn,_,_=>kn e
 |.region _ ops false,_,e,kn,_,_=>qk P ops.toList ops.toList 0 e kn
 |.region _ ops true,.d t,e,kn,_,_=>match P.follows .mixedOrders&&jv ops.toList with
  |true=>bQ (iP P ops.toList kn t 0 0 (fW e) [])
  |false=>gX
 |.seq a b,.s x y,e,kn,kx,kr=>u7 P inR a x e (λe1=>u7 P inR b y e1 kn kx kr) kx kr
 |.seq a b,.j sl x y,e,kn,kx,kr=>match HU (writes a) sl with
  |true=>join (oy sl) (λJ=>u7 P inR a x e (λe1=>x6 sl e1 J) kx kr) (λv=>u7 P inR b y (tw a sl e v) kn kx kr)
  |false=>gX
 |.cond c a b,.s x y,e,kn,kx,kr=>match ow e [] c with
  |some (.one (.lf (.bool t)))=>ar t (u7 P inR a x e kn kx kr) (u7 P inR b y e kn kx kr)
  |_=>gX
 |.block id a,.b x,e,kn,kx,kr=>u7 P inR a x e kn (λi e1=>pB id i (kn e1) (kx i e1)) kr
 |.block id a,.bj sl x,e,kn,kx,kr=>match HU (writes a) sl with
  |true=>join (oy sl) (λJ=>u7 P inR a x e (λe1=>x6 sl e1 J) (λi e1=>pB id i (x6 sl e1 J) (kx i e1)) kr) (λv=>kn (tw a sl e v))
  |false=>gX
 |.loop a,.l sl x,e,_,kx,kr=>match HU (writes a) sl with
  |true=>x6 sl e λx0=>loop (oy sl) x0 (λJ v=>u7 P inR a x (tw a sl e v) (λe1=>x6 sl e1 J) kx kr)
  |false=>gX
 |.exit i,_,e,_,kx,_=>kx i e
 |.ret,_,e,_,_,kr=>kr e
 |.scope a,x,e,kn,kx,kr=>u7 P inR a x e kn kx kr
 |.rangeFunc f ps as body,.r rs x y,e,kn,kx,kr=>match inR,ow e [] f with
  |false,some (.one (.lf (.fn fv)))=>(match Nat.beq rs.length ps.size with
   |true=>qP P fv rs (λv BX next jump=>u7 P true as x (z6 (fW e) ps.toList (Rs.mk rs v)) (λe1=>BX (u7 P true body y e1 (λ_=>next) (λi _=>jump (i+2)) (λ_=>jump 1))) (λ_ _=>gX) (λ_=>gX))
     (λj=>MV body j (kn e) (kr e) (λi=>kx i e))
   |false=>gX)
  |_,_=>gX
 |_,_,_,_,_,_=>gX
structure rO(A B:WP):Prop where
 eq:A=B
structure Lv(n:Nat)(w w':World):Prop where
 os:w'.os=w.os
 tape:w'.tape=w.tape
 output:w'.output=w.output
 size:w'.heap.size=w.heap.size
 same:∀k:Nat,(k<n∨w.heap[k]?≠some kU)→w'.heap[k]?=w.heap[k]?
abbrev lV(n:Nat)(A:WP):WP:=λw=>∀w',Lv n w w'→A w'
def cP:Code→Bool
 |.seq a b=>cP a||cP b
 |.cond _ a b=>cP a||cP b
 |.block _ a=>cP a
 |.loop a=>cP a
 |.scope a=>cP a
 |.rangeFunc _ _ _ _=>true
 |_=>false
def Bp(P:Program)(e:Env):List ResultVar→(List V1→WP)→WP
 |[],K=>K []
 |.tmp t::r,K=>match e.get t with
  |.val (.one v)=>Bp P e r λvs=>K (v::vs)
  |_=>gX
 |.cell t ty::r,K=>match e.get t,OP P ty with
  |.val (.one (.lf (.ptr (some p)))),some (.lf c)=>ld [c] p λx=>Bp P e r λvs=>K (.lf (c.mk x)::vs)
  |.val (.one (.lf (.ptr (some p)))),some (.agg cs)=>ld cs p λx=>Bp P e r λvs=>K (.agg (Ks.mk cs x)::vs)
  |_,_=>gX
def WC(rs:List Sh)(vs:List V1)(R:Rs.T rs→WP):WP:=
 match Rs.un rs vs with|some x=>R x|none=>gX
def EH(n:Nat)(args:List V1):Env:=args.map (λv=>.val (.one v))++List.replicate (n-args.length) (.val DS)
def RS(P:Program)(fn:Func)(an:F4)(args:List V1)(rs:List Sh)(R:Rs.T rs→WP):WP:=λw=>
 match fn.body with
 |none=>False
 |some c=>
  let kr (e:Env):WP:=Bp P e fn.results.toList λvs=>WC rs vs λx=>match cP c with
   |true=>lV w.heap.size (R x)
   |false=>R x
  u7 P false c an (EH fn.ntmps args) kr (λ_ _=>gX) kr w
end Go.X

namespace Go.X
theorem Env.vA(e:Env)(d:Nat)(y:Jm)(i:Nat):(Env.set e d y).get i=if i=d∧d<e.length then y else e.get i:=by
 induction e generalizing d i with
 |nil=>simp[Env.set,Env.get]
 |cons x e ih=>
  cases d with
  |zero=>cases i<;>simp[Env.set,Env.get]
  |succ d=>cases i with
   |zero=>simp[Env.set,Env.get]
   |succ i=>simp[Env.set,Env.get,ih]
theorem Env.get_map(f:Jm→Jm)(hf:f .un=.un)(e:Env)(i:Nat):Env.get (e.map f) i=f (e.get i):=by
 induction e generalizing i with
 |nil=>simp[Env.get,hf]
 |cons x e ih=>cases i<;>simp[Env.get,ih]
theorem Env.vJ(e:Env)(d:Nat)(y:Jm):(Env.set e d y).length=e.length:=by
 induction e generalizing d with
 |nil=>rfl
 |cons x e ih=>cases d<;>simp[Env.set,ih]
theorem Env.zn(e:Env)(i:Nat)(h:e.length≤i):e.get i=.un:=by
 induction e generalizing i with
 |nil=>rfl
 |cons x e ih=>cases i with
  |zero=>simp at h
  |succ i=>simp[Env.get];exact ih i (by simpa using h)
def jD(a:Act)(i:Nat):Jm→Prop
 |.un=>True
 |.val v=>a.tmps[i]?=some v.enc
 |.gv j w v=>(a.tmps[j]?=some (.bool w)→a.tmps[i]?=some v.enc)∧(a.tmps[j]?≠some (.bool w)→a.tmps[i]?=some undef)
structure mF(e:Env)(a:Act):Prop where
 len:e.length=a.tmps.size
 ok:∀i,jD a i (e.get i)
def Holds(c:F8)(a:Act):Prop:=∀j w,EU j w c=true→a.tmps[j]?=some (.bool w)
theorem Holds.nil(a:Act):Holds [] a:=λ_ _ h=>by cases h
theorem uu{j:Nat}{w:Bool}{c:F8}{a:Act}(hc:Holds c a)(h:a.tmps[j]?=some (.bool w)):Holds ((j,w)::c) a:=by
 intro i v hi;simp only[EU]at hi;split at hi
 ·rename_i hb;have e:j=i:=qt hb;subst e;cases w<;>cases v<;>first|exact h|exact hc _ _ hi
 ·exact hc _ _ hi
theorem E0{v:Value}{l:Lf}(h:zx v=some l):l.enc=v:=by
 unfold zx at h;split at h<;>cases h<;>rfl
theorem yV{α:Type}:∀{l:List (Option α)} {xs:List α},qD l=some xs→l=xs.map some
 |[],xs,h=>by cases h;rfl
 |none::r,xs,h=>by simp[qD]at h
 |some x::r,xs,h=>by
  simp only[qD]at h;split at h
  ·rename_i ys hy;cases h;simp[yV hy]
  ·cases h
theorem J7{vs:List Value}{ls:List Lf}(h:vs.map zx=ls.map some):ls.map Lf.enc=vs:=by
 induction vs generalizing ls with
 |nil=>cases ls<;>simp at h⊢
 |cons v vs ih=>
  cases ls with
  |nil=>simp at h
  |cons l ls=>
   simp at h;simp[E0 h.1,ih h.2]
theorem w7{v:Value}{x:V1}(h:uh v=some x):x.enc=v:=by
 unfold uh at h;split at h
 ·rename_i cs;split at h
  ·rename_i ls hl;cases h;have:=J7 (yV hl);simp[V1.enc,this]
  ·cases h
 ·split at h
  ·rename_i l hl;cases h;exact E0 hl
  ·cases h
theorem Lf.cells(l:Lf):l.enc.cells=#[l.enc]:=by
 cases l with
 |sl s=>
  obtain⟨a,c,h,_⟩:=s.lR;simp[Lf.enc,h,Value.cells]
 |fn f=>cases f<;>simp[Lf.enc,Fv.enc,Value.cells]
 |_=>simp[Lf.enc,Value.cells]
theorem V1.cells(v:V1):v.enc.cells=(v.J8.map Lf.enc).toArray:=by
 cases v with
 |lf l=>simp[V1.enc,V1.J8,Lf.cells]
 |agg ls=>simp[V1.enc,V1.J8,Value.cells]
section
variable {P:Program} {e:Env} {a:Act} {c:F8} {w:World}
theorem bB(hA:mF e a)(hc:Holds c a){x:Operand}{v:TV}(h:ow e c x=some v):a.eval x=v.enc:=by
 unfold ow at h;split at h
 ·rename_i t;have hk:=hA.ok t;split at h
  ·rename_i u hu;cases h;rw[hu]at hk;simp only[jD]at hk;simp[Act.eval,hk]
  ·rename_i j ww u hu;rw[hu]at hk;split at h
   ·rename_i hin;cases h;have:=hk.1 (hc _ _ hin);simp[Act.eval,this]
   ·cases h
  ·cases h
 ·split at h
  ·rename_i y hy;cases h;simp[Act.eval,TV.enc,w7 hy]
  ·cases h
 ·cases h;simp[Act.eval,TV.enc,V1.enc,Lf.enc,Fv.enc]
 ·cases h
theorem qH(hA:mF e a)(hc:Holds c a):∀{xs:List Operand} {vs:List V1},MB e c xs=some vs→xs.map a.eval=vs.map V1.enc
 |[],vs,h=>by simp[MB]at h;subst h;rfl
 |x::r,vs,h=>by
  simp only[MB]at h;split at h
  ·rename_i v hv;split at h
   ·rename_i us hu;cases h;simp only[ka];rw[bB hA hc hv,qH hA hc hu]
    rfl
   ·cases h
  ·cases h
theorem uk(hA:mF e a)(hc:Holds c a):∀{xs:List (Nat×Operand)} {vs:List (Nat×V1)},sT e c xs=some vs→xs.map (λx=>(x.1,a.eval x.2))=vs.map (λx=>(x.1,x.2.enc))
 |[],vs,h=>by simp[sT]at h;subst h;rfl
 |(i,x)::r,vs,h=>by
  simp only[sT]at h;split at h
  ·rename_i v hv;split at h
   ·rename_i us hu;cases h;simp only[ka];rw[bB hA hc hv,uk hA hc hu]
    rfl
   ·cases h
  ·cases h
end
theorem kY(a:Act)(d:Nat)(v:Value)(i:Nat):(a.put (some d) v).tmps[i]?=if i=d∧d<a.tmps.size then some v else a.tmps[i]?:=by
 simp only[Act.put];by_cases h:d=i
 ·subst h;by_cases hl:d<a.tmps.size
  ·simp[hl]
  ·simp[hl]
 ·rw[G5 h];simp[mD h]
theorem size_put(a:Act)(d:Option Nat)(v:Value):(a.put d v).tmps.size=a.tmps.size:=by cases d<;>simp[Act.put]
theorem Fo{a:Act}{d:Nat}{v:Value}{i:Nat}(hi:¬(i=d∧d<a.tmps.size)){x:Jm}(h:jD a i x):jD (a.put (some d) v) i (Fm d x):=by
 cases x with
 |un=>trivial
 |val u=>simp only[Fm,jD]at*;rw[kY,aw hi];exact h
 |gv j w u=>
  simp only[Fm];split
  ·trivial
  ·rename_i hb;have hne:¬j=d:=λe=>by rw[e,DC]at hb;cases hb
   simp only[jD]at*;rw[kY,kY,aw hi,aw (λhh=>hne hh.1)];exact h
theorem mF.put{e:Env}{a:Act}(h:mF e a)(d:Option Nat)(v:TV):mF (e.put d (.val v)) (a.put d v.enc):=by
 cases d with
 |none=>exact h
 |some d=>
  refine⟨by rw[size_put,←h.len];simp[Env.put,Env.vJ],λi=>?_⟩;simp only[Env.put];rw[Env.vA];split
  ·rename_i hi;simp only[jD];rw[kY,aF ⟨hi.1,by rw[←h.len];simpa using hi.2⟩]
  ·rename_i hi;rw[Env.get_map _ rfl];exact Fo (by rw[←h.len];simpa using hi) (h.ok i)
theorem mF.NM{e:Env}{a:Act}(h:mF e a){d j:Nat}(hj:d≠j)(want:Bool)(v:TV)(u:Value)
  (h1:a.tmps[j]?=some (.bool want)→u=v.enc) (h2:a.tmps[j]?≠some (.bool want)→u=undef):mF (e.put (some d) (.gv j want v)) (a.put (some d) u):=by
 refine⟨by rw[size_put,←h.len];simp[Env.put,Env.vJ],λi=>?_⟩;simp only[Env.put];rw[Env.vA];split
 ·rename_i hi;have hd:d<a.tmps.size:=by rw[←h.len];simpa using hi.2
  simp only[jD];have e1:(a.put (some d) u).tmps[i]?=some u:=by rw[kY,aF ⟨hi.1,hd⟩]
  have e2:(a.put (some d) u).tmps[j]?=a.tmps[j]?:=by rw[kY,aw (λhh=>hj hh.1.symm)]
  rw[e1,e2];exact⟨λhh=>by rw[h1 hh],λhh=>by rw[h2 hh]⟩
 ·rename_i hi;rw[Env.get_map _ rfl];exact Fo (by rw[←h.len];simpa using hi) (h.ok i)
end Go.X

namespace Go.X
variable {P:Program}
theorem uv{a b:IntKind}(h:VX a b=true):a=b:=by cases a<;>cases b<;>first|rfl|cases h
def oe(P:Program)(t:TypeId)(ls:List Lf)(v:Value):Prop:=if fK P t then v=.agg (ls.map Lf.enc).toArray else ∃l,ls=[l]∧v=l.enc
theorem sY(P:Program)(t:TypeId){d:TypeDesc}(h:P.underlying t=some d)(w:World):(isAgg t).run P w=.ok (fK P t) w:=by
 unfold isAgg fK;simp only[cA,fk h,dH,h];cases d<;>rfl
theorem kg{t:TypeId}{d:TypeDesc}(h:P.underlying t=some d)(w:World):(sizeOf t).run P w=.ok (P.cellsOf t) w:=by
 unfold sizeOf typeInfo Program.cellsOf;cases hi:P.info? t with
 |none=>simp[Program.underlying,hi]at h
 |some i=>simp[hi]
theorem vS{t:TypeId}{d:TypeDesc}(h:P.underlying t=some d)(xs:List Lf)(off:Nat)(ls:List Lf)(hl:zc xs off (P.cellsOf t)=ls)(hs:fK P t=false→∃l,ls=[l])(w:World):
  ∃v,(part t (xs.map Lf.enc).toArray off).run P w=.ok v w∧oe P t ls v:=by
 unfold part;simp only[cA,sY P t h,dH,rh];unfold oe;cases ha:fK P t with
 |true=>
  simp only[iF,kg h,dH,eg];refine⟨_,rfl,?_⟩;subst hl;simp[zc,List.map_take,List.map_drop]
 |false=>
  obtain⟨l,rfl⟩:=hs ha;have hx:xs[off]?=some l:=by
   have:=dm (λz=>z[0]?) hl;simp only[zc]at this;rw[pn]at this;split at this
   ·simpa using this
   ·simp at this
  simp[hx]
theorem CJ{d:Nat}{fs:List Field}{xs ys:List Lf}{b:Bool}{rec:TypeId→List Lf→List Lf→Option Bool}(w:World)
  (hrec:∀t us vs b,rec t us vs=some b→(∃dd,P.underlying t=some dd)∧(fK P t=false→(∃l,us=[l])∧∃l,vs=[l])∧∀x y,oe P t us x→oe P t vs y→(Op.equalIn d t x y).run P w=.ok b w)
  (h:JZ P rec xs ys fs=some b):(Op.eqFields d (xs.map Lf.enc).toArray (ys.map Lf.enc).toArray fs).run P w=.ok b w:=by
 induction fs generalizing b with
 |nil=>simp[JZ]at h;subst h;simp[Op.eqFields]
 |cons f r ih=>
  unfold JZ at h;split at h
  ·rename_i hn;have hn' : f.name = "_" := by simpa using hn
   simp only[Op.eqFields,hn',ne_eq,not_true,jt];exact ih h
  ·rename_i hn;have hn' : ¬ f.name = "_" := by simpa using hn
   simp only[Op.eqFields,ne_eq,hn',vW,iF,cA];have step:∀a,rec f.type (zc xs f.offset (P.cellsOf f.type)) (zc ys f.offset (P.cellsOf f.type))=some a→
     ∃u v,(part f.type (xs.map Lf.enc).toArray f.offset).run P w=.ok u w∧(part f.type (ys.map Lf.enc).toArray f.offset).run P w=.ok v w∧(Op.equalIn d f.type u v).run P w=.ok a w:=by
    intro a ha;obtain⟨⟨dd,hd⟩,hs,he⟩:=hrec _ _ _ _ ha;obtain⟨u,hu,iu⟩:=vS hd xs f.offset _ rfl (λz=>(hs z).1) w;obtain⟨v,hv,iv⟩:=vS hd ys f.offset _ rfl (λz=>(hs z).2) w;exact⟨u,v,hu,hv,he u v iu iv⟩
   split at h
   ·rename_i a ha;cases h;obtain⟨u,v,hu,hv,he⟩:=step _ ha;simp only[hu,hv,he,dH,rh];cases b<;>simp[Op.eqFields]
   ·rename_i a g r' ha;obtain⟨u,v,hu,hv,he⟩:=step _ ha;split at h
    ·rename_i b' hb';cases h;simp only[hu,hv,he,dH,rh,ih hb'];cases a<;>simp
    ·cases h
   ·cases h
theorem Bo{d:Nat}{t:TypeId}{xs ys:List Lf}{rec:List Lf→List Lf→Option Bool}{dd:TypeDesc}(ht:P.underlying t=some dd)(w:World)
  (hrec:∀us vs b,rec us vs=some b→(fK P t=false→(∃l,us=[l])∧∃l,vs=[l])∧∀x y,oe P t us x→oe P t vs y→(Op.equalIn d t x y).run P w=.ok b w):
  ∀(m i:Nat) (b:Bool),JY rec (P.cellsOf t) xs ys m i=some b→
   (forIn (List.range' i m) ((none,()):Option Bool×Unit) (λi _=>do
    let a←part t (xs.map Lf.enc).toArray (i*P.cellsOf t)
    let c←part t (ys.map Lf.enc).toArray (i*P.cellsOf t)
    let r←Op.equalIn d t a c
    if(!r)=true then pure (ForInStep.done (some false,()))else pure (ForInStep.yield (none,())))).run P w
    =.ok (if b then(none,())else(some false,())) w:=by
 intro m
 induction m with
 |zero=>intro i b h;simp[JY]at h;subst h;simp
 |succ m ih=>
  intro i b h;unfold JY at h;simp only[List.range'_succ,List.forIn_cons,cA];have step:∀a,rec (zc xs (i*P.cellsOf t) (P.cellsOf t)) (zc ys (i*P.cellsOf t) (P.cellsOf t))=some a→
    ∃u v,(part t (xs.map Lf.enc).toArray (i*P.cellsOf t)).run P w=.ok u w∧(part t (ys.map Lf.enc).toArray (i*P.cellsOf t)).run P w=.ok v w∧(Op.equalIn d t u v).run P w=.ok a w:=by
   intro a ha;obtain⟨hs,he⟩:=hrec _ _ _ ha;obtain⟨u,hu,iu⟩:=vS ht xs (i*P.cellsOf t) _ rfl (λz=>(hs z).1) w;obtain⟨v,hv,iv⟩:=vS ht ys (i*P.cellsOf t) _ rfl (λz=>(hs z).2) w;exact⟨u,v,hu,hv,he u v iu iv⟩
  split at h
  ·rename_i a ha;cases h;obtain⟨u,v,hu,hv,he⟩:=step _ ha;simp only[hu,hv,he,dH];cases b<;>simp
  ·rename_i a k ha;obtain⟨u,v,hu,hv,he⟩:=step _ ha;split at h
   ·rename_i b' hb';cases h;have h3:=ih (i+1) b' hb';simp only[hu,hv,he,dH];cases a with
    |false=>simp
    |true=>simpa using h3
   ·cases h
  ·cases h
theorem VN:∀(d D:Nat) (t:TypeId) (xs ys:List Lf) (b:Bool) (w:World),d≤D→W7 P d t xs ys=some b→
  (∃dd,P.underlying t=some dd)∧(fK P t=false→(∃l,xs=[l])∧∃l,ys=[l])∧∀x y,oe P t xs x→oe P t ys y→(Op.equalIn D t x y).run P w=.ok b w:=by
 intro d
 induction d with
 |zero=>intro D t xs ys b w _ h;simp[W7]at h
 |succ d ih=>
  intro D t xs ys b w hD h;obtain⟨D,rfl⟩:∃n,D=n+1:=⟨D-1,by omega⟩;simp only[W7]at h;split at h
  ·rename_i hu;have hg:fK P t=false:=by simp[fK,hu]
   split at h
   ·rename_i p q;cases h;refine⟨⟨_,hu⟩,λ_=>⟨⟨_,rfl⟩,_,rfl⟩,λx y hx hy=>?_⟩;simp only[oe,hg,js,jt]at hx hy;obtain⟨l,h1,rfl⟩:=hx;obtain⟨m,h2,rfl⟩:=hy;cases h1;cases h2;exact run_equalIn_bool' w D t _ _ hu
   ·cases h
  ·rename_i k hu;have hg:fK P t=false:=by simp[fK,hu]
   split at h
   ·rename_i k1 p k2 q;split at h
    ·rename_i hk;cases h;refine⟨⟨_,hu⟩,λ_=>⟨⟨_,rfl⟩,_,rfl⟩,λx y hx hy=>?_⟩;simp only[oe,hg,js,jt]at hx hy;obtain⟨l,h1,rfl⟩:=hx;obtain⟨m,h2,rfl⟩:=hy;cases h1;cases h2;rw[←uv hk];exact run_equalIn_int w D t k1 k p q hu
    ·cases h
   ·cases h
  ·rename_i hu;have hg:fK P t=false:=by simp[fK,hu]
   split at h
   ·rename_i p q;cases h;refine⟨⟨_,hu⟩,λ_=>⟨⟨_,rfl⟩,_,rfl⟩,λx y hx hy=>?_⟩;simp only[oe,hg,js,jt]at hx hy;obtain⟨l,h1,rfl⟩:=hx;obtain⟨m,h2,rfl⟩:=hy;cases h1;cases h2;exact run_equalIn_string w D t _ _ hu
   ·cases h
  ·rename_i fs hu;have hg:fK P t=true:=by simp[fK,hu]
   split at h
   ·cases h
   ·rename_i hst;refine⟨⟨_,hu⟩,λz=>(by rw[hg]at z;cases z),λx y hx hy=>?_⟩;simp only[oe,hg,iF]at hx hy;subst hx;subst hy;have hf:P.fieldsOf t=fs:=by simp[Program.fieldsOf,hu]
    rw[run_equalIn_struct w D t _ _ (by rw[hf];exact hu) hst,hf];exact CJ w (λt us vs b hh=>ih D t us vs b w (by omega) hh) h
  ·rename_i n e hu;have hg:fK P t=true:=by simp[fK,hu]
   refine⟨⟨_,hu⟩,λz=>(by rw[hg]at z;cases z),λx y hx hy=>?_⟩;simp only[oe,hg,iF]at hx hy;subst hx;subst hy;simp only[Op.equalIn,cA,fk hu,dH];cases n with
   |zero=>cases h
   |succ n=>
    have hrec:=λus vs b hh=>ih D e us vs b w (by omega) hh;have hue:∃dd,P.underlying e=some dd:=by
     dsimp only at h;unfold JY at h;split at h<;>rename_i hh
     ·exact(hrec _ _ _ hh).1
     ·exact(hrec _ _ _ hh).1
     ·cases h
    obtain⟨dd,hdd⟩:=hue;simp only[kg hdd,dH];rw[Std.Legacy.Range.forIn_eq_forIn_range'];have:=Bo (xs:=xs) (ys:=ys) hdd w (λus vs b hh=>(hrec us vs b hh).2) (n+1) 0 b h;simp only[Std.Legacy.Range.size];simp only[Nat.sub_zero,Nat.div_one,Nat.add_one_sub_one]at*;rw[this];cases b<;>simp
  ·cases h
theorem fG(op:BinOp)(t:TypeId)(x y:Operand)(a b:Lf)(w:World)(hn:a≠ .SI:=by simp):(eqGuard op t x y a.enc b.enc).run P w=.ok () w:=by
  have hs:∀s:Sl,∃x n c,s.enc=.slice x n c:=λs=>by obtain⟨x,c,hx,_⟩:=s.lR;exact⟨x,_,c,hx⟩
  have hf:∀f:Fv,f.enc=.nilFunc∨∃x y z,f.enc=.func x y z:=λf=>by cases f<;>simp[Fv.enc]
  have hl:∀l:Lf,l≠ .SI→(∃k n,l.enc=.int k n)∨(∃b,l.enc=.bool b)∨(∃p,l.enc=.pointer p)∨(∃x n c,l.enc=.slice x n c)∨(∃s,l.enc=.string s)∨l.enc=.nilFunc∨(∃x y z,l.enc=.func x y z)∨∃r,l.enc=.map (some r):=λl hn=>by
    cases l with
    |sl s=>obtain⟨x,n,c,h⟩:=hs s;exact .inr (.inr (.inr (.inl ⟨x,n,c,h⟩)))
    |fn f=>
      rcases hf f with h|h
      · exact .inr (.inr (.inr (.inr (.inr (.inl h)))))
      · exact .inr (.inr (.inr (.inr (.inr (.inr (.inl h))))))
    |SI=>exact absurd rfl hn
    |_=>simp[Lf.enc]
  rcases hl a hn with⟨k,n,h⟩|⟨k,h⟩|⟨k,h⟩|⟨k,n,c,h⟩|⟨k,h⟩|h|⟨k,n,c,h⟩|⟨k,h⟩<;>rw[h]<;>by_cases hb:b=.SI;all_goals first
    |(subst hb;cases op<;>simp[eqGuard])
    |(rcases hl b hb with⟨k,n,h⟩|⟨k,h⟩|⟨k,h⟩|⟨k,n,c,h⟩|⟨k,h⟩|h|⟨k,n,c,h⟩|⟨k,h⟩<;>rw[h]<;>cases op<;>simp[eqGuard])
theorem Q4{op:BinOp}{eq:Bool}(h:isEq op=some eq):op=if eq then .eql else .neq:=by cases op<;>simp[isEq]at h<;>subst h<;>rfl
theorem PP{op:BinOp}{k:IntKind}{a b:Int}{v:TV}(h:TF op k a b=some v)(t:TypeId)(w:World):(binOp op t (.int k a) (.int k b)).run P w=.ok v.enc w:=by
 cases op<;>simp only[TF,sa,oX,nJ,reduceCtorEq]at h<;>subst h<;>
  simp[binOp,Op.intArith,Op.intBits,Op.intCmp,TV.enc,V1.enc,Lf.enc]
theorem Cl{eq b:Bool}{v:TV}(h:xb eq b=some v):v.enc=.bool (if eq then b else !b):=by cases eq<;>simp only[xb,oX,nJ]at h<;>subst h<;>rfl
theorem EI(d:Nat){t u:TypeId}(hu:P.underlying t=some (.pointer u))(p:Option Pt)(w:World):(Op.equalIn (d+1) t (.pointer (p.map Pt.addr)) (.pointer none)).run P w=.ok p.isNone w:=by cases p<;>simp[Op.equalIn,fk hu]
theorem GA(d:Nat){t u:TypeId}(hu:P.underlying t=some (.slice u))(s:Sl)(l c:Nat)(w:World):(Op.equalIn (d+1) t s.enc (.slice none l c)).run P w=.ok s.isNil w:=by
 obtain⟨a,m,h,_,_,hn⟩:=s.lR;rw[h];cases a with
 |none=>rw[hn.1 rfl];simp[Op.equalIn,fk hu]
 |some a=>
  have:s.isNil=false:=by
   cases hh:s.isNil with
   |false=>rfl
   |true=>have:=hn.2 hh;cases this
  rw[this];simp[Op.equalIn,fk hu]
theorem Gz(d:Nat){t:TypeId}{a b:Array TypeId}{c:Bool}(hu:P.underlying t=some (.func a b c))(f:Fv)(w:World):(Op.equalIn (d+1) t f.enc .nilFunc).run P w=.ok (GM f) w:=by cases f<;>simp[Fv.enc,GM,Op.equalIn,fk hu]
theorem VO{eq:Bool}{t:TypeId}{x y:V1}{v:TV}(h:eqV P eq t x y=some v)(x0 y0:Operand)(w:World):
  ((do eqGuard (if eq then .eql else .neq) t x0 y0 x.enc y.enc;binOp (if eq then .eql else .neq) t x.enc y.enc:Sem Value)).run P w=.ok v.enc w:=by
 unfold eqV at h;split at h
 ·
  rename_i a b;split at h
  ·rename_i hu;rw[Cl h];simp only[cA,V1.enc,fG,ne_eq,reduceCtorEq,vW,dH];have:=run_equalIn_bool' (P:=P) w 9999 t a b hu;cases eq<;>simp[binOp,Lf.enc,Op.equal,Op.maxDepth,this]
  ·cases h
 ·
  rename_i a b;rw[Cl h];simp only[cA,V1.enc,fG,ne_eq,reduceCtorEq,vW,dH];cases eq<;>simp[binOp,Lf.enc,Op.stringOp]
 ·
  rename_i p;split at h
  ·rename_i hu;rw[Cl h];simp only[cA,V1.enc,fG,ne_eq,reduceCtorEq,vW,dH];have:=EI 9999 hu p w;cases eq<;>simp[binOp,Lf.enc,Op.equal,Op.maxDepth,this]
  ·cases h
 ·
  rename_i s;split at h
  ·rename_i hu;rw[Cl h];simp only[cA,V1.enc,fG,ne_eq,reduceCtorEq,vW,dH];have:=GA 9999 hu s 0 0 w;obtain⟨x,c,hx,_⟩:=s.lR;have hz:(Lf.sl ⟨none,0,0⟩).enc=.slice none 0 0:=rfl;have hy:(Lf.sl s).enc=.slice x s.len c:=hx;rw[hx]at this;rw[hz,hy];cases eq<;>simp[binOp,Op.equal,Op.maxDepth,this]
  ·cases h
 ·
  rename_i f;split at h
  ·rename_i hu;rw[Cl h];simp only[cA,V1.enc,fG,ne_eq,reduceCtorEq,vW,dH];have:=Gz 9999 hu f w;cases f<;>simp only[Fv.enc]at this<;>cases eq<;>simp[binOp,Lf.enc,Fv.enc,Op.equal,Op.maxDepth,this]
  ·cases h
 ·
  rename_i xs ys;split at h
  ·rename_i hg;simp only[ej,nI]at hg;obtain⟨hagg,hguard⟩:=hg;split at h
   ·rename_i b hb;rw[Cl h];obtain⟨_,_,he⟩:=VN 8 10000 t xs ys b w (by omega) hb;have he:=he (.agg (xs.map Lf.enc).toArray) (.agg (ys.map Lf.enc).toArray) (by simp[oe,hagg]) (by simp[oe,hagg]);simp only[cA,V1.enc,run_eqGuard_agg w _ t _ _ _ _ hguard,dH];cases eq
    ·simp only[js,jt,run_neq_struct,he,dH]
    ·simp only[iF,run_eql_struct,he,dH]
   ·cases h
  ·cases h
 ·cases h
theorem PQ{op:BinOp}{t:TypeId}{x y:V1}{v:TV}(h:TG P op t x y=some v)(x0 y0:Operand)(w:World):
  ((do eqGuard op t x0 y0 x.enc y.enc;binOp op t x.enc y.enc:Sem Value)).run P w=.ok v.enc w:=by
 unfold TG at h;split at h
 ·rename_i k a k' b;split at h
  ·rename_i hk;have:=uv hk;subst this;simp only[cA,V1.enc,fG,ne_eq,reduceCtorEq,vW,dH];exact PP h t w
  ·cases h
 ·split at h
  ·rename_i eq heq;rw[Q4 heq];exact VO h x0 y0 w
  ·cases h
end Go.X

namespace Go.X
variable {P:Program}
theorem AK(L:List Lf)(off:Nat)(l:Lf)(r:List Lf)(h:off+(l::r).length≤L.length):fa (L.set off l) (off+1) r=fa L off (l::r):=by
 unfold fa;simp only[fq]at h⊢;rw[List.set_eq_take_append_cons_drop,aF (by omega)];have h1:(List.take off L++l::List.drop (off+1) L).take (off+1)=List.take off L++[l]:=by
  rw[List.take_append];simp only[fU];rw[show min off L.length=off by omega,show off+1-off=1 by omega,kF (by simp;omega)];simp
 have h2:(List.take off L++l::List.drop (off+1) L).drop (off+1+r.length)=L.drop (off+(r.length+1)):=by
  rw[Af];simp only[fU];rw[show min off L.length=off by omega,B4 (by simp;omega),show off+1+r.length-off=r.length+1 by omega];simp;rw[show off+1+r.length=off+(r.length+1) by omega]
 rw[h1,h2];simp
theorem Iu(off:Nat):∀(r:List Lf) (k:Nat) (L:List Lf),off+k+r.length≤L.length→
  ((r.map Lf.enc).zipIdx k).foldl (λ(cs:Array Value) (x:Value×Nat)=>cs.setIfInBounds (off+x.2) x.1) (L.map Lf.enc).toArray=((fa L (off+k) r).map Lf.enc).toArray
 |[],k,L,h=>by simp[fa]
 |l::r,k,L,h=>by
  simp only[ka,List.zipIdx_cons,Ds];have:(List.map Lf.enc L).toArray.setIfInBounds (off+k) l.enc=(List.map Lf.enc (L.set (off+k) l)).toArray:=by simp[List.map_set]
  rw[this,Iu off r (k+1) _ (by simp at h⊢;omega),show off+(k+1)=off+k+1 by omega,AK _ _ _ _ (by simpa using h)]
theorem CM{place:Nat→Option (Nat×Nat)}:∀{vs:List (Nat×V1)} {ls ls':List Lf},zj place ls vs=some ls'→
  Instr.fill place (ls.map Lf.enc).toArray (vs.map λx=>(x.1,x.2.enc))=some (ls'.map Lf.enc).toArray
 |[],ls,ls',h=>by simp[zj]at h;subst h;rfl
 |(i,v)::r,ls,ls',h=>by
  simp only[zj]at h;split at h
  ·cases h
  ·rename_i off size hp;split at h
   ·rename_i hb;simp only[ej,xB,xC]at hb;simp only[ka,Instr.fill,hp,V1.cells];rw[aw (by simp[hb.1];omega)];have:=Iu off v.J8 0 ls (by omega);simp only[vZ]at this;rw[←CM h,←this];simp
   ·cases h
theorem zr{t:TypeId}(h:(P.info? t).isSome=true)(w:World):(sizeOf t).run P w=.ok (P.cellsOf t) w:=by
 unfold sizeOf typeInfo Program.cellsOf;cases hi:P.info? t with
 |none=>simp[hi]at h
 |some i=>simp[hi]
theorem ng{t:TypeId}{ls:List Lf}(h:me P t=some ls)(w:World):∃v:Value,(zeroValue t).run P w=.ok v w∧v.cells=(ls.map Lf.enc).toArray:=by
 unfold me at h;split at h
 ·rename_i i hi;split at h
  ·rename_i z hz;split at h
   ·rename_i v hv;cases h;refine⟨z,by simp[zeroValue,typeInfo,hi,hz],?_⟩;rw[←w7 hv,V1.cells]
   ·cases h
  ·cases h
 ·cases h
theorem zW(w:World):∀(fs:List Field),(fs.all λf=>(P.info? f.type).isSome)=true→
  (fs.mapM (m:=Sem) λf=>do pure (f.offset,←sizeOf f.type)).run P w=.ok (fs.map λf=>(f.offset,P.cellsOf f.type)) w
 |[],_=>by simp
 |f::fs,h=>by
  simp only[List.all_cons,ej]at h;simp only[Dw,cA,zr h.1,dH,eg,zW w fs h.2,ka]
theorem LN{t:TypeId}{z ls:List Lf}{vs:List (Nat×V1)}(hz:me P t=some z)(hi:GK P t=true)(hf:zj (placeOf P t) z vs=some ls)(w:World):
  (Instr.build t (vs.map λx=>(x.1,x.2.enc)).toArray).run P w=.ok (.agg (ls.map Lf.enc).toArray) w:=by
 obtain⟨v,hv,hc⟩:=ng hz w;unfold Instr.build;simp only[cA,hv,dH];unfold GK at hi;unfold placeOf at hf;have hfill:=CM hf;split at hi
 ·rename_i fs hu;obtain⟨fl,rfl⟩:∃fl:List Field,fs=fl.toArray:=⟨fs.toList,by simp⟩;simp only[hu]at hfill;simp only[fk hu,dH,cA,List.mapM_toArray,Sem.run_map,zW w _ hi,hc];have e:(λi:Nat=>((List.map (λf:Field=>(f.offset,P.cellsOf f.type)) fl).toArray)[i]?)=zT P fl.toArray:=by
   funext i
   simp only[zT,B5,kV];cases fl[i]?<;>rfl
  rw[e,hfill];simp
 ·rename_i n el hu;simp only[hu]at hfill;simp only[fk hu,dH,cA,zr hi,hc];simp[hfill]
 ·cases hi
theorem BH{t:TypeId}{i:Nat}{f:Field}(h:vt P t i=some f):∃fs,P.underlying t=some (.struct fs)∧fs[i]?=some f:=by
 unfold vt at h;split at h
 ·rename_i fs hu;exact⟨fs,hu,h⟩
 ·cases h
theorem jV{t:TypeId}(h:P.cellsOf t≠0)(w:World):(sizeOf t).run P w=.ok (P.cellsOf t) w:=by
 refine zr ?_ w;unfold Program.cellsOf at h;cases hi:P.info? t with
 |none=>simp[hi]at h
 |some i=>rfl
theorem sX{mx:Bool}{k:IntKind}:∀{vs:List V1} {a:Int} {v:TV} (_:mI mx k a vs=some v) (w:World),
  (List.foldlM (m:=Sem) (if mx then Builtin.max2 else Builtin.min2) (.int k a) (vs.map V1.enc)).run P w=.ok v.enc w
 |[],a,v,h,w=>by simp only[mI,sa,nJ]at h;subst h;simp[TV.enc,V1.enc,Lf.enc]
 |.lf (.int k' b)::r,a,v,h,w=>by
  simp only[mI]at h;split at h
  ·rename_i hk;have:=uv hk;subst this;cases mx
   ·simp only[js,jt,ka,List.foldlM_cons,V1.enc,Lf.enc,Builtin.min2,cA,eg,dH];exact sX (mx:=false) h w
   ·simp only[iF,ka,List.foldlM_cons,V1.enc,Lf.enc,Builtin.max2,cA,eg,dH];exact sX (mx:=true) h w
  ·cases h
 |.lf (.bool _)::_,_,_,h,_=>by simp[mI]at h
 |.lf (.ptr _)::_,_,_,h,_=>by simp[mI]at h
 |.lf (.sl _)::_,_,_,h,_=>by simp[mI]at h
 |.lf (.str _)::_,_,_,h,_=>by simp[mI]at h
 |.lf (.fn _)::_,_,_,h,_=>by simp[mI]at h
 |.agg _::_,_,_,h,_=>by simp[mI]at h
theorem Gi{b:Builtin}{vs:List V1}{ts:Array TypeId}{v:TV}(h:y5 b vs=some v)(hb:sR P b ts vs=true)(t:TypeId)(cs:Array Bool)(w:World):
  (builtin b ts t cs (vs.map V1.enc).toArray).run P w=.ok (.value v.enc) w:=by
 unfold y5 at h;split at h
 ·rename_i x;split at h
  ·rename_i n hn;simp only[sa,nJ]at h;subst h;simp only[sR]at hb;split at hb
   ·rename_i t0 s ht0 hx;cases hx;cases hn;split at hb
    ·rename_i u hu;obtain⟨x,c,hx,_⟩:=s.lR;simp[builtin,Builtin.len_,ht0,V1.enc,Lf.enc,hx,fk hu,TV.enc,goInt]
    ·cases hb
   ·rename_i t0 s ht0 hx;cases hx;cases hn;split at hb
    ·rename_i hu;simp[builtin,Builtin.len_,ht0,V1.enc,Lf.enc,fk hu,TV.enc,goInt]
    ·cases hb
   ·cases hb
  ·cases h
 ·rename_i s;simp only[sa,nJ]at h;subst h;simp only[sR]at hb;split at hb
  ·rename_i t0 s ht0 hx;cases hx;split at hb
   ·rename_i u hu;obtain⟨x,c,hx,_,hcp,_⟩:=s.lR;simp[builtin,Builtin.cap_,ht0,V1.enc,Lf.enc,hx,hcp,fk hu,TV.enc,goInt]
   ·cases hb
  ·rename_i hx;cases hx
  ·cases hb
 ·rename_i k a r;simp only[builtin,Builtin.max_,ka,V1.enc,Lf.enc];have:=sX (P:=P) h w;simp only[iF]at this;simp[this]
 ·rename_i k a r;simp only[builtin,Builtin.min_,ka,V1.enc,Lf.enc];have:=sX (P:=P) h w;simp only[js,jt]at this;simp[this]
 ·cases h
section
variable {e:Env} {a:Act} {c:F8}
theorem lg{α β:Type}(xs:Array α)(f:α→β):xs.map f=(xs.toList.map f).toArray:=by exact(Array.toArray_toList (xs:=xs.map f)).symm.trans (dm List.toArray Array.toList_map)
theorem WD{op:UnOp}{x:V1}{v:TV}(h:unV op x=some v)(w:World):(Op.unary op x.enc).run P w=.ok v.enc w:=by
 unfold unV at h;split at h
 ·cases op<;>simp only[oX,nJ,reduceCtorEq]at h;subst h;simp[V1.enc,Lf.enc,Op.unary,TV.enc]
 ·cases op<;>simp only[sa,nJ,reduceCtorEq]at h;subst h;simp[V1.enc,Lf.enc,Op.unary,Op.intArith,TV.enc]
 ·cases h
theorem GD{t:TypeId}{i:Nat}{f:Field}(hf:vt P t i=some f)(hz:P.cellsOf f.type≠0)(p:Pt)(w:World):
  (Instr.fieldAt t (.pointer (some p.addr)) i).run P w=.ok (.pointer (some ⟨p.b,p.o+f.offset,none⟩)) w:=by
 obtain⟨fs,hu,hi⟩:=BH hf;unfold Instr.fieldAt;simp only[cA,fk hu,dH,hi];simp only[Instr.sureAddr,cA,eg,dH,fieldPlace,jV hz,rh,aw hz,Addr.add];split
 ·rename_i h0;simp[h0]
 ·rfl
theorem uw{t:TypeId}{ls:List Lf}{off:Nat}{v:V1}(h:vR P t ls off=some v){d:TypeDesc}(hd:P.underlying t=some d)(w:World):
  (part t (ls.map Lf.enc).toArray off).run P w=.ok v.enc w:=by
 unfold vR at h;unfold part;simp only[cA,sY P t hd,dH,rh];split at h
 ·rename_i hg;cases h;simp only[hg,iF,kg hd,dH,eg];simp[V1.enc,List.map_take,List.map_drop]
 ·rename_i hg;simp only[hg,js,jt];split at h
  ·rename_i l hl;cases h;simp[hl,V1.enc]
  ·cases h
theorem Mp(hA:mF e a)(hc:Holds c a){cn:Operand}{b:Bool}(h:ow e c cn=some (.one (.lf (.bool b)))):Holds (match IA cn with|true=>(DN cn,b)::c|false=>c) a:=by
 cases cn with
 |tmp t=>
  simp only[IA,DN];refine uu hc ?_;have:=bB hA hc h;simp only[Act.eval,TV.enc,V1.enc,Lf.enc]at this;have h2:a.tmps.getD t undef=.bool b:=this;rw[Fx]at h2;cases hh:a.tmps[t]? with
  |none=>rw[hh]at h2;simp[undef]at h2
  |some z=>rw[hh]at h2;simp at h2;rw[h2]
 |const v=>exact hc
 |global g=>exact hc
 |func f=>exact hc
theorem zZ(hA:mF e a)(hc:Holds c a){o:Oper}{v:TV}(h:x7 P e c o=some v)(w:World):(execOp a.eval o).run P w=.ok (.value v.enc) w:=by
 unfold x7 at h;split at h
 ·rename_i x ho;simp only[execOp,ho,eg];rw[bB hA hc h]
 ·rename_i x ho;simp only[execOp,ho,eg];rw[bB hA hc h]
 ·
  rename_i cn x y ho;simp only[execOp,ho];split at h
  ·rename_i b hb;rw[bB hA hc hb];simp only[TV.enc,V1.enc,Lf.enc,asBool,cA,eg,dH];have hctx:=Mp hA hc hb;split at h
   ·rename_i p q hp hq;simp only[oX,nJ]at h;subst h;cases b with
    |true=>simp only[iF];rw[bB hA hctx hp];rfl
    |false=>simp only[js,jt];rw[bB hA hctx hq];rfl
   ·cases b with
    |true=>simp only[iF];rw[bB hA hctx h];rfl
    |false=>simp only[js,jt];rw[bB hA hctx h];rfl
  ·cases h
 ·
  rename_i t ps ho;simp only[execOp,ho];split at h
  ·rename_i z vs hz hv;split at h
   ·rename_i hi;split at h
    ·rename_i ls hl;cases h;have e1:=uk hA hc hv;have e2:ps.map (λx:Nat×Operand=>(x.1,a.eval x.2))=(vs.map λx=>(x.1,x.2.enc)).toArray:=by rw[←e1];exact lg _ _
     have:=LN hz hi hl w;rw[←e2]at this;rw[cA,this]
     rfl
    ·cases h
   ·cases h
  ·cases h
 ·
  rename_i op t x y u ho;simp only[execOp,ho];split at h
  ·rename_i p q hp hq;rw[bB hA hc hp,bB hA hc hq];have:=PQ (P:=P) h x y w;simp only[TV.enc]at this⊢;rw[cA,this]
   rfl
  ·cases h
 ·
  rename_i op t x ho;simp only[execOp,ho];split at h
  ·rename_i p hp;rw[bB hA hc hp];simp only[TV.enc];rw[cA,WD h]
   rfl
  ·cases h
 ·
  rename_i src dst x ho;simp only[execOp,ho];split at h
  ·rename_i k n hp;rw[bB hA hc hp];split at h
   ·rename_i k1 k2 hs hd;simp only[sa,nJ]at h;subst h;simp[TV.enc,V1.enc,Lf.enc,convert,fk hs,fk hd,Conv.intToInt]
   ·cases h
  ·cases h
 ·
  rename_i fn first cap ho
  simp only[execOp,ho];split at h
  ·rename_i p q hp hq;cases h;have e1:first.map a.eval=(p.map V1.enc).toArray:=by rw[←qH hA hc hp];exact lg _ _
   have e2:cap.map a.eval=(q.map V1.enc).toArray:=(by rw[←qH hA hc hq];exact lg _ _);simp[Instr.makeFunc,e1,e2,TV.enc,V1.enc,Lf.enc,Fv.enc]
  ·cases h
 ·
  rename_i t x i ho;simp only[execOp,ho];split at h
  ·rename_i p f hp hf;rw[bB hA hc hp];split at h
   ·cases h
   ·rename_i hz;cases h;have hz':P.cellsOf f.type≠0:=λz=>by rw[z]at hz;cases hz
    simp only[TV.enc,V1.enc,Lf.enc,rf];rw[cA,GD hf hz' p w]
    rfl
  ·cases h
 ·
  rename_i t x i ho;simp only[execOp,ho];split at h
  ·rename_i ls f hp hf;rw[bB hA hc hp];split at h
   ·rename_i hle;obtain⟨fs,hu,hi⟩:=BH hf;unfold K3 at h;split at h
    ·rename_i u hv;cases h;obtain⟨d,hd⟩:=tP.1 hle;simp only[TV.enc];rw[cA,V1.enc,Instr.field];simp only[cA,fk hu,dH,hi,asAgg,eg,uw hv hd]
    ·cases h
   ·cases h
  ·cases h
 ·
  rename_i t x k n ho;simp only[execOp,ho];split at h
  ·rename_i ls len el hp hu;rw[bB hA hc hp];split at h
   ·rename_i hd hel;have hd:=bZ hd;unfold K3 at h;split at h
    ·rename_i u hv;cases h;obtain⟨d,hdd⟩:=tP.1 hel;simp only[TV.enc];rw[cA,V1.enc,Instr.index];simp only[Act.eval,asIntOf,cA,eg,dH,fk hu];simp[hd,kg hdd,uw hv hdd]
    ·cases h
   ·cases h
  ·cases h
 ·
  rename_i x i ho;simp only[execOp,ho];split at h
  ·rename_i vs hp;rw[bB hA hc hp];unfold K3 at h;split at h
   ·rename_i u hv;cases h;simp[TV.enc,Instr.extract,hv]
   ·cases h
  ·cases h
 ·
  rename_i cl ho;simp only[execOp,ho];split at h
  ·rename_i b hb;split at h
   ·rename_i vs hvs;split at h
    ·rename_i hok;have e1:cl.args.map a.eval=(vs.map V1.enc).toArray:=by rw[←qH hA hc hvs];exact lg _ _
     simp only[resolve,hb,e1,cA,eg,dH,invoke];exact Gi h hok _ _ w
    ·cases h
   ·cases h
  ·cases h
 ·cases h
end
end Go.X

namespace Go.X
variable {P:Program}
abbrev Fr(r:Option Nat):Fence:={Fence.wide with round:=r}
theorem y9{r:Option Nat}{n:Nat}{f:FuncId}{args:Array Value}{w:World}{R:Ending→World→Prop}(h:CallsIn Fence.wide n P f args w R):CallsIn (Fr r) n P f args w R:=h
theorem HJ{r:Option Nat}{n l:Nat}{f:FuncId}{tmps:Array Value}{as body:Code}{w:World}{R:Ending→World→Prop}(h:RoundIn Fence.wide n P l f tmps as body w R):RoundIn (Fr r) n P l f tmps as body w R:=h
theorem zg{r:Option Nat}{p:Prop}:(Fr r).depth.isSome=true→p:=λh=>by cases h
theorem nZ{w:World}{b:Nat}:∀(ls:List Lf) (L:List Lf) (o k:Nat) (_:Bu w b L) (_:o+k+ls.length≤L.length),
  ∃w',(storeCells ⟨b,o,none⟩ (ls.map Lf.enc) k).run P w=.ok () w'∧ju (Er b) w w'∧Bu w' b (fa L (o+k) ls)∧w'.heap.size=w.heap.size:=by
 intro ls
 induction ls generalizing w with
 |nil=>intro L o k hb hl;exact⟨w,rfl,ju.refl _ _,by simpa [fa]using hb,rfl⟩
 |cons l ls ih=>
  intro L o k hb hl;simp only[fq]at hl;have hcell:=xU hb (o+k);have hfr:=Bi hb (o+k);have hlk:o+k<L.length:=by omega
  have hsome:w.cell? ⟨b,o+k,none⟩=some (L[o+k]).enc:=by rw[hcell,gG hlk];rfl
  have hone:l.enc.oneCell'=true:=by
   cases l with
   |sl s=>obtain⟨x,c,hx,_⟩:=s.lR;simp[Lf.enc,hx,Value.oneCell']
   |fn f=>cases f<;>simp[Lf.enc,Fv.enc,Value.oneCell']
   |_=>simp[Lf.enc,Value.oneCell']
  have hadd:(⟨b,o,none⟩:Addr).add k=⟨b,o+k,none⟩:=by
   unfold Addr.add;split
   ·rename_i h0;subst h0;simp
   ·rfl
  have hrun:(store (⟨b,o+k,none⟩:Addr) l.enc).run P w=.ok () (w.setCell ⟨b,o+k,none⟩ l.enc):=by
   rw[run_store P w _ _ _ hone,hsome];simp[hfr]
  have hblk:Bu (w.setCell ⟨b,o+k,none⟩ l.enc) b (L.set (o+k) l):=by
   obtain⟨T,hT⟩:=hb;refine⟨T,?_⟩;simp[World.setCell,Dh,hT,List.map_set]
  have hext:ju (Er b) w (w.setCell ⟨b,o+k,none⟩ l.enc):=by
   refine⟨rfl,rfl,rfl,by simp[World.setCell],λi hi hn=>NZ _ _ _ _ hn,λi hi=>?_⟩;by_cases hib:i=b
   ·subst hib;obtain⟨T,hT⟩:=hb;rw[hT]at hi;cases hi
   ·rw[NZ _ _ _ _ hib];exact hi
  have hsz:(w.setCell ⟨b,o+k,none⟩ l.enc).heap.size=w.heap.size:=by simp[World.setCell]
  obtain⟨w',h1,h2,h3,h4⟩:=ih (L.set (o+k) l) o (k+1) hblk (by simp;omega);refine⟨w',?_,hext.trans h2,?_,by rw[h4,hsz]⟩
  ·simp only[ka,storeCells,cA,hadd,hrun,dH];exact h1
  ·rw[show o+(k+1)=o+k+1 by omega,AK _ _ _ _ (by simp;omega)]at h3;exact h3
theorem km(w:World)(o:Obj):ju C6 w {w with heap:=w.heap.push o}:=
 ⟨rfl,rfl,rfl,by simp,λk hk _=>N3 w o k hk,λk hk=>(N3 w o k (pj.1 hk).1).trans hk⟩
theorem wV(w:World)(ls:List Lf)(T:TypeId):Bu {w with heap:=w.heap.push (.cells (ls.map Lf.enc).toArray T)} w.heap.size ls:=⟨T,by simp⟩
theorem add_eq(b o k:Nat):(⟨b,o,none⟩:Addr).add k=⟨b,o+k,none⟩:=by
 unfold Addr.add;split
 ·rename_i h0;subst h0;simp
 ·rfl
theorem sD{w:World}{b:Nat}:∀{ls:List Lf} {o:Nat},Reads w b o ls→∀j v,(ls.map Lf.enc)[j]?=some v→w.cell? ((⟨b,o,none⟩:Addr).add j)=some v
 |l::ls,o,h,0,v,hv=>by
  simp at hv;subst hv;rw[add_eq];exact h.1
 |l::ls,o,h,j+1,v,hv=>by
  have:=sD h.2 j v (by simpa using hv);rw[add_eq]at*;rw[show o+(j+1)=o+1+j by omega];exact this
 |[],o,h,j,v,hv=>by simp at hv
theorem E1{w:World}{b o:Nat}{ls:List Lf}(h:Reads w b o ls):(loadCells ⟨b,o,none⟩ ls.length).run P w=.ok (ls.map Lf.enc).toArray w:=by
 have:=run_loadCells_list (P:=P) w ⟨b,o,none⟩ (ls.map Lf.enc) (λj v hj=>sD h j v hj);simpa using this
theorem uA{t:TypeId}{d:TypeDesc}(hd:P.underlying t=some d)(hg:fK P t=false){w:World}{b o:Nat}{l:Lf}(h:Reads w b o [l]):
  (loadVar t ⟨b,o,none⟩).run P w=.ok l.enc w:=by
 unfold loadVar;simp only[cA,sY P t hd,dH,hg,js,jt];simp[h.1]
theorem se{t:TypeId}{d:TypeDesc}(hd:P.underlying t=some d)(hg:fK P t=true){w:World}{b o:Nat}{ls:List Lf}(hl:ls.length=P.cellsOf t)(h:Reads w b o ls):
  (loadVar t ⟨b,o,none⟩).run P w=.ok (.agg (ls.map Lf.enc).toArray) w:=by
 unfold loadVar;simp only[cA,sY P t hd,dH,hg,iF,kg hd,←hl,E1 h,eg]
theorem Ks.len:∀(cs:List CK) (x:Ks.T cs),(Ks.mk cs x).length=cs.length
 |[],_=>rfl
 |[_],_=>rfl
 |_::d::r,x=>by simp only[Ks.mk,fq];rw[Ks.len (d::r) x.2];rfl
theorem AL{t:TypeId}{c:CK}(h:OP P t=some (.lf c)):fK P t=false∧∃d,P.underlying t=some d:=by
 unfold OP at h;split at h
 ·split at h
  ·split at h<;>cases h
  ·cases h
 ·rename_i hg;refine⟨by simpa using hg,?_⟩;split at h
  ·rename_i c hc;unfold qZ at hc;split at hc<;>first|exact⟨_,by assumption⟩|cases hc
  ·cases h
theorem wo{t:TypeId}{cs:List CK}(h:OP P t=some (.agg cs)):fK P t=true∧(∃d,P.underlying t=some d)∧cs.length=P.cellsOf t:=by
 unfold OP at h;split at h
 ·rename_i hg;split at h
  ·split at h
   ·cases h;refine⟨hg,?_,by assumption⟩;unfold fK at hg;split at hg<;>first|exact⟨_,by assumption⟩|cases hg
   ·cases h
  ·cases h
 ·split at h<;>cases h
section
variable {e:Env} {a:Act} {c:F8} {w:World} {r:Option Nat} {n0:Nat} {K':Act→World→Prop} {Q:Exit→Act→World→Prop}
def F_(P:Program)(r:Option Nat)(a:Act)(o:Oper)(w:World)(K:TV→WP):Prop:=
 ∀(K':Act→World→Prop) (Q:Exit→Act→World→Prop),(∀v w',mg w w'→K v w'→K' (a.put o.dst v.enc) w')→o.wpIn (Fr r) 0 P a w K' Q
theorem cK{o:Oper}{K:TV→WP}{v:TV}{w':World}(hnd:∀x,o.op≠.defer x)(h:(execOp a.eval o).run P w=.ok (.value v.enc) w')(hd:mg w w')(hk:K v w'):F_ P r a o w K:=by
 intro K' Q hK;refine⟨λf _=>trivial,?_⟩;rw[Ai _ _ _ hnd,h];exact hK v w' hd hk
theorem BL{o:Oper}{K:TV→WP}{w':World}(hnd:∀x,o.op≠.defer x)(h:(execOp a.eval o).run P w=.ok .skip w')(hd:mg w w')(hk:K DS w'):F_ P r a o w K:=by
 intro K' Q hK;refine⟨λf _=>trivial,?_⟩;rw[Ai _ _ _ hnd,h];exact hK DS w' hd hk
theorem vf{f:FuncId}(h:JW P f=true)(args:Array Value)(w:World):(callFunc f args).run P w=.ok (.enter f args) w:=by
 unfold JW at h;unfold callFunc;simp only[cA,xA,dH];split at h
 ·rename_i fn hf;simp only[ej,bne_iff_ne,ne_eq]at h;have hb:fn.body.isNone=false:=by cases hh:fn.body<;>simp[hh]at h⊢
  simp[hf,h.1,hb]
 ·cases h
theorem BK{o:Oper}{K:TV→WP}{f:FuncId}{args:List Value}(hnd:∀x,o.op≠.defer x)(h:(execOp a.eval o).run P w=(callFunc f args.toArray).run P w)
  (hk:ky P f args w λv w'=>∃u:TV,v=u.enc∧mg w w'∧K u w'):F_ P r a o w K:=by
 rcases hk with hk|⟨v,w',hv,u,rfl,hd,hku⟩
 ·rw[vf hk.1]at h;intro K' Q hK;refine⟨λf _=>trivial,?_⟩;rw[Ai _ _ _ hnd,h];refine⟨zg,y9 (hk.2.mono ?_)⟩;rintro e w' ⟨v,rfl,u,rfl,hd,hku⟩;exact hK u w' hd hku
 ·exact cK hnd (h.trans hv) hd hku
end
end Go.X

namespace Go.X
variable {P:Program}
section
variable {e:Env} {a:Act} {c:F8} {w:World} {r:Option Nat}
theorem RN{o:Oper}{K:TV→WP}{f:FuncId}{vs:List V1}{t:TypeId}(hnd:∀x,o.op≠.defer x)(hrun:(execOp a.eval o).run P w=(callFunc f (vs.map V1.enc).toArray).run P w)
  (h:Wi P f vs t K w):F_ P r a o w K:=by
 unfold Wi at h;cases hrs:RV P t with
 |none=>rw[hrs]at h;exact h.elim
 |some rs=>
  rw[hrs]at h;exact BK hnd hrun (ky.mono h λv w' ⟨x,hv,hd,hk⟩=>⟨_,hv,hd,hk⟩)
theorem Ok{o:Oper}{K:TV→WP}{f:Fv}{vs:List V1}{t:TypeId}{x:Operand}{ts:Array TypeId}{as:Array Operand}(ho:o.op=.call ⟨.value x,as,ts⟩)(hx:a.eval x=f.enc)
  (has:as.map a.eval=(vs.map V1.enc).toArray) (h:Oj P f vs t K w):F_ P r a o w K:=by
 have hnd:∀x,o.op≠.defer x:=by rw[ho];intro x;simp
 unfold Oj at h;cases hrs:RV P t with
 |none=>rw[hrs]at h;exact h.elim
 |some rs=>
  rw[hrs]at h;cases f with
  |nil=>exact h.elim
  |mk fn first cap=>
   cases fn with
   |func g=>
    refine BK (args:=first++vs.map V1.enc++cap) hnd ?_ (ky.mono (.enters h) λv w' ⟨x,hv,hd,hk⟩=>⟨_,hv,hd,hk⟩);simp[execOp,ho,resolve,hx,has,Fv.enc,Deferred.ofValue,invoke]
   |yield l=>
    cases first with
    |cons z zs=>exact h.elim
    |nil=>
     obtain⟨fn,tmps,asg,body,hy,hr⟩:=h;intro K' Q hK;refine⟨λf _=>trivial,?_⟩;rw[Ai _ _ _ hnd];have:(execOp a.eval o).run P w=.ok (.round l fn tmps asg body) w:=by simp[execOp,ho,resolve,hx,has,Fv.enc,Deferred.ofValue,invoke,hy]
     rw[this];refine⟨zg,HJ (hr.mono ?_)⟩;rintro e w' ⟨v,rfl,u,rfl,hd,hku⟩;exact hK _ w' hd hku
   |method n=>exact h.elim
   |methodOf t n=>exact h.elim
   |via t p f q=>exact h.elim
theorem oY{op:BinOp}{k:IntKind}{x y:Int}{t:TypeId}(hy:y≠0)(w:World):
  (op=.quo→(binOp op t (.int k x) (.int k y)).run P w=.ok (.int k (k.wrap (x.tdiv y))) w)∧(op=.rem→(binOp op t (.int k x) (.int k y)).run P w=.ok (.int k (x.tmod y)) w):=by
 constructor<;>intro h<;>subst h<;>simp[binOp,Op.intDiv,hy]
theorem tn{op:BinOp}{k k':IntKind}{x y:Int}{t:TypeId}(hy:0≤y)(w:World):
  (op=.shl→(binOp op t (.int k x) (.int k' y)).run P w=.ok (.int k (k.wrap (x*2^min y.toNat k.bits))) w)∧(op=.shr→(binOp op t (.int k x) (.int k' y)).run P w=.ok (.int k (x.fdiv (2^min y.toNat k.bits))) w):=by
 have:¬y<0:=by omega
 constructor<;>intro h<;>subst h<;>simp[binOp,Op.shift,this]
theorem zI{x:Operand}{k:IntKind}{n:Int}(h:mO x=true)(hx:a.eval x=.int k n):n≠0:=by
 unfold mO at h;split at h
 ·rename_i k' m;simp only[Act.eval,Value.int.injEq]at hx;obtain⟨_,rfl⟩:=hx;split at h
  ·cases h
  ·rename_i hd;exact cd hd
 ·cases h
theorem CH{o:Oper}{K:TV→WP}{op:BinOp}{t u:TypeId}{x y:Operand}{k k':IntKind}{p q:Int}(ho:o.op=.binOp op t x y u)(hx:a.eval x=.int k p)(hy:a.eval y=.int k' q)
  (hk:op=.shl∨op=.shr∨k=k') (h:CG op y k p q K w):F_ P r a o w K:=by
 have hnd:∀x,o.op≠.defer x:=by rw[ho];intro x;simp
 have hrun:∀v,(binOp op t (.int k p) (.int k' q)).run P w=.ok v w→(execOp a.eval o).run P w=.ok (.value v) w:=by
  intro v hv;have hg:=fG (P:=P) op t x y (.int k p) (.int k' q) w;simp only[Lf.enc]at hg;simp only[execOp,ho,hx,hy];rw[cA,cA,hg];simp[hv]
 cases op with
 |quo=>
  have e:k=k':=by rcases hk with hk|hk|hk;cases hk;cases hk;exact hk
  subst e;simp only[CG]at h;cases hz:mO y with
  |true=>rw[hz]at h;exact cK (v:=.one (.lf (.int k _))) hnd (hrun _ ((oY (zI hz hy) w).1 rfl)) (mg.refl w) h
  |false=>rw[hz]at h;exact cK (v:=.one (.lf (.int k _))) hnd (hrun _ ((oY h.1 w).1 rfl)) (mg.refl w) h.2
 |rem=>
  have e:k=k':=by rcases hk with hk|hk|hk;cases hk;cases hk;exact hk
  subst e;simp only[CG]at h;cases hz:mO y with
  |true=>rw[hz]at h;exact cK (v:=.one (.lf (.int k _))) hnd (hrun _ ((oY (zI hz hy) w).2 rfl)) (mg.refl w) h
  |false=>rw[hz]at h;exact cK (v:=.one (.lf (.int k _))) hnd (hrun _ ((oY h.1 w).2 rfl)) (mg.refl w) h.2
 |shl=>exact cK (v:=.one (.lf (.int k _))) hnd (hrun _ ((tn h.1 w).1 rfl)) (mg.refl w) h.2
 |shr=>exact cK (v:=.one (.lf (.int k _))) hnd (hrun _ ((tn h.1 w).2 rfl)) (mg.refl w) h.2
 |_=>exact h.elim
theorem PM{t el:TypeId}{n:Nat}(h:Ty P t=some (n,el)):P.underlying t=some (.array n el):=by
 unfold Ty at h;split at h
 ·rename_i hu;cases h;exact hu
 ·cases h
theorem lQ{t el:TypeId}(h:vk P t=some el):P.underlying t=some (.slice el):=by
 unfold vk at h;split at h
 ·rename_i e hu;cases h;exact hu
 ·cases h
end
end Go.X

namespace Go.X
variable {P:Program}
theorem B_{z:List Value}{m:Nat}(hm:z.length=m)(h0:0<m):∀n,(List.range (n*m)).map (λi=>z.toArray[i%m]!)=(List.replicate n z).flatten
 |0=>by simp
 |n+1=>by
  have e:(n+1)*m=m+n*m:=by rw[kJ,Nat.one_mul,Nat.add_comm]
  rw[e,List.range_add,mA,Ak];have h1:(List.range m).map (λi=>z.toArray[i%m]!)=z:=by
   apply List.ext_getElem (by simp[hm]);intro i h1 h2;simp only[List.getElem_map,List.getElem_range];have hi:i<m:=by simpa using h1
   rw[Nat.mod_eq_of_lt hi];simp[hm,hi]
  have h2:(λi=>z.toArray[i%m]!)∘(λx=>m+x)=λi=>z.toArray[i%m]!:=by funext i;simp
  rw[h1,h2,B_ hm h0 n];simp[Hb]
theorem RM(n:Nat)(z:List Lf):(kR n z).map Lf.enc=(List.replicate n (z.map Lf.enc)).flatten:=by
 unfold kR;rw[List.map_flatten,List.map_replicate]
theorem qQ(n:Nat)(z:List Lf):(kR n z).length=n*z.length:=by unfold kR;simp
theorem qV{z:List Lf}{m:Nat}(hm:z.length=m)(h0:0<m)(n:Nat):(Array.range (n*m)).map (λi=>((z.map Lf.enc).toArray)[i%m]!)=((kR n z).map Lf.enc).toArray:=by
 rw[RM,←B_ (z:=z.map Lf.enc) (m:=m) (by simpa using hm) h0 n];rw[lg];simp
theorem jx{z:List Lf}{m:Nat}(hm:z.length=m)(h0:0<m)(n:Nat):Builtin.zeroCells (z.map Lf.enc).toArray n=((kR n z).map Lf.enc).toArray:=by
 unfold Builtin.zeroCells;simp only[Dq,fy,hm];exact qV hm h0 n
theorem BM(n:Nat):∀r c,Builtin.growBy n r c≤2^r*(c+768)
 |0,c=>by simp[Builtin.growBy]
 |r+1,c=>by
  simp only[Builtin.growBy];split
  ·have:1≤2^(r+1):=Nat.one_le_two_pow
   calc c≤1*(c+768):=by omega
    _≤2^(r+1)*(c+768):=qv _ this
  ·have:=BM n r (c+(c+768)/4);have h2:c+(c+768)/4+768≤2*(c+768):=by omega
   calc Builtin.growBy n r (c+(c+768)/4)≤2^r*(c+(c+768)/4+768):=this
    _≤2^r*(2*(c+768)):=Hc _ h2
    _=2^(r+1)*(c+768):=by rw[Nat.pow_succ,Nat.mul_assoc]
theorem zH{need cap:Nat}(h:cap<need)(hn:need≤4294967296):Builtin.nextslicecap need cap≤68719493120:=by
 have hc:cap≤4294967296:=by omega
 have hg:Builtin.growBy need 4 cap≤68719493120:=
  kH (BM need 4 cap) (kH (Hc (2^4) (Nat.add_le_add_right hc 768)) (by decide))
 unfold Builtin.nextslicecap;split
 ·exact kH hn (by decide)
 ·split
  ·exact kH (Hc 2 hc) (by decide)
  ·exact hg
theorem jw{w:World}{s:Sl}{sz:Nat}{M:List Lf}(h:pA w s sz M):(Builtin.firstCells sz s.len (Lf.sl s).enc).run P w=.ok (M.map Lf.enc).toArray w:=by
 obtain⟨hl,hn,hr⟩:=h;simp only[Lf.enc];cases hp:s.p with
 |none=>
  have:M=[]:=by
   rw[hn hp]at hl;simp at hl;exact hl
  obtain⟨a,c,hx,_⟩:=s.lR;rw[hx,hn hp];cases a with
  |none=>simp[Builtin.firstCells,this]
  |some a=>simp[Builtin.firstCells,this];rfl
 |some q=>
  rw[Sl.xX hp];simp only[Builtin.firstCells,←hl];exact E1 (hr q hp)
theorem jq.rd{w:World}{s:Sl}{sz:Nat}{L:List Lf}(h:jq w s sz L)(hz:s.p=none→s.len=0):pA w s sz L:=by
 rcases h with⟨h1,h2,rfl⟩|⟨q,C,hp,hb,hle,hc,hC,hL,hi⟩
 ·exact⟨by simp[h1],λ_=>h1,λq _=>trivial⟩
 ·refine⟨hL,hz,λq' hq=>?_⟩;rw[hp]at hq;cases hq;exact hb.reads L q.o hi
theorem jq.Ri{w:World}{s:Sl}{sz:Nat}{L:List Lf}(h:jq w s sz L):s.p=none→s.len=0:=by
 intro hp;rcases h with⟨h1,_,_⟩|⟨q,C,hq,_⟩
 ·exact h1
 ·rw[hp]at hq;cases hq
theorem jq.norm{w:World}{s:Sl}{sz:Nat}{L:List Lf}(h:jq w s sz L):s.enc=.slice (s.p.map Pt.addr) s.len s.cap:=by
 rcases h with⟨_,h2,_⟩|⟨q,C,hp,_⟩
 ·exact Sl.xW (Sl.GV h2)
 ·exact Sl.xW (Sl.zJ hp)
theorem jq.read{w:World}{s:Sl}{sz:Nat}{L:List Lf}(h:jq w s sz L):pA w s sz L:=h.rd h.Ri
theorem lx{C M:List Lf}{o:Nat}(h:o+M.length≤C.length)(i:Nat):(fa C o M)[i]?=if i<o then C[i]? else if i<o+M.length then M[i-o]? else C[i]?:=by
 unfold fa;rw[iD,An];simp only[fU];rw[show min o C.length=o by omega];split
 ·rename_i h1;rw[pn,aF h1]
 ·rename_i h1;rw[An];split
  ·rename_i h2;rw[aF (by omega)]
  ·rename_i h2;rw[aw (by omega),tR]
   congr 1;omega
theorem Ge{w:World}{s x:Sl}{sz:Nat}{L M:List Lf}{ts:Array TypeId}{t ty el:TypeId}{ty2 el2:TypeId}{z:List Lf}(h0:ts[0]?=some ty)(h1:ts[1]?=some ty2)
  (hu:P.underlying ty=some (.slice el)) (hu2:P.underlying ty2=some (.slice el2)) (hz:me P el=some z) (hzl:z.length=sz) (hsz:P.cellsOf el=sz) (hpos:0<sz) (hby:P.bytesOf el≤2048) (hby0:P.bytesOf el≠0)
  (hs:jq w s sz L) (hx:pA w x sz M) (hlen:s.len+x.len≤4294967296):
  ∃w' s',(Builtin.append_ ts t #[(Lf.sl s).enc,(Lf.sl x).enc]).run P w=.ok (Lf.sl s').enc w'∧ju s.own w w'∧jq w' s' sz (L++M)∧s'.len=s.len+x.len∧(∀k,s'.own k→s.own k∨w.heap.size≤k)∧
   (s.cap<s.len+x.len→ju C6 w w'∧∀k,s'.own k→w.heap.size≤k)∧(s.len+x.len≤s.cap→s'=⟨s.p,s.len+x.len,s.cap⟩∧w'.heap.size=w.heap.size):=by
 have hi:(P.info? el).isSome=true:=by
  unfold Program.cellsOf at hsz;cases hh:P.info? el with
  |none=>rw[hh]at hsz;simp at hsz;omega
  |some i=>rfl
 obtain⟨i,hi⟩:=tP.1 hi;have hbi:i.bytes=P.bytesOf el:=by simp[Program.bytesOf,hi]
 obtain⟨ax,cx,hxe,_⟩:=x.lR;have hse:=hs.norm;have hxr:=jw (P:=P) hx;have hsr:=jw (P:=P) hs.read;have hsize:=jV (P:=P) (t:=el) (by omega);by_cases hneed:s.len+x.len≤s.cap
 ·
  have hplace:∃w',((Option.map Pt.addr s.p).elim (pure ():Sem Unit) (λa=>storeCells (a.add (s.len*sz)) (M.map Lf.enc))).run P w=.ok () w'∧ju s.own w w'∧jq w' ⟨s.p,s.len+x.len,s.cap⟩ sz (L++M)∧w'.heap.size=w.heap.size:=by
   rcases hs with⟨e1,e2,rfl⟩|⟨q,C,hp,hb,hle,hc,hC,hL,hgi⟩
   ·have e3:x.len=0:=(by omega);have:M=[]:=by
     have:=hx.1;rw[e3]at this;simp at this;exact this
    subst this;refine⟨w,?_,ju.refl _ _,.inl ⟨by simp;omega,e2,rfl⟩,rfl⟩;cases s.p<;>simp[storeCells]
   ·have hlm:M.length=x.len*sz:=hx.1;have hbound:q.o+s.len*sz+M.length≤C.length:=by
     have:(s.len+x.len)*sz≤s.cap*sz:=qv _ hneed;rw[kJ]at this;omega
    obtain⟨w',r1,r2,r3,r4⟩:=nZ (P:=P) M C (q.o+s.len*sz) 0 hb (by simpa using hbound);refine⟨w',?_,r2.mono (λk _ hk=>⟨q,hp,hk,hc⟩),.inr ⟨q,_,hp,r3,hneed,hc,?_,?_,?_⟩,r4⟩
    ·simp only[hp,rf,Option.elim_some,add_eq];exact r1
    ·rw[vZ,kW hbound];exact hC
    ·simp only[eQ,hL,hlm,kJ]
    ·intro j hj;simp only[eQ]at hj;rw[vZ,lx hbound,An];by_cases hjl:j<L.length
     ·rw[aF (by omega),aF hjl];exact hgi j hjl
     ·rw[aw (by omega),aF (by omega),aw hjl]
      congr 1;omega
  obtain⟨w',r1,r2,r3,r4⟩:=hplace;refine⟨w',⟨s.p,s.len+x.len,s.cap⟩,?_,r2,r3,rfl,λk ⟨q,h1,h2,h3⟩=>.inl ⟨q,h1,h2,h3⟩,λh=>by omega,λ_=>⟨rfl,r4⟩⟩;have hst:(Builtin.append_ ts t #[(Lf.sl s).enc,(Lf.sl x).enc]).run P w=(((Option.map Pt.addr s.p).elim (pure ():Sem Unit) (λa=>storeCells (a.add (s.len*sz)) (M.map Lf.enc))).run P w).andThen λ_ w'=>.ok (.slice (Option.map Pt.addr s.p) (s.len+x.len) s.cap) w':=by
   simp only[Lf.enc,hse,hxe]at hxr⊢;simp only[Builtin.append_,h0,h1,cA,fk hu,fk hu2,hsize,dH,B5,Am,Db,eg,Builtin.lenOf,
    js,jt,rh,Bool.not_false,iF,hneed,hsz,hxr]
   cases s.p<;>simp
  rw[hst,r1];show Result.ok _ _=Result.ok (Sl.enc _) _;rw[r3.norm]
 ·
  have hlt:s.cap<s.len+x.len:=by omega
  have h63:¬(((s.len+x.len:Nat):Int)>IntKind.i64.max∧(false=true∨i.bytes=0)):=λhh=>by
   rcases hh.2 with h|h
   ·cases h
   ·exact hby0 (by rw[←hbi];exact h)
  have h48:¬(Builtin.nextslicecap (s.len+x.len) s.cap*i.bytes>2^48):=by
   have h1:=zH hlt hlen;have h2:i.bytes≤2048:=(by omega);have h3:Builtin.nextslicecap (s.len+x.len) s.cap*i.bytes≤68719493120*2048:=Nat.mul_le_mul h1 h2;have h4:(68719493120*2048:Nat)≤2^48:=(by decide);omega
  obtain⟨nc,hnc,hge⟩:∃nc,(Question.appendCap (s.len+x.len) s.cap el).cut (w.tape w.drawn (.appendCap (s.len+x.len) s.cap el))=nc∧s.len+x.len≤nc:=⟨_,rfl,by simp[Question.cut]⟩;obtain⟨w1,hw1⟩:∃w1:World,w1={w with drawn:=w.drawn+1}:=⟨_,rfl⟩;have hheap:w1.heap=w.heap:=by rw[hw1]
  have ext1:ju C6 w w1:=by rw[hw1];exact⟨rfl,rfl,rfl,eM _,λ_ _ _=>rfl,λ_ h=>h⟩
  have hx1:pA w1 x sz M:=⟨hx.1,hx.2.1,λq hq=>by
   have:=hx.2.2 q hq;clear hxr;generalize q.o=o at this⊢;clear hx
   induction M generalizing o with
   |nil=>trivial
   |cons m M ih=>exact⟨by rw[←this.1];simp[World.cell?,hheap],ih _ this.2⟩⟩
  have hs1:jq w1 s sz L:=by
   rcases hs with h|⟨q,C,a,⟨T,hb⟩,r⟩
   ·exact .inl h
   ·exact .inr ⟨q,C,a,⟨T,by rw[hheap];exact hb⟩,r⟩
  have hxr1:=jw (P:=P) hx1;have hsr1:=jw (P:=P) hs1.read;obtain⟨zv,hzv,hzc⟩:=ng hz w1;obtain⟨cells,hcells⟩:∃cells,cells=L++M++kR (nc-(s.len+x.len)) z:=⟨_,rfl⟩;refine⟨{w1 with heap:=w1.heap.push (.cells (cells.map Lf.enc).toArray el)},⟨some ⟨w1.heap.size,0⟩,s.len+x.len,nc⟩,?_,ext1.trans' (km w1 _) (λk _ h=>h.elim) |>.mono (λk _ h=>h.elim),.inr ⟨⟨w1.heap.size,0⟩,cells,rfl,wV w1 cells el,hge,?_,?_,?_,?_⟩,rfl,?_,λ_=>⟨ext1.trans (km w1 _),?_⟩,λh=>by omega⟩
  ·simp only[Lf.enc,hse,hxe]at hxr1 hsr1⊢;simp only[Builtin.append_,h0,h1,cA,fk hu,fk hu2,hsize,dH,B5,Am,Db,eg,Builtin.lenOf,
    js,jt,rh,Bool.not_false,iF,hneed]
   simp only[typeInfo,cA,xA,hi,dH,eg,false_or];simp only[js,false_or]at h63;rw[aw h63,aw h48];simp only[cA,run_choose,Question.forced,js,jt,dH,hnc,←hw1,run_askRoom,hsr1,hxr1,hsz,hzv,hzc,newRow,xD,eg];rw[jx hzl hpos,Sl.xX (s:=⟨some ⟨w1.heap.size,0⟩,_,_⟩) rfl];simp[hcells]
  ·show nc≠0;omega
  ·simp only[hcells,eQ,qQ,hs.read.1,hx.1,hzl,nN];have:nc*sz=s.len*sz+x.len*sz+(nc-(s.len+x.len))*sz:=by
    rw[←kJ,←kJ]
    congr 1;omega
   omega
  ·simp only[eQ,hs.read.1,hx.1,kJ]
  ·intro j hj;rw[nN,hcells,An,aF hj]
  ·rintro k ⟨q,h1,h2,_⟩;cases h1;exact .inr (by rw[h2,hheap];exact eM _)
  ·rintro k ⟨q,h1,h2,_⟩;cases h1;rw[h2,hheap];exact eM _
set_option linter.unusedSimpArgs false in
set_option linter.unusedVariables false in
theorem Eo{w:World}{s:Sl}{kx:IntKind}{nx:Int}{sz:Nat}{L:List Lf}{ts:Array TypeId}{t ty el:TypeId}{ty2:TypeId}{k2:IntKind}{z:List Lf}(h0:ts[0]?=some ty)(h1:ts[1]?=some ty2)
  (hu:P.underlying ty=some (.slice el)) (hu2:P.underlying ty2=some (.int k2)) (hz:me P el=some z) (hzl:z.length=sz) (hsz:P.cellsOf el=sz) (hpos:0<sz) (hby:P.bytesOf el≤2048) (hby0:P.bytesOf el≠0)
  (hs:jq w s sz L) (hx0:0≤nx) (hlen0:(s.len:Int)+nx≤4294967296):
  ∃w' s',(Builtin.append_ ts t #[(Lf.sl s).enc,Value.int kx nx]).run P w=.ok (Lf.sl s').enc w'∧ju s.own w w'∧jq w' s' sz (L++kR nx.toNat z)∧s'.len=s.len+nx.toNat∧(∀k,s'.own k→s.own k∨w.heap.size≤k)∧
   (s.cap<s.len+nx.toNat→ju C6 w w'∧∀k,s'.own k→w.heap.size≤k)∧(s.len+nx.toNat≤s.cap→s'=⟨s.p,s.len+nx.toNat,s.cap⟩∧w'.heap.size=w.heap.size):=by
 obtain⟨xl,hxl⟩:∃xl,xl=nx.toNat:=⟨_,rfl⟩;obtain⟨M,hM⟩:∃M,M=kR xl z:=⟨_,rfl⟩;have hMl:M.length=xl*sz:=by rw[hM,qQ,hzl]
 have hlen:s.len+xl≤4294967296:=by omega
 rw[←hxl,←hM];have hw1':IntKind.i64.wrap nx=nx:=by simp[IntKind.wrap,IntKind.bits,IntKind.signed];omega
 have hi:(P.info? el).isSome=true:=by
  unfold Program.cellsOf at hsz;cases hh:P.info? el with
  |none=>rw[hh]at hsz;simp at hsz;omega
  |some i=>rfl
 obtain⟨i,hi⟩:=tP.1 hi;have hbi:i.bytes=P.bytesOf el:=by simp[Program.bytesOf,hi]
 have hsr:=jw (P:=P) hs.read;have hsize:=jV (P:=P) (t:=el) (by omega);have hbig:¬nx*(i.bytes:Int)>2^48:=by
  have h1:(i.bytes:Int)≤2048:=by omega
  have h2:nx*(i.bytes:Int)≤4294967296*2048:=Dt (by omega) h1 (by omega) (by omega);have h3:(4294967296*2048:Int)≤2^48:=by decide
  omega
 obtain⟨zv0,hzv0,hzc0⟩:=ng hz w;by_cases hneed:s.len+xl≤s.cap
 ·
  have hplace:∃w',((Option.map Pt.addr s.p).elim (pure ():Sem Unit) (λa=>storeCells (a.add (s.len*sz)) (M.map Lf.enc))).run P w=.ok () w'∧ju s.own w w'∧jq w' ⟨s.p,s.len+xl,s.cap⟩ sz (L++M)∧w'.heap.size=w.heap.size:=by
   rcases hs with⟨e1,e2,rfl⟩|⟨q,C,hp,hb,hle,hc,hC,hL,hgi⟩
   ·have e3:xl=0:=(by omega);have:M=[]:=by
     have:=hMl;rw[e3]at this;simp at this;exact this
    subst this;refine⟨w,?_,ju.refl _ _,.inl ⟨by simp;omega,e2,rfl⟩,rfl⟩;cases s.p<;>simp[storeCells]
   ·have hlm:M.length=xl*sz:=hMl;have hbound:q.o+s.len*sz+M.length≤C.length:=by
     have:(s.len+xl)*sz≤s.cap*sz:=qv _ hneed;rw[kJ]at this;omega
    obtain⟨w',r1,r2,r3,r4⟩:=nZ (P:=P) M C (q.o+s.len*sz) 0 hb (by simpa using hbound);refine⟨w',?_,r2.mono (λk _ hk=>⟨q,hp,hk,hc⟩),.inr ⟨q,_,hp,r3,hneed,hc,?_,?_,?_⟩,r4⟩
    ·simp only[hp,rf,Option.elim_some,add_eq];exact r1
    ·rw[vZ,kW hbound];exact hC
    ·simp only[eQ,hL,hlm,kJ]
    ·intro j hj;simp only[eQ]at hj;rw[vZ,lx hbound,An];by_cases hjl:j<L.length
     ·rw[aF (by omega),aF hjl];exact hgi j hjl
     ·rw[aw (by omega),aF (by omega),aw hjl]
      congr 1;omega
  obtain⟨w',r1,r2,r3,r4⟩:=hplace;refine⟨w',⟨s.p,s.len+xl,s.cap⟩,?_,r2,r3,rfl,λk ⟨q,h1,h2,h3⟩=>.inl ⟨q,h1,h2,h3⟩,λh=>by omega,λ_=>⟨rfl,r4⟩⟩;have hst:(Builtin.append_ ts t #[(Lf.sl s).enc,Value.int kx nx]).run P w=(((Option.map Pt.addr s.p).elim (pure ():Sem Unit) (λa=>storeCells (a.add (s.len*sz)) (M.map Lf.enc))).run P w).andThen λ_ w'=>.ok (.slice (Option.map Pt.addr s.p) (s.len+xl) s.cap) w':=by
   simp only[Lf.enc,hs.norm];simp only[Builtin.append_,h0,h1,cA,fk hu,fk hu2,hsize,dH,B5,Am,Db,eg,iF,asInt,asIntOf,hw1',rh,
    aw (show ¬nx<0 by omega),typeInfo,xA,hi,aw hbig,←hxl,Bool.not_true,js,jt,hneed,hsz]
   by_cases h00:xl*sz=0
   ·have hM0:M=[]:=nX (by rw[hMl];exact h00);simp only[aF h00,eg,dH,hM0];cases s.p<;>simp
   ·simp only[aw h00,cA,hzv0,hzc0,dH,eg];rw[jx hzl hpos,←hM];cases s.p<;>simp
  rw[hst,r1];show Result.ok _ _=Result.ok (Sl.enc _) _;rw[r3.norm]
 ·
  have hlt:s.cap<s.len+xl:=by omega
  have h48:¬(Builtin.nextslicecap (s.len+xl) s.cap*i.bytes>2^48):=by
   have h1:=zH hlt hlen;have h2:i.bytes≤2048:=(by omega);have h3:Builtin.nextslicecap (s.len+xl) s.cap*i.bytes≤68719493120*2048:=Nat.mul_le_mul h1 h2;have h4:(68719493120*2048:Nat)≤2^48:=(by decide);omega
  obtain⟨nc,hnc,hge⟩:∃nc,(Question.appendCap (s.len+xl) s.cap el).cut (w.tape w.drawn (.appendCap (s.len+xl) s.cap el))=nc∧s.len+xl≤nc:=⟨_,rfl,by simp[Question.cut]⟩;obtain⟨w1,hw1⟩:∃w1:World,w1={w with drawn:=w.drawn+1}:=⟨_,rfl⟩;have hheap:w1.heap=w.heap:=by rw[hw1]
  have ext1:ju C6 w w1:=by rw[hw1];exact⟨rfl,rfl,rfl,eM _,λ_ _ _=>rfl,λ_ h=>h⟩
  have hs1:jq w1 s sz L:=by
   rcases hs with h|⟨q,C,a,⟨T,hb⟩,r⟩
   ·exact .inl h
   ·exact .inr ⟨q,C,a,⟨T,by rw[hheap];exact hb⟩,r⟩
  have hsr1:=jw (P:=P) hs1.read;obtain⟨zv,hzv,hzc⟩:=ng hz w1;obtain⟨cells,hcells⟩:∃cells,cells=L++M++kR (nc-(s.len+xl)) z:=⟨_,rfl⟩;refine⟨{w1 with heap:=w1.heap.push (.cells (cells.map Lf.enc).toArray el)},⟨some ⟨w1.heap.size,0⟩,s.len+xl,nc⟩,?_,ext1.trans' (km w1 _) (λk _ h=>h.elim) |>.mono (λk _ h=>h.elim),.inr ⟨⟨w1.heap.size,0⟩,cells,rfl,wV w1 cells el,hge,?_,?_,?_,?_⟩,rfl,?_,λ_=>⟨ext1.trans (km w1 _),?_⟩,λh=>by omega⟩
  ·simp only[Lf.enc,hs.norm]at hsr1⊢;have h63:¬(((s.len+xl:Nat):Int)>IntKind.i64.max):=by
    have:IntKind.i64.max=9223372036854775807:=rfl;rw[this];omega
   simp only[Builtin.append_,h0,h1,cA,fk hu,fk hu2,hsize,dH,B5,Am,Db,eg,iF,asInt,asIntOf,hw1',rh,
    aw (show ¬nx<0 by omega),typeInfo,xA,hi,aw hbig,←hxl,Bool.not_true,js,jt,hneed,true_or,and_true,aw h63,aw h48]
   simp only[cA,run_choose,Question.forced,js,jt,dH,hnc,←hw1,run_askRoom,hsr1,hsz,newRow,xD,eg,rh];by_cases h00:xl*sz=0
   ·have hM0:M=[]:=nX (by rw[hMl];exact h00);simp only[aF h00,eg,dH,hzv,hzc];rw[jx hzl hpos,Sl.xX (s:=⟨some ⟨w1.heap.size,0⟩,_,_⟩) rfl];simp[hcells,hM0]
   ·simp only[aw h00,cA,hzv,hzc,dH,eg];rw[jx hzl hpos,jx hzl hpos,←hM,Sl.xX (s:=⟨some ⟨w1.heap.size,0⟩,_,_⟩) rfl];simp[hcells]
  ·show nc≠0;omega
  ·simp only[hcells,eQ,qQ,hs.read.1,hMl,hzl,nN];have:nc*sz=s.len*sz+xl*sz+(nc-(s.len+xl))*sz:=by
    rw[←kJ,←kJ]
    congr 1;omega
   omega
  ·simp only[eQ,hs.read.1,hMl,kJ]
  ·intro j hj;rw[nN,hcells,An,aF hj]
  ·rintro k ⟨q,h1,h2,_⟩;cases h1;exact .inr (by rw[h2,hheap];exact eM _)
  ·rintro k ⟨q,h1,h2,_⟩;cases h1;rw[h2,hheap];exact eM _
end Go.X

