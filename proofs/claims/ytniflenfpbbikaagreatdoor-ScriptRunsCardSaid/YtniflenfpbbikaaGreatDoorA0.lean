/- A logic of Go code. -/
import Derived.Carry
import Derived.ChangeSlices
import Derived.Deep.LoopGhost
import Derived.KernelRfl
import Derived.Laws.Externs
import Derived.Laws.IdiomStrings
import Derived.MapKept
import Derived.OpenShut
import Derived.OrdersIn
import Derived.ProofKit
import Derived.RangeFuncKeeps
import Derived.RangeFuncLeaves
import Derived.RangeFuncRecord
import Derived.WalkKit
set_option linter.all false
namespace Go.X
abbrev ay:=@if_neg
abbrev aG:=@if_pos
abbrev bY:=@of_decide_eq_false
abbrev bV:=@of_decide_eq_true
abbrev dI:=@Result.andThen_ok
abbrev cz:=@Sem.run_bind
abbrev eX:=@Int.toNat_natCast
abbrev eQ:=@List.mem_append
abbrev jx:=@List.getElem?_eq_getElem
abbrev gp:=@List.length_append
abbrev d_:=@Bool.and_eq_true
abbrev jE:=@List.eq_nil_of_length_eq_zero
abbrev iy:=@List.getElem?_eq_some_iff
abbrev ec:=@List.mem_cons
abbrev gI:=@List.mem_of_getElem?
abbrev eh:=@Sem.run_pure
abbrev fO:=@List.length_take
abbrev fz:=@List.length_map
abbrev iY:=@Nat.ble_eq_true_of_le
abbrev fq:=@run_underlying
abbrev gg:=@List.length_cons
abbrev jZ:=@List.take_of_length_le
abbrev eE:=@Nat.le_refl
abbrev c_:=@congrArg
abbrev mD:=@Int.tdiv_eq_ediv_of_nonneg
abbrev jo:=@Bool.false_eq_true
abbrev iZ:=@decide_eq_true_eq
abbrev nJ:=@List.getD_eq_getElem?_getD
abbrev j_:=@List.mem_singleton
abbrev jF:=@List.append_assoc
abbrev mc:=@List.length_singleton
abbrev ka:=@List.nodup_append
abbrev pk:=@Array.getElem?_eq_some_iff
abbrev jG:=@Bool.eq_iff_iff
abbrev kV:=@List.getElem?_map
abbrev pn:=@List.getElem?_append_left
abbrev kb:=@List.length_nil
abbrev gJ:=@Nat.zero_le
abbrev nb:=@List.mem_cons_of_mem
abbrev lC:=@List.take_add_one
abbrev gQ:=@Int.le_refl
abbrev lD:=@List.nodup_cons
abbrev lE:=@Option.some.inj
abbrev kJ:=@List.map_cons
abbrev me:=@List.map_append
abbrev qv:=@List.mem_iff_getElem?
abbrev qw:=@Nat.eq_of_beq_eq_true
abbrev nK:=@Bool.not_eq_true'
abbrev nL:=@Option.some.injEq
abbrev t_:=@List.getElem?_append_right
abbrev qx:=@Nat.mul_le_mul_right
abbrev nM:=@List.cons_append
abbrev nN:=@List.length_drop
abbrev rj:=@List.getElem?_eq_none
abbrev po:=@List.getElem?_take
abbrev pq:=@List.mem_cons_self
abbrev kW:=@Nat.le_trans
abbrev mE:=@decide_eq_true
abbrev sD:=@List.getElem?_set_self
abbrev kK:=@Nat.add_mul
abbrev ua:=@Option.isSome_iff_exists
abbrev nO:=@decide_eq_false
abbrev pr:=@List.nil_append
abbrev qy:=@List.getElem_mem
abbrev xX:=@List.drop_eq_getElem_cons
abbrev jp:=@if_false
abbrev iz:=@if_true
abbrev nP:=@Nat.zero_add
abbrev xY:=@Option.bind_eq_some_iff
abbrev rn:=@List.append_nil
abbrev ub:=@List.getElem?_drop
abbrev rp:=@List.length_set
abbrev uc:=@List.pairwise_cons
abbrev rq:=@Option.map_some
abbrev sE:=@List.take_length
abbrev pu:=@List.mem_map
abbrev FA:=@List.findIdx?_eq_some_iff_getElem
abbrev Au:=@List.getElem?_cons_zero
abbrev xZ:=@List.getElem?_set_ne
abbrev vZ:=@not_false_eq_true
abbrev ud:=@List.mem_filter
abbrev v7:=@List.drop_length
abbrev lF:=@Iff.rfl
abbrev Av:=@List.getElem?_append
abbrev FB:=@Array.getD_eq_getD_getElem?
abbrev Aw:=@List.filter_eq_self
abbrev Ax:=@List.takeWhile_cons
abbrev Cb:=@List.drop_of_length_le
abbrev ru:=@Sem.run_ite
abbrev FC:=@Int.tmod_eq_emod_of_nonneg
abbrev v8:=@List.drop_zero
abbrev Cc:=@List.getElem?_toArray
abbrev mF:=@Ne.symm
abbrev FD:=@Array.getElem?_eq_getElem
abbrev Cd:=@List.mem_iff_getElem
abbrev Ay:=@List.flatMap_cons
abbrev v_:=@Int.mul_assoc
abbrev FE:=@Nat.add_sub_cancel_left
abbrev FF:=@List.drop_eq_nil_of_le
abbrev wb:=@Nat.add_zero
abbrev uV:=@Bool.or_eq_true
abbrev Ac:=@List.length_filter_le
abbrev xj:=@Decidable.not_not
abbrev Ad:=@Array.size_replicate
abbrev Di:=@Classical.byContradiction
abbrev Ae:=@List.mem_append_left
abbrev Af:=@List.mem_of_mem_take
abbrev Ag:=@List.pairwise_append
abbrev uW:=@Int.mul_nonneg
abbrev xk:=@decide_eq_decide
abbrev Ah:=@Int.toNat_of_nonneg
abbrev G_:=@Array.getElem?_setIfInBounds_ne
abbrev Dj:=@List.getElem?_cons_succ
abbrev Dk:=@decide_eq_false_iff_not
abbrev Ai:=@Nat.eq_zero_or_pos
abbrev Aj:=@Nat.lt_of_lt_of_le
abbrev qQ:=@beq_iff_eq
abbrev Dl:=@Int.le_ediv_iff_mul_le
abbrev Dm:=@MapKept.run_getObj_map
abbrev Dn:=@Option.map_eq_some_iff
abbrev Dp:=@Array.getElem?_modify
abbrev Dq:=@List.length_replicate
abbrev Dr:=@List.singleton_append
abbrev Ds:=@Bool.or_eq_false_iff
abbrev Ak:=@Int.ediv_le_self
abbrev Al:=@List.drop_append
abbrev Am:=@List.filter_cons
abbrev An:=@Nat.lt_succ_self
abbrev uX:=@Nat.le_succ
abbrev Dt:=@MapKept.run_findKey
abbrev xm:=@Bool.not_not
abbrev xn:=@Int.le_trans
abbrev xo:=@Int.mul_comm
abbrev Du:=@List.filter_append
abbrev Ha:=@World.putObj_heap_other
abbrev Dw:=@Classical.not_not
abbrev Dx:=@List.size_toArray
abbrev Hb:=@Nat.ne_of_beq_eq_false
abbrev Hc:=@run_convert_bytes_back
abbrev xp:=@run_program
abbrev Ao:=@Bool.false_or
abbrev Ap:=@Oper.semAt_eq
abbrev Hd:=@List.set_append_right
abbrev He:=@List.take_append_drop
abbrev Hf:=@Nat.le_of_ble_eq_true
abbrev Aq:=@List.takeWhile_append_dropWhile
abbrev Dy:=@Int.ediv_nonneg
abbrev NX:=@Int.mul_le_mul_of_nonneg_right
abbrev Dz:=@List.foldl_cons
abbrev NY:=@Nat.and_two_pow_sub_one_eq_mod
abbrev xq:=@Nat.beq_eq
abbrev xr:=@Nat.ble_eq
abbrev Ar:=@Nat.mul_comm
abbrev As:=@Prod.ext_iff
abbrev xt:=@run_newObj
abbrev NZ:=@List.take_append_of_le_length
abbrev Hg:=@List.dropWhile_cons
abbrev Hh:=@List.replicate_succ
abbrev Hi:=@Nat.mul_le_mul_left
abbrev Hj:=@beq_eq_false_iff_ne
abbrev DA:=@Int.mul_le_mul
abbrev N0:=@List.dropLast_concat_getLast
abbrev DB:=@List.drop_left
abbrev DC:=@List.mapM_cons
abbrev DE:=@List.take_left
abbrev DF:=@List.take_zero
abbrev Hk:=@List.erase_sublist
abbrev qR:=@not_or
abbrev N1:=@Array.getElem?_append_left
abbrev N2:=@Int.fdiv_eq_ediv_of_nonneg
abbrev N3:=@List.nodup_iff_pairwise_ne
abbrev DG:=@Nat.add_assoc
abbrev Hl:=@DataW.trod_string
abbrev Hm:=@List.Sublist.refl
abbrev Hn:=@List.ext_getElem?
abbrev N4:=@List.append_eq_append_iff
abbrev N5:=@List.findIdx?_eq_none_iff
abbrev N6:=@Option.isNone_iff_eq_none
abbrev N8:=@RowKit.Below.heap_setCell
abbrev N9:=@Array.getElem?_replicate
abbrev Ho:=@BitVec.toNat_and
abbrev Hp:=@DataW.trod_slice
abbrev DH:=@List.map_nil
abbrev DI:=@Nat.beq_refl
abbrev DJ:=@Nat.zero_mul
abbrev Hq:=@Option.getD_some
abbrev xu:=@Prod.ext
abbrev N_:=@Int.eq_ofNat_of_zero_le
abbrev Oa:=@List.countP_cons_of_neg
abbrev Ob:=@RowKit.Below.heap_alloc
abbrev Hr:=@DataW.trod_bool
abbrev Hs:=@Nat.div_add_mod
abbrev Ht:=@Nat.mul_eq_zero
abbrev Hu:=@Oper.upon_value
abbrev Oc:=@Int.ediv_eq_zero_of_lt
abbrev Od:=@MapKept.run_setObj_map
abbrev Oe:=@World.putObj_heap_same
abbrev Of:=@Classical.choose_spec
abbrev Hv:=@DataW.trod_int
abbrev Og:=@Int.ediv_lt_of_lt_mul
abbrev Hw:=@List.drop_drop
abbrev Oh:=@List.perm_append_comm
abbrev Hx:=@Prod.mk.injEq
abbrev Hy:=@List.set_set
abbrev Hz:=@List.sum_nil
abbrev HA:=@Nat.mul_zero
structure Pt where
 b:Nat
 o:Nat
structure Sl where
 p:Option Pt
 len:Nat
 cap:Nat
inductive Fv where
 |nil
 |mk (fn:Fn) (first captured:List Value)
inductive CK where
 |int (k:IntKind)|bool|ptr|sl|str|fn|PG
abbrev CK.T:CK→Type
 |.int _=>Int
 |.bool=>Bool
 |.ptr=>Option Pt
 |.sl=>Sl
 |.str=>ByteArray
 |.fn=>Fv
 |.PG=>Unit
inductive Lf where
 |int (k:IntKind) (n:Int)|bool (b:Bool)|ptr (p:Option Pt)|sl (s:Sl)|str (s:ByteArray)|fn (f:Fv)|SV|mp (r:Nat)
abbrev Pt.addr(p:Pt):Addr:=⟨p.b,p.o,none⟩
def Ln:Nat→Nat×Nat
 |0=>(0,0)
 |n+1=>match(Ln n).1 with
  |0=>((Ln n).2+1,0)
  |a+1=>(a,(Ln n).2+1)
def Y8:Nat→Nat
 |0=>0
 |n+1=>Y8 n+n+1
theorem D4:∀(s b:Nat),b≤s→Ln (Y8 s+b)=(s-b,b)
 |s,b+1,h=>by
  have:=D4 s b (by omega);rw[←DG];simp only[Ln,this];obtain⟨c,hc⟩:∃c,s-b=c+1:=⟨s-b-1,by omega⟩;rw[hc];simp only[Hx,and_true];omega
 |0,0,_=>rfl
 |s+1,0,_=>by
  have:=D4 s s (eE _);rw[Nat.sub_self]at this;show Ln (Y8 s+s+1)=_;simp only[Ln,this];simp
theorem Jm(a b:Nat):∃n,Ln n=(a,b):=⟨Y8 (a+b)+b,by rw[D4 _ _ (by omega)];simp⟩
def Ff(n:Nat):Addr:=⟨(Ln n).1,(Ln (Ln n).2).1,some (Ln (Ln n).2).2⟩
theorem Ny(b o k:Nat):∃n,Ff n=⟨b,o,some k⟩:=by
 obtain⟨m,hm⟩:=Jm o k;obtain⟨n,hn⟩:=Jm b m;exact⟨n,by simp[Ff,hn,hm]⟩
def Sl.yj(s:Sl):Bool:=s.p.isNone&&(Nat.beq s.len 0&&!(Nat.beq s.cap 0))
def Sl.cp(s:Sl):Nat:=cond s.yj 0 s.cap
def Sl.isNil(s:Sl):Bool:=s.p.isNone&&!s.yj
def Sl.enc(s:Sl):Value:=match s.yj with
 |true=>.slice (some (Ff (s.cap-1))) 0 0
 |false=>.slice (s.p.map Pt.addr) s.len s.cap
theorem Sl.Nz{s:Sl}(h:s.yj=true):s.p=none∧s.len=0∧s.cap≠0:=by
 simp only[Sl.yj,d_,nK,N6]at h;exact⟨h.1,qw h.2.1,λe=>by have:=h.2.2;rw[e]at this;cases this⟩
theorem Sl.xO{s:Sl}(h:s.yj=false):s.enc=.slice (s.p.map Pt.addr) s.len s.cap:=by unfold Sl.enc;rw[h]
theorem Sl.sa(q:Pt)(l c:Nat):Sl.enc ⟨some q,l,c⟩=.slice (some q.addr) l c:=rfl
theorem Sl.zP{s:Sl}{q:Pt}(h:s.p=some q):s.yj=false:=by simp[Sl.yj,h]
theorem Sl.GZ{s:Sl}(h:s.cap=0):s.yj=false:=by rw[Sl.yj,h];simp
theorem Sl.xP{s:Sl}{q:Pt}(h:s.p=some q):s.enc=.slice (some q.addr) s.len s.cap:=by rw[Sl.xO (Sl.zP h),h];rfl
theorem Sl.lU(s:Sl):∃a c,s.enc=.slice a s.len c∧(s.yj=false→a=s.p.map Pt.addr∧c=s.cap)∧c=s.cp∧(a=none↔s.isNil=true):=by
 cases h:s.yj with
 |true=>
  obtain⟨h1,h2,_⟩:=Sl.Nz h;refine⟨some (Ff (s.cap-1)),0,by unfold Sl.enc;rw[h,h2],λh=>(by cases h),by rw[Sl.cp,h];rfl,?_⟩;rw[Sl.isNil,h];simp
 |false=>exact⟨s.p.map Pt.addr,s.cap,Sl.xO h,λ_=>⟨rfl,rfl⟩,by rw[Sl.cp,h];rfl,by rw[Sl.isNil,h];simp⟩
def Fv.enc:Fv→Value
 |.nil=>.nilFunc
 |.mk f a c=>.func f a.toArray c.toArray
def Lf.enc:Lf→Value
 |.int k n=>.int k n
 |.bool b=>.bool b
 |.ptr p=>.pointer (p.map Pt.addr)
 |.sl s=>s.enc
 |.str s=>.string s
 |.fn f=>f.enc
 |.SV=>.nilIface
 |.mp r=>.map (some r)
def CK.mk:(c:CK)→c.T→Lf
 |.int k,n=>.int k n
 |.bool,b=>.bool b
 |.ptr,p=>.ptr p
 |.sl,s=>.sl s
 |.str,s=>.str s
 |.fn,f=>.fn f
 |.PG,_=>.SV
def CK.un:(c:CK)→Lf→Option c.T
 |.int k,.int k' n=>if k=k' then some n else none
 |.bool,.bool b=>some b
 |.ptr,.ptr p=>some p
 |.sl,.sl s=>some s
 |.str,.str s=>some s
 |.fn,.fn f=>some f
 |.PG,.SV=>some ()
 |_,_=>none
abbrev Ks:=List CK
abbrev Ks.T:List CK→Type
 |[]=>Unit
 |[c]=>c.T
 |c::d::r=>c.T×Ks.T (d::r)
def Ks.mk:(cs:List CK)→Ks.T cs→List Lf
 |[],_=>[]
 |[c],x=>[c.mk x]
 |c::d::r,x=>c.mk x.1::Ks.mk (d::r) x.2
def Ks.un:(cs:List CK)→List Lf→Option (Ks.T cs)
 |[],[]=>some ()
 |[c],[l]=>c.un l
 |c::d::r,l::ls=>match c.un l with
  |some x=>match Ks.un (d::r) ls with
   |some y=>some (x,y)
   |none=>none
  |none=>none
 |_,_=>none
inductive V1 where
 |lf (l:Lf)
 |agg (ls:List Lf)
def V1.enc:V1→Value
 |.lf l=>l.enc
 |.agg ls=>.agg (ls.map Lf.enc).toArray
def V1.Kq:V1→List Lf
 |.lf l=>[l]
 |.agg ls=>ls
inductive TV where
 |one (v:V1)
 |O_ (vs:List V1)
def TV.enc:TV→Value
 |.one v=>v.enc
 |.O_ vs=>.tuple (vs.map V1.enc).toArray
inductive Sh where
 |lf (c:CK)
 |agg (cs:List CK)
abbrev Sh.T:Sh→Type
 |.lf c=>c.T
 |.agg cs=>Ks.T cs
def Sh.mk:(s:Sh)→s.T→V1
 |.lf c,x=>.lf (c.mk x)
 |.agg cs,x=>.agg (Ks.mk cs x)
abbrev Rs.T:List Sh→Type
 |[]=>Unit
 |[s]=>s.T
 |s::t::r=>s.T×Rs.T (t::r)
def Rs.mk:(rs:List Sh)→Rs.T rs→List V1
 |[],_=>[]
 |[s],x=>[s.mk x]
 |s::t::r,x=>s.mk x.1::Rs.mk (t::r) x.2
def nf:List V1→TV
 |[v]=>.one v
 |vs=>.O_ vs
def Sh.un:(s:Sh)→V1→Option s.T
 |.lf c,.lf l=>c.un l
 |.agg cs,.agg ls=>Ks.un cs ls
 |_,_=>none
def Rs.un:(rs:List Sh)→List V1→Option (Rs.T rs)
 |[],[]=>some ()
 |[s],[v]=>s.un v
 |s::t::r,v::vs=>match s.un v with
  |some x=>match Rs.un (t::r) vs with
   |some y=>some (x,y)
   |none=>none
  |none=>none
 |_,_=>none
theorem CK.iF{c:CK}{l:Lf}{x:c.T}(h:c.un l=some x):c.mk x=l:=by cases c<;>cases l<;>simp_all[CK.un,CK.mk]
theorem Ks.iF:∀{cs:List CK} {ls:List Lf} {x:Ks.T cs},Ks.un cs ls=some x→Ks.mk cs x=ls
 |[],[],_,_=>rfl
 |[],_::_,_,h=>by simp[Ks.un]at h
 |[c],[],_,h=>by simp[Ks.un]at h
 |[c],[l],x,h=>by simp only[Ks.un]at h;simp only[Ks.mk];rw[CK.iF h]
 |[c],_::_::_,_,h=>by simp[Ks.un]at h
 |c::d::r,[],_,h=>by simp[Ks.un]at h
 |c::d::r,l::ls,x,h=>by
  simp only[Ks.un]at h;split at h
  ·rename_i y hy;split at h
   ·rename_i z hz;cases h;simp only[Ks.mk];rw[CK.iF hy,Ks.iF hz]
   ·cases h
  ·cases h
theorem Sh.iF{s:Sh}{v:V1}{x:s.T}(h:s.un v=some x):s.mk x=v:=by
 cases s with
 |lf c=>cases v with
  |lf l=>simp only[Sh.un]at h;simp only[Sh.mk];rw[CK.iF h]
  |agg ls=>simp[Sh.un]at h
 |agg cs=>cases v with
  |lf l=>simp[Sh.un]at h
  |agg ls=>simp only[Sh.un]at h;simp only[Sh.mk];rw[Ks.iF h]
theorem Rs.iF:∀{rs:List Sh} {vs:List V1} {x:Rs.T rs},Rs.un rs vs=some x→Rs.mk rs x=vs
 |[],[],_,_=>rfl
 |[],_::_,_,h=>by simp[Rs.un]at h
 |[c],[],_,h=>by simp[Rs.un]at h
 |[c],[l],x,h=>by simp only[Rs.un]at h;simp only[Rs.mk];rw[Sh.iF h]
 |[c],_::_::_,_,h=>by simp[Rs.un]at h
 |c::d::r,[],_,h=>by simp[Rs.un]at h
 |c::d::r,l::ls,x,h=>by
  simp only[Rs.un]at h;split at h
  ·rename_i y hy;split at h
   ·rename_i z hz;cases h;simp only[Rs.mk];rw[Sh.iF hy,Rs.iF hz]
   ·cases h
  ·cases h
def Reads(w:World)(b:Nat):Nat→List Lf→Prop
 |_,[]=>True
 |o,l::ls=>w.cell? ⟨b,o,none⟩=some l.enc∧Reads w b (o+1) ls
def BD(w:World)(b:Nat)(L:List Lf):Prop:=∃T,w.heap[b]?=some (.cells (L.map Lf.enc).toArray T (0,0))
abbrev kU:Obj:=.deferred (some [])
structure jq(S:Nat→Prop)(w w':World):Prop where
 os:w'.os=w.os
 tape:w'.tape=w.tape
 output:w'.output=w.output
 size:w.heap.size≤w'.heap.size
 same:∀k,k<w.heap.size→¬S k→w'.heap[k]?=w.heap[k]?
 KJ:∀k:Nat,w.heap[k]?=some kU→w'.heap[k]?=some kU
structure mi(w w':World):Prop where
 size:w.heap.size≤w'.heap.size
 KJ:∀k:Nat,w.heap[k]?=some kU→w'.heap[k]?=some kU
def Db:Nat→Prop:=λ_=>False
abbrev Ew(b:Nat):Nat→Prop:=λk=>k=b
theorem mi.refl(w:World):mi w w:=⟨eE _,λ_ h=>h⟩
theorem mi.trans{a b c:World}(h:mi a b)(k:mi b c):mi a c:=⟨kW h.size k.size,λi hi=>k.KJ i (h.KJ i hi)⟩
theorem jq.xN{S:Nat→Prop}{w w':World}(h:jq S w w'):mi w w':=⟨h.size,h.KJ⟩
theorem jq.refl(S:Nat→Prop)(w:World):jq S w w:=⟨rfl,rfl,rfl,eE _,λ_ _ _=>rfl,λ_ h=>h⟩
theorem jq.mono{S S':Nat→Prop}{w w':World}(h:jq S w w')(hs:∀k,k<w.heap.size→S k→S' k):jq S' w w':=
 ⟨h.os,h.tape,h.output,h.size,λk hk hn=>h.same k hk λe=>hn (hs k hk e),h.KJ⟩
theorem jq.trans{S:Nat→Prop}{a b c:World}(h:jq S a b)(k:jq S b c):jq S a c:=
 ⟨k.os.trans h.os,k.tape.trans h.tape,k.output.trans h.output,kW h.size k.size,
  λi hi hn=>(k.same i (Aj hi h.size) hn).trans (h.same i hi hn),λi hi=>k.KJ i (h.KJ i hi)⟩
theorem jq.trans'{S S':Nat→Prop}{a b c:World}(h:jq S a b)(k:jq S' b c)(hs:∀i,i<a.heap.size→S' i→S i):jq S a c:=
 ⟨k.os.trans h.os,k.tape.trans h.tape,k.output.trans h.output,kW h.size k.size,
  λi hi hn=>(k.same i (Aj hi h.size) λe=>hn (hs i hi e)).trans (h.same i hi hn),λi hi=>k.KJ i (h.KJ i hi)⟩
theorem jq.below{w w':World}(h:jq Db w w'):RowKit.Below w.heap.size w w':=
 ⟨h.os,h.tape,h.output,h.size,λk hk=>h.same k hk (λe=>e)⟩
theorem xL{w:World}{b:Nat}{L:List Lf}(h:BD w b L)(o:Nat):w.cell? ⟨b,o,none⟩=(L[o]?).map Lf.enc:=by
 obtain⟨T,h⟩:=h;simp[World.cell?,h]
theorem Bp{w:World}{b:Nat}{L:List Lf}(h:BD w b L)(o:Nat):w.frozen? ⟨b,o,none⟩=false:=by
 obtain⟨T,h⟩:=h;simp[World.frozen?,h]
theorem BD.reads{w:World}{b:Nat}{L:List Lf}(h:BD w b L):∀(ls:List Lf) (o:Nat),(∀i,i<ls.length→L[o+i]?=ls[i]?)→Reads w b o ls
 |[],_,_=>trivial
 |l::ls,o,hh=>by
  refine⟨?_,h.reads ls (o+1) λi hi=>?_⟩
  ·have:=hh 0 (by simp);rw[xL h];simp at this;simp[this]
  ·have:=hh (i+1) (by simp;omega);rw[show o+1+i=o+(i+1) by omega,this];simp
def fa(L:List Lf)(o:Nat)(ls:List Lf):List Lf:=L.take o++ls++L.drop (o+ls.length)
theorem kX{L:List Lf}{o:Nat}{ls:List Lf}(h:o+ls.length≤L.length):(fa L o ls).length=L.length:=by unfold fa;simp;omega
def jm(w:World)(s:Sl)(sz:Nat)(L:List Lf):Prop:=
 (s.len=0∧s.cap=0∧L=[])∨
 ∃q C,s.p=some q∧BD w q.b C∧s.len≤s.cap∧s.cap≠0∧q.o+s.cap*sz≤C.length∧L.length=s.len*sz∧∀i,i<L.length→C[q.o+i]?=L[i]?
def nR(w:World)(s:Sl)(sz:Nat)(M:List Lf):Prop:=M.length=s.len*sz∧(s.p=none→s.len=0)∧∀q,s.p=some q→Reads w q.b q.o M
def Sl.own(s:Sl):Nat→Prop:=λk=>∃q,s.p=some q∧k=q.b∧s.cap≠0
def Sl.sub(s:Sl)(l h m sz:Nat):Sl:=⟨if m=l then s.p else s.p.map λq=>⟨q.b,q.o+l*sz⟩,h-l,m-l⟩
def wO(x:Option Int)(d n:Nat):Prop:=match x with|some i=>i=n|none=>n=d
def kQ(n:Nat)(zs:List Lf):List Lf:=(List.replicate n zs).flatten
abbrev WP:=World→Prop
abbrev gX:WP:=λ_=>False
abbrev aq(c:Bool)(A B:WP):WP:=λw=>cond c (A w) (B w)
abbrev eA(p:Prop)(A:WP):WP:=λw=>p∧A w
abbrev aC(p:Option Pt)(K:Pt→WP):WP:=λw=>∃q,p=some q∧K q w
abbrev VQ(f:Fv)(A:WP):WP:=λw=>(∃n a c,f=.mk (.func n) a c∨f=.mk (.yield n) a c)∧A w
abbrev idx(s:Sl)(i:Int)(n:Nat)(K:Pt→WP):WP:=λw=>∃q,s.p=some q∧(0≤i∧i<s.len)∧K ⟨q.b,q.o+i.toNat*n⟩ w
abbrev ld(cs:List CK)(p:Pt)(K:Ks.T cs→WP):WP:=λw=>∃x,Reads w p.b p.o (Ks.mk cs x)∧K x w
abbrev st(p:Pt)(ls:List Lf)(A:WP):WP:=λw=>∃L,BD w p.b L∧p.o+ls.length≤L.length∧
 ∀w',jq (Ew p.b) w w'→BD w' p.b (fa L p.o ls)→w'.heap.size=w.heap.size→A w'
abbrev new(ls:List Lf)(K:Nat→WP):WP:=λw=>∀w',jq Db w w'→BD w' w.heap.size ls→w'.heap.size=w.heap.size+1→K w.heap.size w'
def Xk(w:World)(b:Nat)(L:List Lf)(T:TypeId):Prop:=w.heap[b]?=some (.cells (L.map Lf.enc).toArray T (0,0))
abbrev Rv(T:TypeId)(ls:List Lf)(K:Nat→WP):WP:=λw=>∀w',jq Db w w'→Xk w' w.heap.size ls T→w'.heap.size=w.heap.size+1→K w.heap.size w'
abbrev mj(sz:Nat)(s x:Sl)(K:Sl→WP):WP:=λw=>∃L M,jm w s sz L∧nR w x sz M∧s.len+x.len≤4294967296∧
 ∀w' s',jq s.own w w'→jm w' s' sz (L++M)→s'.len=s.len+x.len→(∀k,s'.own k→s.own k∨w.heap.size≤k)→
  (s.cap<s.len+x.len→jq Db w w'∧∀k,s'.own k→w.heap.size≤k)→(s.len+x.len≤s.cap→s'=⟨s.p,s.len+x.len,s.cap⟩∧w'.heap.size=w.heap.size)→K s' w'
abbrev PX(zs:List Lf)(sz:Nat)(s:Sl)(n:Int)(K:Sl→WP):WP:=λw=>∃L,jm w s sz L∧(0≤n∧(s.len:Int)+n≤4294967296)∧
 ∀w' s',jq s.own w w'→jm w' s' sz (L++kQ n.toNat zs)→s'.len=s.len+n.toNat→(∀k,s'.own k→s.own k∨w.heap.size≤k)→K s' w'
abbrev mk(zs:List Lf)(len cap:Int)(K:Sl→WP):WP:=λw=>(0≤len∧len≤cap∧cap≤4294967296)∧
 ∀w',jq Db w w'→BD w' w.heap.size (kQ cap.toNat zs)→w'.heap.size=w.heap.size+1→K ⟨some ⟨w.heap.size,0⟩,len.toNat,cap.toNat⟩ w'
abbrev DV(s:Sl)(lo hi mx:Option Int)(sz:Nat)(K:Sl→WP):WP:=λw=>(s.yj=false∧(s.cap≠0→s.p≠none))∧∃l h m:Nat,wO lo 0 l∧wO hi s.len h∧wO mx s.cap m∧(l≤h∧h≤m∧m≤s.cap)∧K (s.sub l h m sz) w
abbrev Y0(zs:List Lf)(s:Sl)(A:WP):WP:=λw=>((s.p=none∨s.len=0)∧A w)∨∃q C,s.p=some q∧s.len≠0∧BD w q.b C∧q.o+s.len*zs.length≤C.length∧
 ∀w',jq (Ew q.b) w w'→BD w' q.b (fa C q.o (kQ s.len zs))→w'.heap.size=w.heap.size→A w'
abbrev X3(cs:List CK)(ls:List Lf)(i:Int)(n sz:Nat)(K:Ks.T cs→WP):WP:=λw=>(0≤i∧i<n)∧∃x,Ks.mk cs x=(ls.drop (i.toNat*sz)).take sz∧K x w
abbrev aaq(s:ByteArray)(lo hi:Option Int)(K:ByteArray→WP):WP:=λw=>∃l h:Nat,wO lo 0 l∧wO hi s.size h∧(l≤h∧h≤s.size)∧K (s.extract l h) w
def Zq(l:List UInt8):List Lf:=l.map λb=>.int .u8 b.toNat
abbrev Zu(s:Sl)(K:ByteArray→WP):WP:=λw=>∃l:List UInt8,nR w s 1 (Zq l)∧s.len=l.length∧K ⟨l.toArray⟩ w
abbrev Zt(s:ByteArray)(i:Int)(K:Int→WP):WP:=λw=>∃b:UInt8,(0≤i∧s[i.toNat]?=some b)∧K b.toNat w
def BF(w:World)(r:Nat)(k:IntKind)(cs:Ks)(m:List (Int×Ks.T cs)):Prop:=
 ∃(es:Array MapEntry) (c:Nat),w.heap[r]?=some (.map es c)∧es.toList.map (λe=>(e.key,e.val))=m.map λx=>(Value.int k x.1,Value.agg ((Ks.mk cs x.2).map Lf.enc).toArray)
def getM{α:Type}:List (Int×α)→Int→Option α
 |[],_=>none
 |y::m,k=>if y.1=k then some y.2 else getM m k
def Fw{α:Type}:List (Int×α)→Int→α→List (Int×α)
 |[],k,x=>[(k,x)]
 |y::m,k,x=>if y.1=k then(k,x)::m else y::Fw m k x
abbrev mkm(K:Nat→WP):WP:=λw=>∀w',jq Db w w'→w'.heap[w.heap.size]?=some (.map #[] 0)→w'.heap.size=w.heap.size+1→K w.heap.size w'
abbrev mlk(r:Nat)(kk:IntKind)(k:Int)(cs:Ks)(z:List Lf)(K:Ks.T cs×Bool→WP):WP:=λw=>∃m,BF w r kk cs m∧((∃x,getM m k=some x∧K (x,true) w)∨(getM m k=none∧∃x,Ks.mk cs x=z∧K (x,false) w))
abbrev mup(r:Nat)(kk:IntKind)(k:Int)(cs:Ks)(ls:List Lf)(A:WP):WP:=λw=>∃m x,BF w r kk cs m∧ls=Ks.mk cs x∧∀w',jq (Ew r) w w'→BF w' r kk cs (Fw m k x)→w'.heap.size=w.heap.size→A w'
abbrev ct(p:Pt)(ls:List Lf)(A:WP):WP:=λw=>Reads w p.b p.o ls∧A w
abbrev both(A B:WP):WP:=λw=>A w∧B w
abbrev bR(A:WP):WP:=λw=>∀w',jq Db w w'→w'.heap.size=w.heap.size→A w'
def Kg(P:Program)(f:FuncId):Bool:=match P.funcs[f]? with
 | some fn => fn.name != "runtime.NumGoroutine" && fn.body.isSome
 |none=>false
def yL(P:Program)(f:FuncId)(args:List Value)(w:World)(R:Value→World→Prop):Prop:=
 Kg P f=true∧CallsIn Fence.wide 0 P f args.toArray w λe w'=>∃v,e=.returned v∧R v w'
inductive kD(P:Program)(f:FuncId)(args:List Value)(w:World)(R:Value→World→Prop):Prop
 |enters (h:yL P f args w R):kD P f args w R
 |aj (v:Value) (w':World) (h:(callFunc f args.toArray).run P w=.ok (.value v) w') (hR:R v w'):kD P f args w R
def tR(P:Program)(f:Fv)(args:List Value)(w:World)(R:Value→World→Prop):Prop:=
 match f with
 |.mk (.func g) first captured=>yL P g (first++args++captured) w R
 |.mk (.yield l) [] _=>∃fn tmps assign body,(Instr.yield l args.toArray).run P w=.ok (.round l fn tmps assign body) w∧
   RoundIn Fence.wide 0 P l fn tmps assign body w λe w'=>∃v,e=.returned v∧R v w'
 |_=>False
def rM(P:Program)(f:Fv)(args:List Value)(w:World)(R:Value→World→Prop):Prop:=
 match f with
 |.mk (.func g) first captured=>yL P g (first++args++captured) w R
 |_=>False
theorem yL.mono{P:Program}{f:FuncId}{args:List Value}{w:World}{R R':Value→World→Prop}(h:yL P f args w R)(hr:∀v w',R v w'→R' v w'):yL P f args w R':=
 ⟨h.1,h.2.mono λ_ w' ⟨v,hv,r⟩=>⟨v,hv,hr v w' r⟩⟩
theorem kD.mono{P:Program}{f:FuncId}{args:List Value}{w:World}{R R':Value→World→Prop}(h:kD P f args w R)(hr:∀v w',R v w'→R' v w'):kD P f args w R':=
 match h with
 |.enters h=>.enters (h.mono hr)
 |.aj v w' h1 h2=>.aj v w' h1 (hr _ _ h2)
theorem kD.e{P:Program}{f:FuncId}{args:List Value}{w:World}{R:Value→World→Prop}(h:kD P f args w R)(he:Kg P f=true):yL P f args w R:=by
 rcases h with h|⟨v,w',h1,_⟩
 ·exact h
 unfold Kg at he;unfold callFunc at h1;simp only[cz,xp,dI]at h1;split at he
 ·rename_i fn hf;simp only[d_,bne_iff_ne,ne_eq]at he;have hb:fn.body.isNone=false:=by cases hh:fn.body<;>simp[hh]at he⊢
  simp[hf,he.1,hb]at h1
 ·cases he
theorem tR.mono{P:Program}{f:Fv}{args:List Value}{w:World}{R R':Value→World→Prop}(h:tR P f args w R)(hr:∀v w',R v w'→R' v w'):tR P f args w R':=by
 unfold tR at*
 split at h
 ·exact h.mono hr
 ·obtain⟨fn,tmps,as,body,h1,h2⟩:=h;exact⟨fn,tmps,as,body,h1,h2.mono λ_ w' ⟨v,hv,r⟩=>⟨v,hv,hr v w' r⟩⟩
 ·exact h.elim
theorem rM.mono{P:Program}{f:Fv}{args:List Value}{w:World}{R R':Value→World→Prop}(h:rM P f args w R)(hr:∀v w',R v w'→R' v w'):rM P f args w R':=by
 unfold rM at*
 split at h
 ·exact h.mono hr
 ·exact h.elim
abbrev call(P:Program)(f:FuncId)(args:List V1)(rs:List Sh)(K:Rs.T rs→WP):WP:=λw=>
 kD P f (args.map V1.enc) w λv w'=>∃x,v=(nf (Rs.mk rs x)).enc∧mi w w'∧K x w'
abbrev qa(P:Program)(f:Fv)(args:List V1)(rs:List Sh)(K:Rs.T rs→WP):WP:=λw=>
 tR P f (args.map V1.enc) w λv w'=>∃x,v=(nf (Rs.mk rs x)).enc∧mi w w'∧K x w'
abbrev loop(cs:List CK)(x₀:Ks.T cs)(B:(Ks.T cs→WP)→Ks.T cs→WP):WP:=λw=>
 ∃(I:Ks.T cs→WP) (μ:Ks.T cs→World→Nat),I x₀ w∧∀x w,I x w→B (λy w'=>I y w'∧μ y w'<μ x w) x w
abbrev join(cs:List CK)(A:(Ks.T cs→WP)→WP)(K:Ks.T cs→WP):WP:=λw=>
 ∃J:Ks.T cs→WP,(∀x w',J x w'→K x w')∧A J w
end Go.X

namespace Go.X
def o_(P:Program)(t:TypeId):Option CK:=
 match P.underlying t with
 |some .bool=>some .bool
 |some (.int k)=>some (.int k)
 |some (.pointer _)=>some .ptr
 |some (.slice _)=>some .sl
 |some .string=>some .str
 |some (.func _ _ _)=>some .fn
 |some (.interface _)=>some .PG
 |_=>none
def kinds(P:Program):Nat→TypeId→Option (List CK)
 |0,_=>none
 |d+1,t=>
  match P.underlying t with
  |some (.struct fs)=>fs.toList.foldr (λf acc=>match kinds P d f.type,acc with|some a,some b=>some (a++b)|_,_=>none) (some [])
  |some (.array n e)=>match kinds P d e with|some ks=>some (List.replicate n ks).flatten|none=>none
  |_=>match o_ P t with|some c=>some [c]|none=>none
def fy(P:Program)(t:TypeId):Bool:=
 match P.underlying t with
 |some (.struct _)=>true
 |some (.array _ _)=>true
 |_=>false
def OY(P:Program)(t:TypeId):Option Sh:=
 if fy P t then(match kinds P 8 t with|some ks=>if ks.length=P.cellsOf t then some (.agg ks)else none|none=>none)
 else(match o_ P t with|some c=>some (.lf c)|none=>none)
def qE{α:Type}:List (Option α)→Option (List α)
 |[]=>some []
 |none::_=>none
 |some x::r=>match qE r with|some xs=>some (x::xs)|none=>none
def R_(P:Program)(t:TypeId):Option (List Sh):=
 match P.underlying t with
 |some (.tuple ts)=>qE (ts.toList.map (OY P))
 |_=>match OY P t with|some s=>some [s]|none=>none
def zB:Value→Option Lf
 |.int k n=>some (.int k n)
 |.bool b=>some (.bool b)
 |.pointer none=>some (.ptr none)
 |.slice none 0 0=>some (.sl ⟨none,0,0⟩)
 |.string s=>some (.str s)
 |.nilFunc=>some (.fn .nil)
 |.nilIface=>some .SV
 |_=>none
def uy:Value→Option V1
 |.agg cs=>match qE (cs.toList.map zB)with|some ls=>some (.agg ls)|none=>none
 |v=>match zB v with|some l=>some (.lf l)|none=>none
def mh(P:Program)(t:TypeId):Option (List Lf):=
 match P.info? t with
 |some i=>match i.zero with
  |some z=>match uy z with|some v=>some v.Kq|none=>none
  |none=>none
 |none=>none
inductive Jw where
 |un
 |val (v:TV)
 |gv (j:Nat) (want:Bool) (v:TV)
abbrev Env:=List Jw
def Env.get:Env→Nat→Jw
 |[],_=>.un
 |x::_,0=>x
 |_::e,n+1=>Env.get e n
def Env.set:Env→Nat→Jw→Env
 |[],_,_=>[]
 |_::e,0,y=>y::e
 |x::e,n+1,y=>x::Env.set e n y
def Ft(d:Nat):Jw→Jw
 |.gv j w v=>match Nat.beq j d with|true=>.un|false=>.gv j w v
 |x=>x
def Env.put(e:Env)(d:Option Nat)(x:Jw):Env:=
 match d with
 |none=>e
 |some d=>Env.set (e.map (Ft d)) d x
def D3:TV:=.O_ []
abbrev F_:=List (Nat×Bool)
def EZ(j:Nat)(w:Bool):F_→Bool
 |[]=>false
 |(i,v)::c=>match Nat.beq i j with
  |true=>(match v,w with|true,true=>true|false,false=>true|_,_=>EZ j w c)
  |false=>EZ j w c
def EH(e:Env):Nat→Nat→F_
 |0,_=>[]
 |n+1,j=>match e.get j with
  |.gv i w _=>(i,w)::EH e n i
  |_=>[]
def ot(e:Env)(c:F_):Operand→Option TV
 |.tmp t=>match e.get t with
  |.val v=>some v
  |.gv j w v=>match EZ j w c with|true=>some v|false=>none
  |.un=>none
 |.const v=>match uy v with|some x=>some (.one x)|none=>none
 |.func f=>some (.one (.lf (.fn (.mk (.func f) [] []))))
 |.global _=>none
def MI(e:Env)(c:F_):List Operand→Option (List V1)
 |[]=>some []
 |x::r=>match ot e c x with
  |some (.one v)=>(match MI e c r with|some vs=>some (v::vs)|none=>none)
  |_=>none
def VY(a b:IntKind):Bool:=match a,b with
 |.i8,.i8=>true|.i16,.i16=>true|.i32,.i32=>true|.i64,.i64=>true
 |.u8,.u8=>true|.u16,.u16=>true|.u32,.u32=>true|.u64,.u64=>true
 |_,_=>false
def ze(ls:List Lf)(off n:Nat):List Lf:=(ls.drop off).take n
def Kj(P:Program)(rec:TypeId→List Lf→List Lf→Option Bool)(xs ys:List Lf):List Field→Option Bool
 |[]=>some true
 | f :: r => match f.name == "_" with
  |true=>Kj P rec xs ys r
  |false=>match rec f.type (ze xs f.offset (P.cellsOf f.type)) (ze ys f.offset (P.cellsOf f.type)),r with
   |some a,[]=>some a
   |some a,g::r=>(match Kj P rec xs ys (g::r)with|some b=>some (a&&b)|none=>none)
   |none,_=>none
def Ki(rec:List Lf→List Lf→Option Bool)(sz:Nat)(xs ys:List Lf):Nat→Nat→Option Bool
 |0,_=>some true
 |m+1,i=>match rec (ze xs (i*sz) sz) (ze ys (i*sz) sz),m with
  |some a,0=>some a
  |some a,k+1=>(match Ki rec sz xs ys (k+1) (i+1)with|some b=>some (a&&b)|none=>none)
  |none,_=>none
def W7(P:Program):Nat→TypeId→List Lf→List Lf→Option Bool
 |0,_,_,_=>none
 |d+1,t,xs,ys=>
  match P.underlying t with
  |some .bool=>(match xs,ys with|[.bool a],[.bool b]=>some (a==b)|_,_=>none)
  |some (.int _)=>(match xs,ys with|[.int k a],[.int k' b]=>(match VY k k' with|true=>some (a==b)|false=>none)|_,_=>none)
  |some .string=>(match xs,ys with|[.str a],[.str b]=>some (a.toList==b.toList)|_,_=>none)
  |some (.struct fs)=>(match P.stoodInHeld t with|true=>none|false=>Kj P (λu=>W7 P d u) xs ys fs.toList)
  |some (.array n e)=>(match n with|0=>none|n+1=>Ki (W7 P d e) (P.cellsOf e) xs ys (n+1) 0)
  |_=>none
def GQ:Fv→Bool
 |.nil=>true
 |_=>false
def oX(b:Bool):Option TV:=some (.one (.lf (.bool b)))
def sk(k:IntKind)(n:Int):Option TV:=some (.one (.lf (.int k n)))
def TI(op:BinOp)(k:IntKind)(a b:Int):Option TV:=
 match op with
 |.add=>sk k (k.wrap (a+b))
 |.sub=>sk k (k.wrap (a-b))
 |.mul=>sk k (k.wrap (a*b))
 |.and=>sk k (k.wrap (BitVec.ofInt k.bits a&&&BitVec.ofInt k.bits b).toNat)
 |.or=>sk k (k.wrap (BitVec.ofInt k.bits a|||BitVec.ofInt k.bits b).toNat)
 |.xor=>sk k (k.wrap (BitVec.ofInt k.bits a^^^BitVec.ofInt k.bits b).toNat)
 |.eql=>oX (a==b)
 |.neq=>oX (a !=b)
 |.lss=>oX (a<b)
 |.leq=>oX (a≤b)
 |.gtr=>oX (a>b)
 |.geq=>oX (a≥b)
 |_=>none
def isEq:BinOp→Option Bool
 |.eql=>some true
 |.neq=>some false
 |_=>none
def xb(eq:Bool)(b:Bool):Option TV:=match eq with|true=>oX b|false=>oX (!b)
def eqV(P:Program)(eq:Bool)(t:TypeId):V1→V1→Option TV
 |.lf (.bool a),.lf (.bool b)=>(match P.underlying t with|some .bool=>xb eq (a==b)|_=>none)
 |.lf (.str a),.lf (.str b)=>xb eq (a.toList==b.toList)
 |.lf (.ptr p),.lf (.ptr none)=>(match P.underlying t with|some (.pointer _)=>xb eq p.isNone|_=>none)
 |.lf (.sl s),.lf (.sl ⟨none,0,0⟩)=>(match P.underlying t with|some (.slice _)=>xb eq s.isNil|_=>none)
 |.lf (.fn f),.lf (.fn .nil)=>(match P.underlying t with|some (.func _ _ _)=>xb eq (GQ f)|_=>none)
 |.agg xs,.agg ys=>(match fy P t&&!P.eqGuardType P.depth t with
  |true=>(match W7 P 8 t xs ys with|some b=>xb eq b|none=>none)
  |false=>none)
 |_,_=>none
def TJ(P:Program)(op:BinOp)(t:TypeId)(x y:V1):Option TV:=
 match x,y with
 |.lf (.int k a),.lf (.int k' b)=>(match VY k k' with|true=>TI op k a b|false=>none)
 |x,y=>match isEq op with
  |some eq=>eqV P eq t x y
  |none=>none
def unV(op:UnOp):V1→Option TV
 |.lf (.bool b)=>(match op with|.not=>oX (!b)|_=>none)
 |.lf (.int k n)=>(match op with|.neg=>sk k (k.wrap (0-n))|_=>none)
 |_=>none
def vD(P:Program)(t:TypeId)(i:Nat):Option Field:=
 match P.underlying t with
 |some (.struct fs)=>fs[i]?
 |_=>none
def vV(P:Program)(t:TypeId)(ls:List Lf)(off:Nat):Option V1:=
 match fy P t with
 |true=>some (.agg ((ls.drop off).take (P.cellsOf t)))
 |false=>match ls[off]? with|some l=>some (.lf l)|none=>none
def aak:V1→Option Int
 |.lf (.sl s)=>some s.len
 |.lf (.str s)=>some s.size
 |_=>none
def zl(place:Nat→Option (Nat×Nat))(ls:List Lf):List (Nat×V1)→Option (List Lf)
 |[]=>some ls
 |(i,v)::r=>match place i with
  |none=>none
  |some (off,size)=>match Nat.beq v.Kq.length size&&Nat.ble (off+v.Kq.length) ls.length with
   |true=>zl place (fa ls off v.Kq) r
   |false=>none
def sX(e:Env)(c:F_):List (Nat×Operand)→Option (List (Nat×V1))
 |[]=>some []
 |(i,x)::r=>match ot e c x with
  |some (.one v)=>(match sX e c r with|some vs=>some ((i,v)::vs)|none=>none)
  |_=>none
def zX(P:Program)(fs:Array Field)(i:Nat):Option (Nat×Nat):=match fs[i]? with
 |some f=>some (f.offset,P.cellsOf f.type)
 |none=>none
def placeOf(P:Program)(t:TypeId):Nat→Option (Nat×Nat):=
 match P.underlying t with
 |some (.struct fs)=>zX P fs
 |some (.array _ e)=>λi=>some (i*P.cellsOf e,P.cellsOf e)
 |_=>λ_=>none
def GO(P:Program)(t:TypeId):Bool:=
 match P.underlying t with
 |some (.struct fs)=>fs.toList.all λf=>(P.info? f.type).isSome
 |some (.array _ e)=>(P.info? e).isSome
 |_=>false
def mJ(mx:Bool)(k:IntKind):Int→List V1→Option TV
 |a,[]=>sk k a
 |a,.lf (.int k' b)::r=>(match VY k k' with
  |true=>(match mx with|true=>mJ mx k (if b>a then b else a) r|false=>mJ mx k (if b<a then b else a) r)
  |false=>none)
 |_,_=>none
def y8(b:Builtin)(vs:List V1):Option TV:=
 match b,vs with
 |.len,[v]=>(match aak v with|some n=>sk .i64 n|none=>none)
 |.cap,[.lf (.sl s)]=>sk .i64 s.cp
 |.max,.lf (.int k a)::r=>mJ true k a r
 |.min,.lf (.int k a)::r=>mJ false k a r
 |_,_=>none
def sV(P:Program)(b:Builtin)(ts:Array TypeId)(vs:List V1):Bool:=
 match b with
 |.len|.cap=>(match ts[0]?,vs with
  |some t,[.lf (.sl _)]=>(match P.underlying t with|some (.slice _)=>true|_=>false)
  |some t,[.lf (.str _)]=>(match P.underlying t with|some .string=>true|_=>false)
  |_,_=>false)
 |_=>true
def DW:Operand→Nat
 |.tmp t=>t
 |_=>0
def IJ:Operand→Bool
 |.tmp _=>true
 |_=>false
def Lm:Option V1→Option TV
 |some v=>some (.one v)
 |none=>none
def xW(P:Program)(e:Env)(c:F_)(o:Oper):Option TV:=
  match o.op with
  |.move x=>ot e c x
  |.assign x=>ot e c x
  |.pick cn x y=>(match ot e c cn with
    |some (.one (.lf (.bool b)))=>
      (match ot e (match IJ cn with|true=>(DW cn,true)::c|false=>c) x,ot e (match IJ cn with|true=>(DW cn,false)::c|false=>c) y with
       |some (.one (.lf (.bool p))),some (.one (.lf (.bool q)))=>oX (cond b p q)
       |vx,vy=>match b with|true=>vx|false=>vy)
    |_=>none)
  |.build t ps=>(match mh P t,sX e c ps.toList with
    |some z,some vs=>(match GO P t with|true=>(match zl (placeOf P t) z vs with|some ls=>some (.one (.agg ls))|none=>none)|false=>none)
    |_,_=>none)
  |.binOp op t x y _=>(match ot e c x,ot e c y with
    |some (.one a),some (.one b)=>TJ P op t a b
    |_,_=>none)
  |.unOp op _ x=>(match ot e c x with|some (.one a)=>unV op a|_=>none)
  |.convert src dst x=>(match ot e c x with
    |some (.one (.lf (.int _ n)))=>(match P.underlying src,P.underlying dst with
      |some (.int _),some (.int k)=>sk k (k.wrap n)
      |_,_=>none)
    |_=>none)
  |.makeFunc fn first cap=>(match MI e c first.toList,MI e c cap.toList with
    |some a,some b=>some (.one (.lf (.fn (.mk fn (a.map V1.enc) (b.map V1.enc)))))
    |_,_=>none)
  |.fieldAddr t x i=>(match ot e c x,vD P t i with
    |some (.one (.lf (.ptr (some p)))),some f=>(match Nat.beq (P.cellsOf f.type) 0 with
      |true=>none
      |false=>some (.one (.lf (.ptr (some ⟨p.b,p.o+f.offset⟩)))))
    |_,_=>none)
  |.field t x i=>(match ot e c x,vD P t i with
    |some (.one (.agg ls)),some f=>(match(P.underlying f.type).isSome with|true=>Lm (vV P f.type ls f.offset)|false=>none)
    |_,_=>none)
  |.index t x (.const (.int _ n))=>(match ot e c x,P.underlying t with
    |some (.one (.agg ls)),some (.array len el)=>(match decide (0≤n∧n<(len:Int)),(P.underlying el).isSome with
      |true,true=>Lm (vV P el ls (n.toNat*P.cellsOf el))
      |_,_=>none)
    |_,_=>none)
  |.extract x i=>(match ot e c x with
    |some (.O_ vs)=>Lm vs[i]?
    |_=>none)
  |.call cl=>(match cl.callee with
    |.builtin b=>(match MI e c cl.args.toList with|some vs=>(match sV P b cl.argTypes vs with|true=>y8 b vs|false=>none)|none=>none)
    |_=>none)
  |_=>none
def SZ(P:Program)(t:TypeId)(p:Pt)(K:TV→WP):WP:=
 match OY P t with
 |some (.lf c)=>ld [c] p λx=>K (.one (.lf (c.mk x)))
 |some (.agg cs)=>ld cs p λx=>K (.one (.agg (Ks.mk cs x)))
 |none=>gX
def mQ:Operand→Bool
 |.const (.int _ n)=>match decide (n=0)with|true=>false|false=>true
 |_=>false
def CN(op:BinOp)(y:Operand)(k:IntKind)(a b:Int)(K:TV→WP):WP:=
 match op with
 |.quo=>(match mQ y with|true=>K (.one (.lf (.int k (k.wrap (a.tdiv b)))))|false=>eA (b≠0) (K (.one (.lf (.int k (k.wrap (a.tdiv b)))))))
 |.rem=>(match mQ y with|true=>K (.one (.lf (.int k (a.tmod b))))|false=>eA (b≠0) (K (.one (.lf (.int k (a.tmod b))))))
 |.shl=>eA (0≤b) (K (.one (.lf (.int k (k.wrap (a*2^min b.toNat k.bits))))))
 |.shr=>eA (0≤b) (K (.one (.lf (.int k (a.fdiv (2^min b.toNat k.bits))))))
 |_=>gX
def Wk(P:Program)(f:FuncId)(args:List V1)(t:TypeId)(K:TV→WP):WP:=
 match R_ P t with
 |some rs=>call P f args rs λx=>K (nf (Rs.mk rs x))
 |none=>gX
def Oq(P:Program)(f:Fv)(args:List V1)(t:TypeId)(K:TV→WP):WP:=
 match R_ P t with
 |some rs=>qa P f args rs λx=>K (nf (Rs.mk rs x))
 |none=>gX
def vA(P:Program)(t:TypeId):Option TypeId:=
 match P.underlying t with
 |some (.slice e)=>some e
 |_=>none
def TD(P:Program)(t:TypeId):Option (Nat×TypeId):=
 match P.underlying t with
 |some (.array n e)=>some (n,e)
 |_=>none
def X1(P:Program)(t:TypeId):Option Unit:=
 match P.underlying t with
 |some (.int _)=>some ()
 |_=>none
def Yi(P:Program)(t:TypeId):Bool:=
 match P.underlying t with
 |some (.struct fs)=>(match fs[0]? with|some f=>(match P.underlying f.type with|some (.pointer u)=>Nat.beq u t|_=>false)|none=>false)
 |_=>false
def Si(P:Program)(t:TypeId):Bool:=
 match P.underlying t with
 |some .string=>true
 |_=>false
def Gm(P:Program)(t:TypeId):Bool:=
 match P.underlying t with
 |some (.slice e)=>(match P.underlying e with|some (.int .u8)=>true|_=>false)
 |_=>false
def Ky(P:Program)(t:TypeId):Option (IntKind×Ks×List Lf):=
 match P.underlying t with
 |some (.map kt et)=>(match P.underlying kt,OY P et,P.info? et with
  |some (.int k),some (.agg cs),some i=>(match i.zero with
   |some (.agg zs)=>(match qE (zs.toList.map zB)with|some z=>some (k,cs,z)|none=>none)
   |_=>none)
  |_,_,_=>none)
 |_=>none
def Fj(e:Env)(c:F_):Option Operand→Option (Option Int)
 |none=>some none
 |some x=>match ot e c x with
  |some (.one (.lf (.int _ n)))=>some (some n)
  |_=>none
def Fi(P:Program)(e:Env)(c:F_)(o:Oper)(K:TV→WP):WP:=
 match xW P e c o with
 |some v=>K v
 |none=>
  match o.op with
  |.alloc t=>(match mh P t with
   |some ls=>(match Yi P t with
    |true=>Rv t ls λb=>K (.one (.lf (.ptr (some ⟨b,0⟩))))
    |false=>new ls λb=>K (.one (.lf (.ptr (some ⟨b,0⟩)))))
   |none=>gX)
  |.box _ x=>(match ot e c x with
   |some (.one v)=>new v.Kq λb=>K (.one (.lf (.ptr (some ⟨b,0⟩))))
   |_=>gX)
  |.buildSlice t n ps=>(match vA P t with
   |some el=>(match mh P el,sX e c ps.toList with
    |some z,some vs=>(match Nat.beq z.length (P.cellsOf el)&&Nat.ble (n*P.cellsOf el) 16777216&&!Nat.beq (P.cellsOf el) 0,zl (λi=>some (i*P.cellsOf el,P.cellsOf el)) (List.replicate n z).flatten vs with
     |true,some ls=>new ls λb=>K (.one (.lf (.sl ⟨some ⟨b,0⟩,n,n⟩)))
     |_,_=>gX)
    |_,_=>gX)
   |none=>gX)
  |.load t a=>(match ot e c a with
   |some (.one (.lf (.ptr (some p))))=>SZ P t p K
   |_=>gX)
  |.store t a x=>(match ot e c a,ot e c x with
   |some (.one (.lf (.ptr (some p)))),some (.one v)=>(match Nat.beq v.Kq.length (P.cellsOf t)&&!Nat.beq (P.cellsOf t) 0 with
    |true=>st p v.Kq (K D3)
    |false=>gX)
   |_,_=>gX)
  |.nilCheck x=>(match ot e c x with
   |some (.one (.lf (.ptr p)))=>aC p λq=>K (.one (.lf (.ptr (some q))))
   |some (.one (.lf (.fn f)))=>VQ f (K (.one (.lf (.fn f))))
   |_=>gX)
  |.binOp op _ x y _=>(match ot e c x,ot e c y with
   |some (.one (.lf (.int k a))),some (.one (.lf (.int k' b)))=>(match op with
    |.shl=>CN op y k a b K
    |.shr=>CN op y k a b K
    |_=>match VY k k' with|true=>CN op y k a b K|false=>gX)
   |some (.one (.lf (.str a))),some (.one (.lf (.str b)))=>(match op with
    |.add=>eA (((a.size+b.size:Nat):Int)≤IntKind.i64.max) (K (.one (.lf (.str (a++b)))))
    |_=>gX)
   |_,_=>gX)
  |.indexAddr t x i=>(match ot e c x,ot e c i with
   |some (.one (.lf (.sl s))),some (.one (.lf (.int _ n)))=>(match vA P t with
    |some el=>(match(P.underlying el).isSome with
     |true=>idx s n (P.cellsOf el) λq=>K (.one (.lf (.ptr (some q))))
     |false=>gX)
    |none=>gX)
   |some (.one (.lf (.ptr (some p)))),some (.one (.lf (.int _ n)))=>(match P.underlying t with
    |some (.array len el)=>(match(P.underlying el).isSome with
     |true=>eA (0≤n∧n<len) (K (.one (.lf (.ptr (some ⟨p.b,p.o+n.toNat*P.cellsOf el⟩)))))
     |false=>gX)
    |_=>gX)
   |_,_=>gX)
  |.makeSlice t l cp=>(match vA P t,ot e c l,ot e c cp with
   |some el,some (.one (.lf (.int _ n))),some (.one (.lf (.int _ m)))=>(match mh P el with
    |some z=>(match Nat.beq z.length (P.cellsOf el)&&!Nat.beq (P.cellsOf el) 0&&Nat.ble (P.bytesOf el) 4096 with
     |true=>mk z n m λs=>K (.one (.lf (.sl s)))
     |false=>gX)
    |none=>gX)
   |_,_,_=>gX)
  |.slice t x lo hi mx=>(match TD P t with
   |some (n,el)=>(match ot e c x,Fj e c lo,Fj e c hi,Fj e c mx with
    |some (.one (.lf (.ptr (some p)))),some l,some h,some m=>(match !Nat.beq (P.cellsOf el) 0&&(!m.isSome||h.isSome)with
     |true=>DV ⟨some p,n,n⟩ l h m (P.cellsOf el) λs=>K (.one (.lf (.sl s)))
     |false=>gX)
    |_,_,_,_=>gX)
   |none=>match vA P t,ot e c x,Fj e c lo,Fj e c hi,Fj e c mx with
   |some el,some (.one (.lf (.sl s))),some l,some h,some m=>(match !Nat.beq (P.cellsOf el) 0&&(!m.isSome||h.isSome)with
    |true=>DV s l h m (P.cellsOf el) λs=>K (.one (.lf (.sl s)))
    |false=>gX)
   |none,some (.one (.lf (.str s))),some l,some h,some none=>(match Si P t with
    |true=>aaq s l h λs=>K (.one (.lf (.str s)))
    |false=>gX)
   |_,_,_,_,_=>gX)
  |.convert src dst x=>(match ot e c x,Gm P src&&Si P dst with
   |some (.one (.lf (.sl s))),true=>Zu s λb=>K (.one (.lf (.str b)))
   |_,_=>gX)
  |.index t x i=>(match ot e c x,ot e c i,P.underlying t with
   |some (.one (.agg ls)),some (.one (.lf (.int _ n))),some (.array len el)=>(match OY P el with
    |some (.lf k)=>X3 [k] ls n len (P.cellsOf el) λx=>K (.one (.lf (k.mk x)))
    |some (.agg ks)=>X3 ks ls n len (P.cellsOf el) λx=>K (.one (.agg (Ks.mk ks x)))
    |none=>gX)
   |some (.one (.lf (.str s))),some (.one (.lf (.int _ n))),some .string=>Zt s n λx=>K (.one (.lf (.int .u8 x)))
   |_,_,_=>gX)
  |.makeMap _ none=>mkm λr=>K (.one (.lf (.mp r)))
  |.lookup t x i true=>(match ot e c x,ot e c i,Ky P t with
   |some (.one (.lf (.mp r))),some (.one (.lf (.int kk k))),some (k',cs,z)=>(match VY kk k' with
    |true=>mlk r kk k cs z λy=>K (.O_ [.agg (Ks.mk cs y.1),.lf (.bool y.2)])
    |false=>gX)
   |_,_,_=>gX)
  |.mapUpdate t x i v=>(match ot e c x,ot e c i,ot e c v,Ky P t with
   |some (.one (.lf (.mp r))),some (.one (.lf (.int kk k))),some (.one (.agg ls)),some (k',cs,_)=>(match VY kk k' with
    |true=>mup r kk k cs ls (K D3)
    |false=>gX)
   |_,_,_,_=>gX)
  |.call cl=>(match cl.callee with
   |.builtin .append=>(match MI e c cl.args.toList,(cl.argTypes[0]?).bind (vA P),(cl.argTypes[1]?).bind (vA P)with
    |some [.lf (.sl s),.lf (.sl x)],some el,some _=>(match mh P el with
     |some z=>(match Nat.beq z.length (P.cellsOf el)&&!Nat.beq (P.cellsOf el) 0&&Nat.ble (P.bytesOf el) 2048&&!Nat.beq (P.bytesOf el) 0 with
      |true=>mj (P.cellsOf el) s x λs=>K (.one (.lf (.sl s)))
      |false=>gX)
     |none=>gX)
    |some [.lf (.sl s),.lf (.int _ n)],some el,none=>(match mh P el,(cl.argTypes[1]?).bind (X1 P)with
     |some z,some ()=>(match Nat.beq z.length (P.cellsOf el)&&!Nat.beq (P.cellsOf el) 0&&Nat.ble (P.bytesOf el) 2048&&!Nat.beq (P.bytesOf el) 0 with
      |true=>PX z (P.cellsOf el) s n λs=>K (.one (.lf (.sl s)))
      |false=>gX)
     |_,_=>gX)
    |_,_,_=>gX)
   |.builtin .clear=>(match MI e c cl.args.toList,(cl.argTypes[0]?).bind (vA P)with
    |some [.lf (.sl s)],some el=>(match mh P el with
     |some z=>(match Nat.ble 1 z.length with|true=>Y0 z s (K D3)|false=>gX)
     |none=>gX)
    |_,_=>gX)
   |.value (.func f)=>(match MI e c cl.args.toList with|some vs=>Wk P f vs o.type K|none=>gX)
   |.value x=>(match ot e c x,MI e c cl.args.toList with
    |some (.one (.lf (.fn f))),some vs=>Oq P f vs o.type K
    |_,_=>gX)
   |_=>gX)
  |_=>gX
def S_(op:Op):Bool:=
 match op with
 |.move _=>true
 |.assign _=>true
 |.pick _ _ _=>true
 |.build _ _=>true
 |.binOp b _ _ _ _=>(match b with|.quo=>false|.rem=>false|.shl=>false|.shr=>false|_=>true)
 |.unOp _ _ _=>true
 |.convert _ _ _=>true
 |.makeFunc _ _ _=>true
 |.fieldAddr _ _ _=>true
 |.field _ _ _=>true
 |.extract _ _=>true
 |.index _ _ (.const _)=>true
 |.call cl=>(match cl.callee with
  |.builtin b=>(match b with|.len=>true|.cap=>true|.max=>true|.min=>true|_=>false)
  |_=>false)
 |_=>false
def IE(j:Nat)(o:Oper):Bool:=match o.guard with
 |some (i,_)=>Nat.beq i j
 |none=>false
def anyI(f:Oper→Nat→Bool):List Oper→Nat→Bool
 |[],_=>false
 |o::r,i=>f o i||anyI f r (i+1)
def parts(all:List Oper):Nat→Nat→Bool
 |0,_=>false
 |n+1,j=>anyI (λo i=>IE j o&&(!S_ o.op||parts all n i)) all 0
def G9(e:Env)(o:Oper)(v:TV):Env:=e.put o.dst (.val v)
def zL(p:Bool)(e:Env)(o:Oper)(k:Env→WP)(v:TV):WP:=
 match p with
 |true=>(match o.dst,v with
  |some d,.one (.lf (.bool b))=>aq b (k (e.put (some d) (.val (.one (.lf (.bool true)))))) (k (e.put (some d) (.val (.one (.lf (.bool false))))))
  |_,_=>gX)
 |false=>k (G9 e o v)
def SW:Jw→Bool
 |.val (.O_ [])=>true
 |_=>false
def qm(P:Program)(all:List Oper):List Oper→Nat→Env→(Env→WP)→WP
 |[],_,e,K=>K e
 |o::r,i,e,K=>
  match o.guard with
  |none=>Fi P e [] o (zL (parts all 6 i) e o λe=>qm P all r (i+1) e K)
  |some (j,want)=>match(all[j]?).bind (·.dst)with
   |none=>gX
   |some sj=>match parts all 6 j with
    |true=>(match e.get sj with
     |.val (.one (.lf (.bool b)))=>(match b,want with
      |true,true=>Fi P e [] o (zL (parts all 6 i) e o λe=>qm P all r (i+1) e K)
      |false,false=>Fi P e [] o (zL (parts all 6 i) e o λe=>qm P all r (i+1) e K)
      |_,_=>qm P all r (i+1) (G9 e o D3) K)
     |.val (.O_ [])=>qm P all r (i+1) (G9 e o D3) K
     |_=>gX)
    |false=>(match SW (e.get sj)with
     |true=>qm P all r (i+1) (G9 e o D3) K
     |false=>match xW P e ((sj,want)::EH e 5 sj) o,o.dst with
     |some v,some d=>(match Nat.beq d sj,e.get sj with
      |false,.val (.one (.lf (.bool _)))=>qm P all r (i+1) (e.put (some d) (.gv sj want v)) K
      |false,.gv _ _ (.one (.lf (.bool _)))=>qm P all r (i+1) (e.put (some d) (.gv sj want v)) K
      |_,_=>gX)
     |_,_=>gX)
inductive DT where
 |aI
 |f (i:Nat) (sl:List Nat) (r:DT)
 |w (i:Nat) (sl:List Nat) (r:DT)
 |wa (i:Nat) (sl:List Nat) (r alt:DT)
def bit(m i:Nat):Bool:=Nat.testBit m i
def rI(m i:Nat):Nat:=m|||(1 <<< i)
def H6(a b:Nat):Bool:=Nat.beq (a&&&b) a
def wJ:List Edge→Nat
 |[]=>0
 |e::r=>match Region.binds .any e with|true=>rI (wJ r) e.on|false=>wJ r
def jc(o:Oper):Nat:=wJ o.after.toList
def Et(acc:List Nat):List Edge→Nat
 |[]=>0
 |e::r=>match Region.binds .any e with|true=>rI (Et acc r) e.on|||(acc[e.on]?).getD 0|false=>Et acc r
def PV:List Oper→List Nat→List Nat
 |[],acc=>acc
 |o::r,acc=>PV r (acc++[Et acc o.after.toList])
def JM(ops:List Oper)(i:Nat):Nat:=((PV ops [])[i]?).getD 0
def VX(op:Op):Bool:=match op with
 |.assign _=>false
 |.load _ _=>true
 |.nilCheck _=>true
 |.indexAddr _ _ _=>true
 |.index _ _ _=>true
 |.binOp _ _ _ _ _=>true
 |op=>S_ op
def lK(n:Nat):List Nat→Bool
 |[]=>false
 |x::r=>Nat.beq x n||lK n r
def nC(sl:List Nat):Nat→Env→Env
 |_,[]=>[]
 |n,x::e=>(match lK n sl with|true=>x|false=>.un)::nC sl (n+1) e
def qW(e:Env)(d:Option Nat)(v:TV):Env:=match d with|none=>e|some d=>e.set d (.val v)
def Ra(i:Nat)(ai:Nat)(sl:List Nat):List Oper→Nat→Bool
 |[],_=>true
 |o::r,j=>(match o.dst with
  |none=>true
  |some s=>!lK s sl||bit ai j||(bit (jc o) i&&!VX o.op)||(Nat.beq i j&&!VX o.op))&&Ra i ai sl r (j+1)
def IF(ops:List Oper)(i:Nat)(o:Oper)(sl:List Nat):Bool:=Ra i (jc o) sl ops 0
def NB(ops:List Oper)(i:Nat)(o:Oper)(sl:List Nat)(V:Nat):Bool:=!bit V i&&(H6 (jc o) V&&IF ops i o sl)
def QW(V C:Nat):List Oper→Nat→Bool
 |[],_=>true
 |o::r,j=>(bit V j||bit C j||!H6 (jc o) V)&&QW V C r (j+1)
def EU(V:Nat):List Oper→Nat→Bool
 |[],_=>true
 |_::r,j=>bit V j&&EU V r (j+1)
def Iz(d:Nat):List Oper→Bool
 |[]=>false
 |o::r=>(match o.dst with|some s=>Nat.beq s d|none=>false)||Iz d r
def jr:List Oper→Bool
 |[]=>true
 |o::r=>(match o.dst with|some s=>!Iz s r|none=>true)&&jr r
def XZ(i:Nat):List Oper→Bool
 |[]=>false
 |o::r=>IE i o||XZ i r
abbrev Eb:=List (Nat×Pt×List Lf)
def Gv:Eb→Nat→WP→WP
 |[],_,A=>A
 |(i,p,ls)::r,m,A=>match bit m i with|true=>Gv r m A|false=>ct p ls (Gv r m A)
def Xy(i:Nat)(l:Option (Pt×List Lf))(eP:Eb):Eb:=match l with|none=>eP|some (p,ls)=>(i,p,ls)::eP
def Q7(P:Program)(e:Env)(o:Oper)(K:TV→Option (Pt×List Lf)→WP):WP:=
 match xW P e [] o with
 |some v=>K v none
 |none=>match o.op with
  |.load t x=>(match ot e [] x with
   |some (.one (.lf (.ptr (some p))))=>(match OY P t with
    |some (.lf c)=>ld [c] p λx=>K (.one (.lf (c.mk x))) (some (p,Ks.mk [c] x))
    |some (.agg cs)=>ld cs p λx=>K (.one (.agg (Ks.mk cs x))) (some (p,Ks.mk cs x))
    |none=>gX)
   |_=>gX)
  |.nilCheck _=>Fi P e [] o λv=>K v none
  |.indexAddr _ _ _=>Fi P e [] o λv=>K v none
  |.index _ _ _=>Fi P e [] o λv=>K v none
  |.binOp _ _ _ _ _=>Fi P e [] o λv=>K v none
  |_=>gX
def TL(g:Bool)(o:Oper)(e:Env)(k:Env→WP)(v:TV):WP:=
 match g with
 |true=>(match v with
  |.one (.lf (.bool b))=>aq b (k (qW e o.dst (.one (.lf (.bool true))))) (k (qW e o.dst (.one (.lf (.bool false)))))
  |_=>k (qW e o.dst v))
 |false=>k (qW e o.dst v)
def uF(ops:List Oper)(o:Oper)(e:Env)(go skip:WP):WP:=
 match o.guard with
 |none=>go
 |some (j,want)=>match(ops[j]?).bind (·.dst)with
  |none=>gX
  |some sj=>match e.get sj with
   |.val (.one (.lf (.bool b)))=>(match b,want with
    |true,true=>go
    |false,false=>go
    |_,_=>skip)
   |.val (.O_ [])=>skip
   |_=>gX
def X2:DT→Bool
 |.w _ _ _=>true
 |.wa _ _ _ _=>true
 |_=>false
def iI(P:Program)(ops:List Oper)(K:Env→WP):DT→Nat→Nat→Env→Eb→WP
 |.aI,V,_,e,_=>match EU V ops 0 with|true=>K e|false=>gX
 |.f i sl r,V,_,e,eP=>match ops[i]? with
  |none=>gX
  |some o=>match NB ops i o sl V&&VX o.op with
   |true=>uF ops o (nC sl 0 e) (Q7 P (nC sl 0 e) o λv l=>TL (XZ i ops) o e (λe'=>iI P ops K r (rI V i) 0 e' (Xy i l eP)) v) (iI P ops K r (rI V i) 0 (qW e o.dst D3) eP)
   |false=>gX
 |.w i sl r,V,C,e,eP=>match ops[i]? with
  |none=>gX
  |some o=>match NB ops i o sl V&&QW V (rI C i) ops 0 with
   |true=>uF ops o (nC sl 0 e) (Fi P (nC sl 0 e) [] o λv=>Gv eP (JM ops i) (TL (XZ i ops) o e (λe'=>iI P ops K r (rI V i) 0 e' eP) v)) (iI P ops K r (rI V i) 0 (qW e o.dst D3) eP)
   |false=>gX
 |.wa i sl r alt,V,C,e,eP=>match ops[i]? with
  |none=>gX
  |some o=>match NB ops i o sl V&&X2 alt with
   |true=>both (uF ops o (nC sl 0 e) (Fi P (nC sl 0 e) [] o λv=>Gv eP (JM ops i) (TL (XZ i ops) o e (λe'=>iI P ops K r (rI V i) 0 e' eP) v)) (iI P ops K r (rI V i) 0 (qW e o.dst D3) eP))
     (iI P ops K alt V (rI C i) e eP)
   |false=>gX
abbrev yd:=Nat×Sh
inductive F8 where
 |o
 |d (t:DT)
 |s (a b:F8)
 |j (sl:List yd) (a b:F8)
 |b (a:F8)
 |bj (sl:List yd) (a:F8)
 |l (sl:List yd) (a:F8)
 |r (rs:List Sh) (a b:F8)
def ov:List yd→List CK
 |[]=>[]
 |(_,.lf c)::r=>c::ov r
 |(_,.agg cs)::r=>cs++ov r
def zV(e:Env):List yd→Option (List Lf)
 |[]=>some []
 |(n,.lf _)::r=>match e.get n with
  |.val (.one (.lf l))=>(match zV e r with|some ls=>some (l::ls)|none=>none)
  |_=>none
 |(n,.agg cs)::r=>match e.get n with
  |.val (.one (.agg xs))=>(match Nat.beq xs.length cs.length,zV e r with|true,some ls=>some (xs++ls)|_,_=>none)
  |_=>none
def xV(sl:List yd)(e:Env)(J:Ks.T (ov sl)→WP):WP:=
 match zV e sl with
 |some ls=>(match Ks.un (ov sl) ls with|some x=>J x|none=>gX)
 |none=>gX
def tJ:List yd→List Lf→Env→Env
 |[],_,e=>e
 |(n,.lf _)::r,ls,e=>match ls with
  |l::ls=>tJ r ls (e.put (some n) (.val (.one (.lf l))))
  |[]=>e
 |(n,.agg cs)::r,ls,e=>tJ r (ls.drop cs.length) (e.put (some n) (.val (.one (.agg (ls.take cs.length)))))
def fZ:Env→Env
 |[]=>[]
 |.gv _ _ _::e=>.un::fZ e
 |x::e=>x::fZ e
def uG:List Nat→Env→Env
 |[],e=>e
 |d::r,e=>uG r (e.set d .un)
def fD:List Oper→List Nat
 |[]=>[]
 |o::r=>match o.dst with|some d=>d::fD r|none=>fD r
def writes:Code→List Nat
 |.region _ ops _=>fD ops.toList
 |.seq a b=>writes a++writes b
 |.cond _ a b=>writes a++writes b
 |.block _ a=>writes a
 |.loop a=>writes a
 |.scope a=>writes a
 |_=>[]
def H3(ws:List Nat):List yd→Bool
 |[]=>true
 |(n,_)::r=>lK n ws&&H3 ws r
def Ex(c:Code)(e:Env):Env:=uG (writes c) (fZ e)
def tK(c:Code)(sl:List yd)(e:Env)(x:Ks.T (ov sl)):Env:=tJ sl (Ks.mk (ov sl) x) (Ex c e)
def pJ(n:Nat)(i:Nat)(A B:WP):WP:=match Nat.beq i n with|true=>A|false=>B
def Ab(e:Env):List Nat→List V1→Env
 |d::ds,v::vs=>Ab (e.put (some d) (.val (.one v))) ds vs
 |_,_=>e
def nT:Code→List Nat
 |.seq a b=>nT a++nT b
 |.cond _ a b=>nT a++nT b
 |.block i a=>(nT a).filter (λj=>!Nat.beq i j)
 |.loop a=>nT a
 |.scope a=>nT a
 |.exit i=>[i]
 |_=>[]
def wh:Code→Bool
 |.seq a b=>wh a||wh b
 |.cond _ a b=>wh a||wh b
 |.block _ a=>wh a
 |.loop a=>wh a
 |.scope a=>wh a
 |.ret=>true
 |_=>false
def CJ(j:Nat)(kx:Nat→WP):List Nat→WP
 |[]=>gX
 |i::r=>pJ (i+2) j (kx i) (CJ j kx r)
def M2(c:Code)(j:Nat)(kn kr:WP)(kx:Nat→WP):WP:=
 pJ 0 j kn (match wh c with|true=>pJ 1 j kr (CJ j kx (nT c))|false=>CJ j kx (nT c))
abbrev qU(P:Program)(fv:Fv)(rs:List Sh)(B:Rs.T rs→(WP→WP)→WP→(Nat→WP)→WP)(K:Nat→WP):WP:=λw=>
 ∀(w1:World) (l:Nat) (st:Nat→Obj) (busy:Obj),(∀j,st j≠kU)→busy≠kU→jq Db w w1→w.heap.size≤l→l<w1.heap.size→w1.heap[l]?=some (st 0)→
  (∀(x:Rs.T rs) (W:World) (R:Value→World→Prop),
   B x (λA W0=>W0.heap[l]?=some (st 0)∧∀W1,jq (Ew l) W0 W1→W1.heap[l]?=some busy→W1.heap.size=W0.heap.size→A W1)
    (λW2=>W2.heap[l]?=some busy∧∀W3,jq (Ew l) W2 W3→W3.heap[l]?=some (st 0)→W3.heap.size=W2.heap.size→R (.bool true) W3)
    (λj W2=>W2.heap[l]?=some busy∧∀W3,jq (Ew l) W2 W3→W3.heap[l]?=some (st j)→W3.heap.size=W2.heap.size→R (.bool false) W3) W→
   W.heap[l]?=some (st 0)→
   tR P (.mk (.yield l) [] []) ((Rs.mk rs x).map V1.enc) W R)→
  rM P fv [Fv.enc (.mk (.yield l) [] [])] w1 λ_ w2=>mi w1 w2∧∃j,w2.heap[l]?=some (st j)∧∀w3,jq (Ew l) w2 w3→w3.heap.size=w2.heap.size→K j w3
def vf(P:Program)(inR:Bool):Code→F8→Env→(Env→WP)→(Nat→Env→WP)→(Env→WP)→WP
 |.skip,_,e,kn,_,_=>kn e
 |.label _,_,e,kn,_,_=>kn e
 |.region _ ops false,_,e,kn,_,_=>qm P ops.toList ops.toList 0 e kn
 |.region _ ops true,.d t,e,kn,_,_=>match P.follows .mixedOrders&&jr ops.toList with
  |true=>bR (iI P ops.toList kn t 0 0 (fZ e) [])
  |false=>gX
 |.seq a b,.s x y,e,kn,kx,kr=>vf P inR a x e (λe1=>vf P inR b y e1 kn kx kr) kx kr
 |.seq a b,.j sl x y,e,kn,kx,kr=>match H3 (writes a) sl with
  |true=>join (ov sl) (λJ=>vf P inR a x e (λe1=>xV sl e1 J) kx kr) (λv=>vf P inR b y (tK a sl e v) kn kx kr)
  |false=>gX
 |.cond c a b,.s x y,e,kn,kx,kr=>match ot e [] c with
  |some (.one (.lf (.bool t)))=>aq t (vf P inR a x e kn kx kr) (vf P inR b y e kn kx kr)
  |_=>gX
 |.block id a,.b x,e,kn,kx,kr=>vf P inR a x e kn (λi e1=>pJ id i (kn e1) (kx i e1)) kr
 |.block id a,.bj sl x,e,kn,kx,kr=>match H3 (writes a) sl with
  |true=>join (ov sl) (λJ=>vf P inR a x e (λe1=>xV sl e1 J) (λi e1=>pJ id i (xV sl e1 J) (kx i e1)) kr) (λv=>kn (tK a sl e v))
  |false=>gX
 |.loop a,.l sl x,e,_,kx,kr=>match H3 (writes a) sl with
  |true=>xV sl e λx0=>loop (ov sl) x0 (λJ v=>vf P inR a x (tK a sl e v) (λe1=>xV sl e1 J) kx kr)
  |false=>gX
 |.exit i,_,e,_,kx,_=>kx i e
 |.ret,_,e,_,_,kr=>kr e
 |.scope a,x,e,kn,kx,kr=>vf P inR a x e kn kx kr
 |.rangeFunc f ps as body,.r rs x y,e,kn,kx,kr=>match inR,ot e [] f with
  |false,some (.one (.lf (.fn fv)))=>(match Nat.beq rs.length ps.size with
   |true=>qU P fv rs (λv B7 next jump=>vf P true as x (Ab (fZ e) ps.toList (Rs.mk rs v)) (λe1=>B7 (vf P true body y e1 (λ_=>next) (λi _=>jump (i+2)) (λ_=>jump 1))) (λ_ _=>gX) (λ_=>gX))
     (λj=>M2 body j (kn e) (kr e) (λi=>kx i e))
   |false=>gX)
  |_,_=>gX
 |_,_,_,_,_,_=>gX
structure Xr(A B:WP):Prop where
 eq:A=B
structure Lv(n:Nat)(w w':World):Prop where
 os:w'.os=w.os
 tape:w'.tape=w.tape
 output:w'.output=w.output
 size:w'.heap.size=w.heap.size
 same:∀k:Nat,(k<n∨w.heap[k]?≠some kU)→w'.heap[k]?=w.heap[k]?
abbrev lZ(n:Nat)(A:WP):WP:=λw=>∀w',Lv n w w'→A w'
def cP:Code→Bool
 |.seq a b=>cP a||cP b
 |.cond _ a b=>cP a||cP b
 |.block _ a=>cP a
 |.loop a=>cP a
 |.scope a=>cP a
 |.rangeFunc _ _ _ _=>true
 |_=>false
def Bx(P:Program)(e:Env):List ResultVar→(List V1→WP)→WP
 |[],K=>K []
 |.tmp t::r,K=>match e.get t with
  |.val (.one v)=>Bx P e r λvs=>K (v::vs)
  |_=>gX
 |.cell t ty::r,K=>match e.get t,OY P ty with
  |.val (.one (.lf (.ptr (some p)))),some (.lf c)=>ld [c] p λx=>Bx P e r λvs=>K (.lf (c.mk x)::vs)
  |.val (.one (.lf (.ptr (some p)))),some (.agg cs)=>ld cs p λx=>Bx P e r λvs=>K (.agg (Ks.mk cs x)::vs)
  |_,_=>gX
def WE(rs:List Sh)(vs:List V1)(R:Rs.T rs→WP):WP:=
 match Rs.un rs vs with|some x=>R x|none=>gX
def EN(n:Nat)(args:List V1):Env:=args.map (λv=>.val (.one v))++List.replicate (n-args.length) (.val D3)
def R6(P:Program)(fn:Func)(an:F8)(args:List V1)(rs:List Sh)(R:Rs.T rs→WP):WP:=λw=>
 match fn.body with
 |none=>False
 |some c=>
  let kr (e:Env):WP:=Bx P e fn.results.toList λvs=>WE rs vs λx=>match cP c with
   |true=>lZ w.heap.size (R x)
   |false=>R x
  vf P false c an (EN fn.ntmps args) kr (λ_ _=>gX) kr w
end Go.X

namespace Go.X
theorem Env.vH(e:Env)(d:Nat)(y:Jw)(i:Nat):(Env.set e d y).get i=if i=d∧d<e.length then y else e.get i:=by
 induction e generalizing d i with
 |nil=>simp[Env.set,Env.get]
 |cons x e ih=>
  cases d with
  |zero=>cases i<;>simp[Env.set,Env.get]
  |succ d=>cases i with
   |zero=>simp[Env.set,Env.get]
   |succ i=>simp[Env.set,Env.get,ih]
theorem Env.get_map(f:Jw→Jw)(hf:f .un=.un)(e:Env)(i:Nat):Env.get (e.map f) i=f (e.get i):=by
 induction e generalizing i with
 |nil=>simp[Env.get,hf]
 |cons x e ih=>cases i<;>simp[Env.get,ih]
theorem Env.vO(e:Env)(d:Nat)(y:Jw):(Env.set e d y).length=e.length:=by
 induction e generalizing d with
 |nil=>rfl
 |cons x e ih=>cases d<;>simp[Env.set,ih]
theorem Env.zp(e:Env)(i:Nat)(h:e.length≤i):e.get i=.un:=by
 induction e generalizing i with
 |nil=>rfl
 |cons x e ih=>cases i with
  |zero=>simp at h
  |succ i=>simp[Env.get];exact ih i (by simpa using h)
def jy(a:Act)(i:Nat):Jw→Prop
 |.un=>True
 |.val v=>a.tmps[i]?=some v.enc
 |.gv j w v=>(a.tmps[j]?=some (.bool w)→a.tmps[i]?=some v.enc)∧(a.tmps[j]?≠some (.bool w)→a.tmps[i]?=some undef)
structure mH(e:Env)(a:Act):Prop where
 len:e.length=a.tmps.size
 ok:∀i,jy a i (e.get i)
def Holds(c:F_)(a:Act):Prop:=∀j w,EZ j w c=true→a.tmps[j]?=some (.bool w)
theorem Holds.nil(a:Act):Holds [] a:=λ_ _ h=>by cases h
theorem uH{j:Nat}{w:Bool}{c:F_}{a:Act}(hc:Holds c a)(h:a.tmps[j]?=some (.bool w)):Holds ((j,w)::c) a:=by
 intro i v hi;simp only[EZ]at hi;split at hi
 ·rename_i hb;have e:j=i:=qw hb;subst e;cases w<;>cases v<;>first|exact h|exact hc _ _ hi
 ·exact hc _ _ hi
theorem E5{v:Value}{l:Lf}(h:zB v=some l):l.enc=v:=by
 unfold zB at h;split at h<;>cases h<;>rfl
theorem yW{α:Type}:∀{l:List (Option α)} {xs:List α},qE l=some xs→l=xs.map some
 |[],xs,h=>by cases h;rfl
 |none::r,xs,h=>by simp[qE]at h
 |some x::r,xs,h=>by
  simp only[qE]at h;split at h
  ·rename_i ys hy;cases h;simp[yW hy]
  ·cases h
theorem Kp{vs:List Value}{ls:List Lf}(h:vs.map zB=ls.map some):ls.map Lf.enc=vs:=by
 induction vs generalizing ls with
 |nil=>cases ls<;>simp at h⊢
 |cons v vs ih=>
  cases ls with
  |nil=>simp at h
  |cons l ls=>
   simp at h;simp[E5 h.1,ih h.2]
theorem wV{v:Value}{x:V1}(h:uy v=some x):x.enc=v:=by
 unfold uy at h;split at h
 ·rename_i cs;split at h
  ·rename_i ls hl;cases h;have:=Kp (yW hl);simp[V1.enc,this]
  ·cases h
 ·split at h
  ·rename_i l hl;cases h;exact E5 hl
  ·cases h
theorem Lf.cells(l:Lf):l.enc.cells=#[l.enc]:=by
 cases l with
 |sl s=>
  obtain⟨a,c,h,_⟩:=s.lU;simp[Lf.enc,h,Value.cells]
 |fn f=>cases f<;>simp[Lf.enc,Fv.enc,Value.cells]
 |_=>simp[Lf.enc,Value.cells]
theorem V1.cells(v:V1):v.enc.cells=(v.Kq.map Lf.enc).toArray:=by
 cases v with
 |lf l=>simp[V1.enc,V1.Kq,Lf.cells]
 |agg ls=>simp[V1.enc,V1.Kq,Value.cells]
section
variable {P:Program} {e:Env} {a:Act} {c:F_} {w:World}
theorem bD(hA:mH e a)(hc:Holds c a){x:Operand}{v:TV}(h:ot e c x=some v):a.eval x=v.enc:=by
 unfold ot at h;split at h
 ·rename_i t;have hk:=hA.ok t;split at h
  ·rename_i u hu;cases h;rw[hu]at hk;simp only[jy]at hk;simp[Act.eval,hk]
  ·rename_i j ww u hu;rw[hu]at hk;split at h
   ·rename_i hin;cases h;have:=hk.1 (hc _ _ hin);simp[Act.eval,this]
   ·cases h
  ·cases h
 ·split at h
  ·rename_i y hy;cases h;simp[Act.eval,TV.enc,wV hy]
  ·cases h
 ·cases h;simp[Act.eval,TV.enc,V1.enc,Lf.enc,Fv.enc]
 ·cases h
theorem qJ(hA:mH e a)(hc:Holds c a):∀{xs:List Operand} {vs:List V1},MI e c xs=some vs→xs.map a.eval=vs.map V1.enc
 |[],vs,h=>by simp[MI]at h;subst h;rfl
 |x::r,vs,h=>by
  simp only[MI]at h;split at h
  ·rename_i v hv;split at h
   ·rename_i us hu;cases h;simp only[kJ];rw[bD hA hc hv,qJ hA hc hu]
    rfl
   ·cases h
  ·cases h
theorem uD(hA:mH e a)(hc:Holds c a):∀{xs:List (Nat×Operand)} {vs:List (Nat×V1)},sX e c xs=some vs→xs.map (λx=>(x.1,a.eval x.2))=vs.map (λx=>(x.1,x.2.enc))
 |[],vs,h=>by simp[sX]at h;subst h;rfl
 |(i,x)::r,vs,h=>by
  simp only[sX]at h;split at h
  ·rename_i v hv;split at h
   ·rename_i us hu;cases h;simp only[kJ];rw[bD hA hc hv,uD hA hc hu]
    rfl
   ·cases h
  ·cases h
end
theorem kY(a:Act)(d:Nat)(v:Value)(i:Nat):(a.put (some d) v).tmps[i]?=if i=d∧d<a.tmps.size then some v else a.tmps[i]?:=by
 simp only[Act.put];by_cases h:d=i
 ·subst h;by_cases hl:d<a.tmps.size
  ·simp[hl]
  ·simp[hl]
 ·rw[G_ h];simp[mF h]
theorem size_put(a:Act)(d:Option Nat)(v:Value):(a.put d v).tmps.size=a.tmps.size:=by cases d<;>simp[Act.put]
theorem Fu{a:Act}{d:Nat}{v:Value}{i:Nat}(hi:¬(i=d∧d<a.tmps.size)){x:Jw}(h:jy a i x):jy (a.put (some d) v) i (Ft d x):=by
 cases x with
 |un=>trivial
 |val u=>simp only[Ft,jy]at*;rw[kY,ay hi];exact h
 |gv j w u=>
  simp only[Ft];split
  ·trivial
  ·rename_i hb;have hne:¬j=d:=λe=>by rw[e,DI]at hb;cases hb
   simp only[jy]at*;rw[kY,kY,ay hi,ay (λhh=>hne hh.1)];exact h
theorem mH.put{e:Env}{a:Act}(h:mH e a)(d:Option Nat)(v:TV):mH (e.put d (.val v)) (a.put d v.enc):=by
 cases d with
 |none=>exact h
 |some d=>
  refine⟨by rw[size_put,←h.len];simp[Env.put,Env.vO],λi=>?_⟩;simp only[Env.put];rw[Env.vH];split
  ·rename_i hi;simp only[jy];rw[kY,aG ⟨hi.1,by rw[←h.len];simpa using hi.2⟩]
  ·rename_i hi;rw[Env.get_map _ rfl];exact Fu (by rw[←h.len];simpa using hi) (h.ok i)
theorem mH.NV{e:Env}{a:Act}(h:mH e a){d j:Nat}(hj:d≠j)(want:Bool)(v:TV)(u:Value)
  (h1:a.tmps[j]?=some (.bool want)→u=v.enc) (h2:a.tmps[j]?≠some (.bool want)→u=undef):mH (e.put (some d) (.gv j want v)) (a.put (some d) u):=by
 refine⟨by rw[size_put,←h.len];simp[Env.put,Env.vO],λi=>?_⟩;simp only[Env.put];rw[Env.vH];split
 ·rename_i hi;have hd:d<a.tmps.size:=by rw[←h.len];simpa using hi.2
  simp only[jy];have e1:(a.put (some d) u).tmps[i]?=some u:=by rw[kY,aG ⟨hi.1,hd⟩]
  have e2:(a.put (some d) u).tmps[j]?=a.tmps[j]?:=by rw[kY,ay (λhh=>hj hh.1.symm)]
  rw[e1,e2];exact⟨λhh=>by rw[h1 hh],λhh=>by rw[h2 hh]⟩
 ·rename_i hi;rw[Env.get_map _ rfl];exact Fu (by rw[←h.len];simpa using hi) (h.ok i)
end Go.X

namespace Go.X
variable {P:Program}
theorem uI{a b:IntKind}(h:VY a b=true):a=b:=by cases a<;>cases b<;>first|rfl|cases h
def oc(P:Program)(t:TypeId)(ls:List Lf)(v:Value):Prop:=if fy P t then v=.agg (ls.map Lf.enc).toArray else ∃l,ls=[l]∧v=l.enc
theorem tb(P:Program)(t:TypeId){d:TypeDesc}(h:P.underlying t=some d)(w:World):(isAgg t).run P w=.ok (fy P t) w:=by
 unfold isAgg fy;simp only[cz,fq h,dI,h];cases d<;>rfl
theorem kh{t:TypeId}{d:TypeDesc}(h:P.underlying t=some d)(w:World):(sizeOf t).run P w=.ok (P.cellsOf t) w:=by
 unfold sizeOf typeInfo Program.cellsOf;cases hi:P.info? t with
 |none=>simp[Program.underlying,hi]at h
 |some i=>simp[hi]
theorem vW{t:TypeId}{d:TypeDesc}(h:P.underlying t=some d)(xs:List Lf)(off:Nat)(ls:List Lf)(hl:ze xs off (P.cellsOf t)=ls)(hs:fy P t=false→∃l,ls=[l])(w:World):
  ∃v,(part t (xs.map Lf.enc).toArray off).run P w=.ok v w∧oc P t ls v:=by
 unfold part;simp only[cz,tb P t h,dI,ru];unfold oc;cases ha:fy P t with
 |true=>
  simp only[iz,kh h,dI,eh];refine⟨_,rfl,?_⟩;subst hl;simp[ze,List.map_take,List.map_drop]
 |false=>
  obtain⟨l,rfl⟩:=hs ha;have hx:xs[off]?=some l:=by
   have:=c_ (λz=>z[0]?) hl;simp only[ze]at this;rw[po]at this;split at this
   ·simpa using this
   ·simp at this
  simp[hx]
theorem CR{d:Nat}{fs:List Field}{xs ys:List Lf}{b:Bool}{rec:TypeId→List Lf→List Lf→Option Bool}(w:World)
  (hrec:∀t us vs b,rec t us vs=some b→(∃dd,P.underlying t=some dd)∧(fy P t=false→(∃l,us=[l])∧∃l,vs=[l])∧∀x y,oc P t us x→oc P t vs y→(Op.equalIn d t x y).run P w=.ok b w)
  (h:Kj P rec xs ys fs=some b):(Op.eqFields d (xs.map Lf.enc).toArray (ys.map Lf.enc).toArray fs).run P w=.ok b w:=by
 induction fs generalizing b with
 |nil=>simp[Kj]at h;subst h;simp[Op.eqFields]
 |cons f r ih=>
  unfold Kj at h;split at h
  ·rename_i hn;have hn' : f.name = "_" := by simpa using hn
   simp only[Op.eqFields,hn',ne_eq,not_true,jp];exact ih h
  ·rename_i hn;have hn' : ¬ f.name = "_" := by simpa using hn
   simp only[Op.eqFields,ne_eq,hn',vZ,iz,cz];have step:∀a,rec f.type (ze xs f.offset (P.cellsOf f.type)) (ze ys f.offset (P.cellsOf f.type))=some a→
     ∃u v,(part f.type (xs.map Lf.enc).toArray f.offset).run P w=.ok u w∧(part f.type (ys.map Lf.enc).toArray f.offset).run P w=.ok v w∧(Op.equalIn d f.type u v).run P w=.ok a w:=by
    intro a ha;obtain⟨⟨dd,hd⟩,hs,he⟩:=hrec _ _ _ _ ha;obtain⟨u,hu,iu⟩:=vW hd xs f.offset _ rfl (λz=>(hs z).1) w;obtain⟨v,hv,iv⟩:=vW hd ys f.offset _ rfl (λz=>(hs z).2) w;exact⟨u,v,hu,hv,he u v iu iv⟩
   split at h
   ·rename_i a ha;cases h;obtain⟨u,v,hu,hv,he⟩:=step _ ha;simp only[hu,hv,he,dI,ru];cases b<;>simp[Op.eqFields]
   ·rename_i a g r' ha;obtain⟨u,v,hu,hv,he⟩:=step _ ha;split at h
    ·rename_i b' hb';cases h;simp only[hu,hv,he,dI,ru,ih hb'];cases a<;>simp
    ·cases h
   ·cases h
theorem Bw{d:Nat}{t:TypeId}{xs ys:List Lf}{rec:List Lf→List Lf→Option Bool}{dd:TypeDesc}(ht:P.underlying t=some dd)(w:World)
  (hrec:∀us vs b,rec us vs=some b→(fy P t=false→(∃l,us=[l])∧∃l,vs=[l])∧∀x y,oc P t us x→oc P t vs y→(Op.equalIn d t x y).run P w=.ok b w):
  ∀(m i:Nat) (b:Bool),Ki rec (P.cellsOf t) xs ys m i=some b→
   (forIn (List.range' i m) ((none,()):Option Bool×Unit) (λi _=>do
    let a←part t (xs.map Lf.enc).toArray (i*P.cellsOf t)
    let c←part t (ys.map Lf.enc).toArray (i*P.cellsOf t)
    let r←Op.equalIn d t a c
    if(!r)=true then pure (ForInStep.done (some false,()))else pure (ForInStep.yield (none,())))).run P w
    =.ok (if b then(none,())else(some false,())) w:=by
 intro m
 induction m with
 |zero=>intro i b h;simp[Ki]at h;subst h;simp
 |succ m ih=>
  intro i b h;unfold Ki at h;simp only[List.range'_succ,List.forIn_cons,cz];have step:∀a,rec (ze xs (i*P.cellsOf t) (P.cellsOf t)) (ze ys (i*P.cellsOf t) (P.cellsOf t))=some a→
    ∃u v,(part t (xs.map Lf.enc).toArray (i*P.cellsOf t)).run P w=.ok u w∧(part t (ys.map Lf.enc).toArray (i*P.cellsOf t)).run P w=.ok v w∧(Op.equalIn d t u v).run P w=.ok a w:=by
   intro a ha;obtain⟨hs,he⟩:=hrec _ _ _ ha;obtain⟨u,hu,iu⟩:=vW ht xs (i*P.cellsOf t) _ rfl (λz=>(hs z).1) w;obtain⟨v,hv,iv⟩:=vW ht ys (i*P.cellsOf t) _ rfl (λz=>(hs z).2) w;exact⟨u,v,hu,hv,he u v iu iv⟩
  split at h
  ·rename_i a ha;cases h;obtain⟨u,v,hu,hv,he⟩:=step _ ha;simp only[hu,hv,he,dI];cases b<;>simp
  ·rename_i a k ha;obtain⟨u,v,hu,hv,he⟩:=step _ ha;split at h
   ·rename_i b' hb';cases h;have h3:=ih (i+1) b' hb';simp only[hu,hv,he,dI];cases a with
    |false=>simp
    |true=>simpa using h3
   ·cases h
  ·cases h
theorem VO:∀(d D:Nat) (t:TypeId) (xs ys:List Lf) (b:Bool) (w:World),d≤D→W7 P d t xs ys=some b→
  (∃dd,P.underlying t=some dd)∧(fy P t=false→(∃l,xs=[l])∧∃l,ys=[l])∧∀x y,oc P t xs x→oc P t ys y→(Op.equalIn D t x y).run P w=.ok b w:=by
 intro d
 induction d with
 |zero=>intro D t xs ys b w _ h;simp[W7]at h
 |succ d ih=>
  intro D t xs ys b w hD h;obtain⟨D,rfl⟩:∃n,D=n+1:=⟨D-1,by omega⟩;simp only[W7]at h;split at h
  ·rename_i hu;have hg:fy P t=false:=by simp[fy,hu]
   split at h
   ·rename_i p q;cases h;refine⟨⟨_,hu⟩,λ_=>⟨⟨_,rfl⟩,_,rfl⟩,λx y hx hy=>?_⟩;simp only[oc,hg,jo,jp]at hx hy;obtain⟨l,h1,rfl⟩:=hx;obtain⟨m,h2,rfl⟩:=hy;cases h1;cases h2;exact run_equalIn_bool' w D t _ _ hu
   ·cases h
  ·rename_i k hu;have hg:fy P t=false:=by simp[fy,hu]
   split at h
   ·rename_i k1 p k2 q;split at h
    ·rename_i hk;cases h;refine⟨⟨_,hu⟩,λ_=>⟨⟨_,rfl⟩,_,rfl⟩,λx y hx hy=>?_⟩;simp only[oc,hg,jo,jp]at hx hy;obtain⟨l,h1,rfl⟩:=hx;obtain⟨m,h2,rfl⟩:=hy;cases h1;cases h2;rw[←uI hk];exact run_equalIn_int w D t k1 k p q hu
    ·cases h
   ·cases h
  ·rename_i hu;have hg:fy P t=false:=by simp[fy,hu]
   split at h
   ·rename_i p q;cases h;refine⟨⟨_,hu⟩,λ_=>⟨⟨_,rfl⟩,_,rfl⟩,λx y hx hy=>?_⟩;simp only[oc,hg,jo,jp]at hx hy;obtain⟨l,h1,rfl⟩:=hx;obtain⟨m,h2,rfl⟩:=hy;cases h1;cases h2;exact run_equalIn_string w D t _ _ hu
   ·cases h
  ·rename_i fs hu;have hg:fy P t=true:=by simp[fy,hu]
   split at h
   ·cases h
   ·rename_i hst;refine⟨⟨_,hu⟩,λz=>(by rw[hg]at z;cases z),λx y hx hy=>?_⟩;simp only[oc,hg,iz]at hx hy;subst hx;subst hy;have hf:P.fieldsOf t=fs:=by simp[Program.fieldsOf,hu]
    rw[run_equalIn_struct w D t _ _ (by rw[hf];exact hu) hst,hf];exact CR w (λt us vs b hh=>ih D t us vs b w (by omega) hh) h
  ·rename_i n e hu;have hg:fy P t=true:=by simp[fy,hu]
   refine⟨⟨_,hu⟩,λz=>(by rw[hg]at z;cases z),λx y hx hy=>?_⟩;simp only[oc,hg,iz]at hx hy;subst hx;subst hy;simp only[Op.equalIn,cz,fq hu,dI];cases n with
   |zero=>cases h
   |succ n=>
    have hrec:=λus vs b hh=>ih D e us vs b w (by omega) hh;have hue:∃dd,P.underlying e=some dd:=by
     dsimp only at h;unfold Ki at h;split at h<;>rename_i hh
     ·exact(hrec _ _ _ hh).1
     ·exact(hrec _ _ _ hh).1
     ·cases h
    obtain⟨dd,hdd⟩:=hue;simp only[kh hdd,dI];rw[Std.Legacy.Range.forIn_eq_forIn_range'];have:=Bw (xs:=xs) (ys:=ys) hdd w (λus vs b hh=>(hrec us vs b hh).2) (n+1) 0 b h;simp only[Std.Legacy.Range.size];simp only[Nat.sub_zero,Nat.div_one,Nat.add_one_sub_one]at*;rw[this];cases b<;>simp
  ·cases h
theorem fH(op:BinOp)(t:TypeId)(x y:Operand)(a b:Lf)(w:World)(hn:a≠ .SV:=by simp):(eqGuard op t x y a.enc b.enc).run P w=.ok () w:=by
  have hs:∀s:Sl,∃x n c,s.enc=.slice x n c:=λs=>by obtain⟨x,c,hx,_⟩:=s.lU;exact⟨x,_,c,hx⟩
  have hf:∀f:Fv,f.enc=.nilFunc∨∃x y z,f.enc=.func x y z:=λf=>by cases f<;>simp[Fv.enc]
  have hl:∀l:Lf,l≠ .SV→(∃k n,l.enc=.int k n)∨(∃b,l.enc=.bool b)∨(∃p,l.enc=.pointer p)∨(∃x n c,l.enc=.slice x n c)∨(∃s,l.enc=.string s)∨l.enc=.nilFunc∨(∃x y z,l.enc=.func x y z)∨∃r,l.enc=.map (some r):=λl hn=>by
    cases l with
    |sl s=>obtain⟨x,n,c,h⟩:=hs s;exact .inr (.inr (.inr (.inl ⟨x,n,c,h⟩)))
    |fn f=>
      rcases hf f with h|h
      · exact .inr (.inr (.inr (.inr (.inr (.inl h)))))
      · exact .inr (.inr (.inr (.inr (.inr (.inr (.inl h))))))
    |SV=>exact absurd rfl hn
    |_=>simp[Lf.enc]
  rcases hl a hn with⟨k,n,h⟩|⟨k,h⟩|⟨k,h⟩|⟨k,n,c,h⟩|⟨k,h⟩|h|⟨k,n,c,h⟩|⟨k,h⟩<;>rw[h]<;>by_cases hb:b=.SV;all_goals first
    |(subst hb;cases op<;>simp[eqGuard])
    |(rcases hl b hb with⟨k,n,h⟩|⟨k,h⟩|⟨k,h⟩|⟨k,n,c,h⟩|⟨k,h⟩|h|⟨k,n,c,h⟩|⟨k,h⟩<;>rw[h]<;>cases op<;>simp[eqGuard])
theorem Rf{op:BinOp}{eq:Bool}(h:isEq op=some eq):op=if eq then .eql else .neq:=by cases op<;>simp[isEq]at h<;>subst h<;>rfl
theorem P1{op:BinOp}{k:IntKind}{a b:Int}{v:TV}(h:TI op k a b=some v)(t:TypeId)(w:World):(binOp op t (.int k a) (.int k b)).run P w=.ok v.enc w:=by
 cases op<;>simp only[TI,sk,oX,nL,reduceCtorEq]at h<;>subst h<;>
  simp[binOp,Op.intArith,Op.intBits,Op.intCmp,TV.enc,V1.enc,Lf.enc]
theorem Cr{eq b:Bool}{v:TV}(h:xb eq b=some v):v.enc=.bool (if eq then b else !b):=by cases eq<;>simp only[xb,oX,nL]at h<;>subst h<;>rfl
theorem EO(d:Nat){t u:TypeId}(hu:P.underlying t=some (.pointer u))(p:Option Pt)(w:World):(Op.equalIn (d+1) t (.pointer (p.map Pt.addr)) (.pointer none)).run P w=.ok p.isNone w:=by cases p<;>simp[Op.equalIn,fq hu]
theorem GF(d:Nat){t u:TypeId}(hu:P.underlying t=some (.slice u))(s:Sl)(l c:Nat)(w:World):(Op.equalIn (d+1) t s.enc (.slice none l c)).run P w=.ok s.isNil w:=by
 obtain⟨a,m,h,_,_,hn⟩:=s.lU;rw[h];cases a with
 |none=>rw[hn.1 rfl];simp[Op.equalIn,fq hu]
 |some a=>
  have:s.isNil=false:=by
   cases hh:s.isNil with
   |false=>rfl
   |true=>have:=hn.2 hh;cases this
  rw[this];simp[Op.equalIn,fq hu]
theorem GD(d:Nat){t:TypeId}{a b:Array TypeId}{c:Bool}(hu:P.underlying t=some (.func a b c))(f:Fv)(w:World):(Op.equalIn (d+1) t f.enc .nilFunc).run P w=.ok (GQ f) w:=by cases f<;>simp[Fv.enc,GQ,Op.equalIn,fq hu]
theorem VP{eq:Bool}{t:TypeId}{x y:V1}{v:TV}(h:eqV P eq t x y=some v)(x0 y0:Operand)(w:World):
  ((do eqGuard (if eq then .eql else .neq) t x0 y0 x.enc y.enc;binOp (if eq then .eql else .neq) t x.enc y.enc:Sem Value)).run P w=.ok v.enc w:=by
 unfold eqV at h;split at h
 ·
  rename_i a b;split at h
  ·rename_i hu;rw[Cr h];simp only[cz,V1.enc,fH,ne_eq,reduceCtorEq,vZ,dI];have:=run_equalIn_bool' (P:=P) w 9999 t a b hu;cases eq<;>simp[binOp,Lf.enc,Op.equal,Op.maxDepth,this]
  ·cases h
 ·
  rename_i a b;rw[Cr h];simp only[cz,V1.enc,fH,ne_eq,reduceCtorEq,vZ,dI];cases eq<;>simp[binOp,Lf.enc,Op.stringOp]
 ·
  rename_i p;split at h
  ·rename_i hu;rw[Cr h];simp only[cz,V1.enc,fH,ne_eq,reduceCtorEq,vZ,dI];have:=EO 9999 hu p w;cases eq<;>simp[binOp,Lf.enc,Op.equal,Op.maxDepth,this]
  ·cases h
 ·
  rename_i s;split at h
  ·rename_i hu;rw[Cr h];simp only[cz,V1.enc,fH,ne_eq,reduceCtorEq,vZ,dI];have:=GF 9999 hu s 0 0 w;obtain⟨x,c,hx,_⟩:=s.lU;have hz:(Lf.sl ⟨none,0,0⟩).enc=.slice none 0 0:=rfl;have hy:(Lf.sl s).enc=.slice x s.len c:=hx;rw[hx]at this;rw[hz,hy];cases eq<;>simp[binOp,Op.equal,Op.maxDepth,this]
  ·cases h
 ·
  rename_i f;split at h
  ·rename_i hu;rw[Cr h];simp only[cz,V1.enc,fH,ne_eq,reduceCtorEq,vZ,dI];have:=GD 9999 hu f w;cases f<;>simp only[Fv.enc]at this<;>cases eq<;>simp[binOp,Lf.enc,Fv.enc,Op.equal,Op.maxDepth,this]
  ·cases h
 ·
  rename_i xs ys;split at h
  ·rename_i hg;simp only[d_,nK]at hg;obtain⟨hagg,hguard⟩:=hg;split at h
   ·rename_i b hb;rw[Cr h];obtain⟨_,_,he⟩:=VO 8 10000 t xs ys b w (by omega) hb;have he:=he (.agg (xs.map Lf.enc).toArray) (.agg (ys.map Lf.enc).toArray) (by simp[oc,hagg]) (by simp[oc,hagg]);simp only[cz,V1.enc,run_eqGuard_agg w _ t _ _ _ _ hguard,dI];cases eq
    ·simp only[jo,jp,run_neq_struct,he,dI]
    ·simp only[iz,run_eql_struct,he,dI]
   ·cases h
  ·cases h
 ·cases h
theorem P2{op:BinOp}{t:TypeId}{x y:V1}{v:TV}(h:TJ P op t x y=some v)(x0 y0:Operand)(w:World):
  ((do eqGuard op t x0 y0 x.enc y.enc;binOp op t x.enc y.enc:Sem Value)).run P w=.ok v.enc w:=by
 unfold TJ at h;split at h
 ·rename_i k a k' b;split at h
  ·rename_i hk;have:=uI hk;subst this;simp only[cz,V1.enc,fH,ne_eq,reduceCtorEq,vZ,dI];exact P1 h t w
  ·cases h
 ·split at h
  ·rename_i eq heq;rw[Rf heq];exact VP h x0 y0 w
  ·cases h
end Go.X

namespace Go.X
variable {P:Program}
theorem AU(L:List Lf)(off:Nat)(l:Lf)(r:List Lf)(h:off+(l::r).length≤L.length):fa (L.set off l) (off+1) r=fa L off (l::r):=by
 unfold fa;simp only[gg]at h⊢;rw[List.set_eq_take_append_cons_drop,aG (by omega)];have h1:(List.take off L++l::List.drop (off+1) L).take (off+1)=List.take off L++[l]:=by
  rw[List.take_append];simp only[fO];rw[show min off L.length=off by omega,show off+1-off=1 by omega,jZ (by simp;omega)];simp
 have h2:(List.take off L++l::List.drop (off+1) L).drop (off+1+r.length)=L.drop (off+(r.length+1)):=by
  rw[Al];simp only[fO];rw[show min off L.length=off by omega,Cb (by simp;omega),show off+1+r.length-off=r.length+1 by omega];simp;rw[show off+1+r.length=off+(r.length+1) by omega]
 rw[h1,h2];simp
theorem ID(off:Nat):∀(r:List Lf) (k:Nat) (L:List Lf),off+k+r.length≤L.length→
  ((r.map Lf.enc).zipIdx k).foldl (λ(cs:Array Value) (x:Value×Nat)=>cs.setIfInBounds (off+x.2) x.1) (L.map Lf.enc).toArray=((fa L (off+k) r).map Lf.enc).toArray
 |[],k,L,h=>by simp[fa]
 |l::r,k,L,h=>by
  simp only[kJ,List.zipIdx_cons,Dz];have:(List.map Lf.enc L).toArray.setIfInBounds (off+k) l.enc=(List.map Lf.enc (L.set (off+k) l)).toArray:=by simp[List.map_set]
  rw[this,ID off r (k+1) _ (by simp at h⊢;omega),show off+(k+1)=off+k+1 by omega,AU _ _ _ _ (by simpa using h)]
theorem CT{place:Nat→Option (Nat×Nat)}:∀{vs:List (Nat×V1)} {ls ls':List Lf},zl place ls vs=some ls'→
  Instr.fill place (ls.map Lf.enc).toArray (vs.map λx=>(x.1,x.2.enc))=some (ls'.map Lf.enc).toArray
 |[],ls,ls',h=>by simp[zl]at h;subst h;rfl
 |(i,v)::r,ls,ls',h=>by
  simp only[zl]at h;split at h
  ·cases h
  ·rename_i off size hp;split at h
   ·rename_i hb;simp only[d_,xq,xr]at hb;simp only[kJ,Instr.fill,hp,V1.cells];rw[ay (by simp[hb.1];omega)];have:=ID off v.Kq 0 ls (by omega);simp only[wb]at this;rw[←CT h,←this];simp
   ·cases h
theorem zy{t:TypeId}(h:(P.info? t).isSome=true)(w:World):(sizeOf t).run P w=.ok (P.cellsOf t) w:=by
 unfold sizeOf typeInfo Program.cellsOf;cases hi:P.info? t with
 |none=>simp[hi]at h
 |some i=>simp[hi]
theorem ni{t:TypeId}{ls:List Lf}(h:mh P t=some ls)(w:World):∃v:Value,(zeroValue t).run P w=.ok v w∧v.cells=(ls.map Lf.enc).toArray:=by
 unfold mh at h;split at h
 ·rename_i i hi;split at h
  ·rename_i z hz;split at h
   ·rename_i v hv;cases h;refine⟨z,by simp[zeroValue,typeInfo,hi,hz],?_⟩;rw[←wV hv,V1.cells]
   ·cases h
  ·cases h
 ·cases h
theorem z6(w:World):∀(fs:List Field),(fs.all λf=>(P.info? f.type).isSome)=true→
  (fs.mapM (m:=Sem) λf=>do pure (f.offset,←sizeOf f.type)).run P w=.ok (fs.map λf=>(f.offset,P.cellsOf f.type)) w
 |[],_=>by simp
 |f::fs,h=>by
  simp only[List.all_cons,d_]at h;simp only[DC,cz,zy h.1,dI,eh,z6 w fs h.2,kJ]
theorem LZ{t:TypeId}{z ls:List Lf}{vs:List (Nat×V1)}(hz:mh P t=some z)(hi:GO P t=true)(hf:zl (placeOf P t) z vs=some ls)(w:World):
  (Instr.build t (vs.map λx=>(x.1,x.2.enc)).toArray).run P w=.ok (.agg (ls.map Lf.enc).toArray) w:=by
 obtain⟨v,hv,hc⟩:=ni hz w;unfold Instr.build;simp only[cz,hv,dI];unfold GO at hi;unfold placeOf at hf;have hfill:=CT hf;split at hi
 ·rename_i fs hu;obtain⟨fl,rfl⟩:∃fl:List Field,fs=fl.toArray:=⟨fs.toList,by simp⟩;simp only[hu]at hfill;simp only[fq hu,dI,cz,List.mapM_toArray,Sem.run_map,z6 w _ hi,hc];have e:(λi:Nat=>((List.map (λf:Field=>(f.offset,P.cellsOf f.type)) fl).toArray)[i]?)=zX P fl.toArray:=by
   funext i
   simp only[zX,Cc,kV];cases fl[i]?<;>rfl
  rw[e,hfill];simp
 ·rename_i n el hu;simp only[hu]at hfill;simp only[fq hu,dI,cz,zy hi,hc];simp[hfill]
 ·cases hi
theorem BQ{t:TypeId}{i:Nat}{f:Field}(h:vD P t i=some f):∃fs,P.underlying t=some (.struct fs)∧fs[i]?=some f:=by
 unfold vD at h;split at h
 ·rename_i fs hu;exact⟨fs,hu,h⟩
 ·cases h
theorem jU{t:TypeId}(h:P.cellsOf t≠0)(w:World):(sizeOf t).run P w=.ok (P.cellsOf t) w:=by
 refine zy ?_ w;unfold Program.cellsOf at h;cases hi:P.info? t with
 |none=>simp[hi]at h
 |some i=>rfl
theorem ta{mx:Bool}{k:IntKind}:∀{vs:List V1} {a:Int} {v:TV} (_:mJ mx k a vs=some v) (w:World),
  (List.foldlM (m:=Sem) (if mx then Builtin.max2 else Builtin.min2) (.int k a) (vs.map V1.enc)).run P w=.ok v.enc w
 |[],a,v,h,w=>by simp only[mJ,sk,nL]at h;subst h;simp[TV.enc,V1.enc,Lf.enc]
 |.lf (.int k' b)::r,a,v,h,w=>by
  simp only[mJ]at h;split at h
  ·rename_i hk;have:=uI hk;subst this;cases mx
   ·simp only[jo,jp,kJ,List.foldlM_cons,V1.enc,Lf.enc,Builtin.min2,cz,eh,dI];exact ta (mx:=false) h w
   ·simp only[iz,kJ,List.foldlM_cons,V1.enc,Lf.enc,Builtin.max2,cz,eh,dI];exact ta (mx:=true) h w
  ·cases h
 |.lf (.bool _)::_,_,_,h,_=>by simp[mJ]at h
 |.lf (.ptr _)::_,_,_,h,_=>by simp[mJ]at h
 |.lf (.sl _)::_,_,_,h,_=>by simp[mJ]at h
 |.lf (.str _)::_,_,_,h,_=>by simp[mJ]at h
 |.lf (.fn _)::_,_,_,h,_=>by simp[mJ]at h
 |.agg _::_,_,_,h,_=>by simp[mJ]at h
theorem Gk{b:Builtin}{vs:List V1}{ts:Array TypeId}{v:TV}(h:y8 b vs=some v)(hb:sV P b ts vs=true)(t:TypeId)(cs:Array Bool)(w:World):
  (builtin b ts t cs (vs.map V1.enc).toArray).run P w=.ok (.value v.enc) w:=by
 unfold y8 at h;split at h
 ·rename_i x;split at h
  ·rename_i n hn;simp only[sk,nL]at h;subst h;simp only[sV]at hb;split at hb
   ·rename_i t0 s ht0 hx;cases hx;cases hn;split at hb
    ·rename_i u hu;obtain⟨x,c,hx,_⟩:=s.lU;simp[builtin,Builtin.len_,ht0,V1.enc,Lf.enc,hx,fq hu,TV.enc,goInt]
    ·cases hb
   ·rename_i t0 s ht0 hx;cases hx;cases hn;split at hb
    ·rename_i hu;simp[builtin,Builtin.len_,ht0,V1.enc,Lf.enc,fq hu,TV.enc,goInt]
    ·cases hb
   ·cases hb
  ·cases h
 ·rename_i s;simp only[sk,nL]at h;subst h;simp only[sV]at hb;split at hb
  ·rename_i t0 s ht0 hx;cases hx;split at hb
   ·rename_i u hu;obtain⟨x,c,hx,_,hcp,_⟩:=s.lU;simp[builtin,Builtin.cap_,ht0,V1.enc,Lf.enc,hx,hcp,fq hu,TV.enc,goInt]
   ·cases hb
  ·rename_i hx;cases hx
  ·cases hb
 ·rename_i k a r;simp only[builtin,Builtin.max_,kJ,V1.enc,Lf.enc];have:=ta (P:=P) h w;simp only[iz]at this;simp[this]
 ·rename_i k a r;simp only[builtin,Builtin.min_,kJ,V1.enc,Lf.enc];have:=ta (P:=P) h w;simp only[jo,jp]at this;simp[this]
 ·cases h
section
variable {e:Env} {a:Act} {c:F_}
theorem k_{α β:Type}(xs:Array α)(f:α→β):xs.map f=(xs.toList.map f).toArray:=by exact(Array.toArray_toList (xs:=xs.map f)).symm.trans (c_ List.toArray Array.toList_map)
theorem WG{op:UnOp}{x:V1}{v:TV}(h:unV op x=some v)(w:World):(Op.unary op x.enc).run P w=.ok v.enc w:=by
 unfold unV at h;split at h
 ·cases op<;>simp only[oX,nL,reduceCtorEq]at h;subst h;simp[V1.enc,Lf.enc,Op.unary,TV.enc]
 ·cases op<;>simp only[sk,nL,reduceCtorEq]at h;subst h;simp[V1.enc,Lf.enc,Op.unary,Op.intArith,TV.enc]
 ·cases h
theorem GI{t:TypeId}{i:Nat}{f:Field}(hf:vD P t i=some f)(hz:P.cellsOf f.type≠0)(p:Pt)(w:World):
  (Instr.fieldAt t (.pointer (some p.addr)) i).run P w=.ok (.pointer (some ⟨p.b,p.o+f.offset,none⟩)) w:=by
 obtain⟨fs,hu,hi⟩:=BQ hf;unfold Instr.fieldAt;simp only[cz,fq hu,dI,hi];simp only[Instr.sureAddr,cz,eh,dI,fieldPlace,jU hz,ru,ay hz,Addr.add];split
 ·rename_i h0;simp[h0]
 ·rfl
theorem uJ{t:TypeId}{ls:List Lf}{off:Nat}{v:V1}(h:vV P t ls off=some v){d:TypeDesc}(hd:P.underlying t=some d)(w:World):
  (part t (ls.map Lf.enc).toArray off).run P w=.ok v.enc w:=by
 unfold vV at h;unfold part;simp only[cz,tb P t hd,dI,ru];split at h
 ·rename_i hg;cases h;simp only[hg,iz,kh hd,dI,eh];simp[V1.enc,List.map_take,List.map_drop]
 ·rename_i hg;simp only[hg,jo,jp];split at h
  ·rename_i l hl;cases h;simp[hl,V1.enc]
  ·cases h
theorem Mx(hA:mH e a)(hc:Holds c a){cn:Operand}{b:Bool}(h:ot e c cn=some (.one (.lf (.bool b)))):Holds (match IJ cn with|true=>(DW cn,b)::c|false=>c) a:=by
 cases cn with
 |tmp t=>
  simp only[IJ,DW];refine uH hc ?_;have:=bD hA hc h;simp only[Act.eval,TV.enc,V1.enc,Lf.enc]at this;have h2:a.tmps.getD t undef=.bool b:=this;rw[FB]at h2;cases hh:a.tmps[t]? with
  |none=>rw[hh]at h2;simp[undef]at h2
  |some z=>rw[hh]at h2;simp at h2;rw[h2]
 |const v=>exact hc
 |global g=>exact hc
 |func f=>exact hc
theorem Aa(hA:mH e a)(hc:Holds c a){o:Oper}{v:TV}(h:xW P e c o=some v)(w:World):(execOp a.eval o).run P w=.ok (.value v.enc) w:=by
 unfold xW at h;split at h
 ·rename_i x ho;simp only[execOp,ho,eh];rw[bD hA hc h]
 ·rename_i x ho;simp only[execOp,ho,eh];rw[bD hA hc h]
 ·
  rename_i cn x y ho;simp only[execOp,ho];split at h
  ·rename_i b hb;rw[bD hA hc hb];simp only[TV.enc,V1.enc,Lf.enc,asBool,cz,eh,dI];have hctx:=Mx hA hc hb;split at h
   ·rename_i p q hp hq;simp only[oX,nL]at h;subst h;cases b with
    |true=>simp only[iz];rw[bD hA hctx hp];rfl
    |false=>simp only[jo,jp];rw[bD hA hctx hq];rfl
   ·cases b with
    |true=>simp only[iz];rw[bD hA hctx h];rfl
    |false=>simp only[jo,jp];rw[bD hA hctx h];rfl
  ·cases h
 ·
  rename_i t ps ho;simp only[execOp,ho];split at h
  ·rename_i z vs hz hv;split at h
   ·rename_i hi;split at h
    ·rename_i ls hl;cases h;have e1:=uD hA hc hv;have e2:ps.map (λx:Nat×Operand=>(x.1,a.eval x.2))=(vs.map λx=>(x.1,x.2.enc)).toArray:=by rw[←e1];exact k_ _ _
     have:=LZ hz hi hl w;rw[←e2]at this;rw[cz,this]
     rfl
    ·cases h
   ·cases h
  ·cases h
 ·
  rename_i op t x y u ho;simp only[execOp,ho];split at h
  ·rename_i p q hp hq;rw[bD hA hc hp,bD hA hc hq];have:=P2 (P:=P) h x y w;simp only[TV.enc]at this⊢;rw[cz,this]
   rfl
  ·cases h
 ·
  rename_i op t x ho;simp only[execOp,ho];split at h
  ·rename_i p hp;rw[bD hA hc hp];simp only[TV.enc];rw[cz,WG h]
   rfl
  ·cases h
 ·
  rename_i src dst x ho;simp only[execOp,ho];split at h
  ·rename_i k n hp;rw[bD hA hc hp];split at h
   ·rename_i k1 k2 hs hd;simp only[sk,nL]at h;subst h;simp[TV.enc,V1.enc,Lf.enc,convert,fq hs,fq hd,Conv.intToInt]
   ·cases h
  ·cases h
 ·
  rename_i fn first cap ho
  simp only[execOp,ho];split at h
  ·rename_i p q hp hq;cases h;have e1:first.map a.eval=(p.map V1.enc).toArray:=by rw[←qJ hA hc hp];exact k_ _ _
   have e2:cap.map a.eval=(q.map V1.enc).toArray:=(by rw[←qJ hA hc hq];exact k_ _ _);simp[Instr.makeFunc,e1,e2,TV.enc,V1.enc,Lf.enc,Fv.enc]
  ·cases h
 ·
  rename_i t x i ho;simp only[execOp,ho];split at h
  ·rename_i p f hp hf;rw[bD hA hc hp];split at h
   ·cases h
   ·rename_i hz;cases h;have hz':P.cellsOf f.type≠0:=λz=>by rw[z]at hz;cases hz
    simp only[TV.enc,V1.enc,Lf.enc,rq];rw[cz,GI hf hz' p w]
    rfl
  ·cases h
 ·
  rename_i t x i ho;simp only[execOp,ho];split at h
  ·rename_i ls f hp hf;rw[bD hA hc hp];split at h
   ·rename_i hle;obtain⟨fs,hu,hi⟩:=BQ hf;unfold Lm at h;split at h
    ·rename_i u hv;cases h;obtain⟨d,hd⟩:=ua.1 hle;simp only[TV.enc];rw[cz,V1.enc,Instr.field];simp only[cz,fq hu,dI,hi,asAgg,eh,uJ hv hd]
    ·cases h
   ·cases h
  ·cases h
 ·
  rename_i t x k n ho;simp only[execOp,ho];split at h
  ·rename_i ls len el hp hu;rw[bD hA hc hp];split at h
   ·rename_i hd hel;have hd:=bV hd;unfold Lm at h;split at h
    ·rename_i u hv;cases h;obtain⟨d,hdd⟩:=ua.1 hel;simp only[TV.enc];rw[cz,V1.enc,Instr.index];simp only[Act.eval,asIntOf,cz,eh,dI,fq hu];simp[hd,kh hdd,uJ hv hdd]
    ·cases h
   ·cases h
  ·cases h
 ·
  rename_i x i ho;simp only[execOp,ho];split at h
  ·rename_i vs hp;rw[bD hA hc hp];unfold Lm at h;split at h
   ·rename_i u hv;cases h;simp[TV.enc,Instr.extract,hv]
   ·cases h
  ·cases h
 ·
  rename_i cl ho;simp only[execOp,ho];split at h
  ·rename_i b hb;split at h
   ·rename_i vs hvs;split at h
    ·rename_i hok;have e1:cl.args.map a.eval=(vs.map V1.enc).toArray:=by rw[←qJ hA hc hvs];exact k_ _ _
     simp only[resolve,hb,e1,cz,eh,dI,invoke];exact Gk h hok _ _ w
    ·cases h
   ·cases h
  ·cases h
 ·cases h
end
end Go.X

namespace Go.X
variable {P:Program}
abbrev Fr(r:Option Nat):Fence:={Fence.wide with round:=r}
theorem za{r:Option Nat}{n:Nat}{f:FuncId}{args:Array Value}{w:World}{R:Ending→World→Prop}(h:CallsIn Fence.wide n P f args w R):CallsIn (Fr r) n P f args w R:=h
theorem HQ{r:Option Nat}{n l:Nat}{f:FuncId}{tmps:Array Value}{as body:Code}{w:World}{R:Ending→World→Prop}(h:RoundIn Fence.wide n P l f tmps as body w R):RoundIn (Fr r) n P l f tmps as body w R:=h
theorem zh{r:Option Nat}{p:Prop}:(Fr r).depth.isSome=true→p:=λh=>by cases h
theorem nZ{w:World}{b:Nat}:∀(ls:List Lf) (L:List Lf) (o k:Nat) (_:BD w b L) (_:o+k+ls.length≤L.length),
  ∃w',(storeCells ⟨b,o,none⟩ (ls.map Lf.enc) k).run P w=.ok () w'∧jq (Ew b) w w'∧BD w' b (fa L (o+k) ls)∧w'.heap.size=w.heap.size:=by
 intro ls
 induction ls generalizing w with
 |nil=>intro L o k hb hl;exact⟨w,rfl,jq.refl _ _,by simpa [fa]using hb,rfl⟩
 |cons l ls ih=>
  intro L o k hb hl;simp only[gg]at hl;have hcell:=xL hb (o+k);have hfr:=Bp hb (o+k);have hlk:o+k<L.length:=by omega
  have hsome:w.cell? ⟨b,o+k,none⟩=some (L[o+k]).enc:=by rw[hcell,jx hlk];rfl
  have hone:l.enc.oneCell'=true:=by
   cases l with
   |sl s=>obtain⟨x,c,hx,_⟩:=s.lU;simp[Lf.enc,hx,Value.oneCell']
   |fn f=>cases f<;>simp[Lf.enc,Fv.enc,Value.oneCell']
   |_=>simp[Lf.enc,Value.oneCell']
  have hadd:(⟨b,o,none⟩:Addr).add k=⟨b,o+k,none⟩:=by
   unfold Addr.add;split
   ·rename_i h0;subst h0;simp
   ·rfl
  have hrun:(store (⟨b,o+k,none⟩:Addr) l.enc).run P w=.ok () (w.setCell ⟨b,o+k,none⟩ l.enc):=by
   rw[run_store P w _ _ _ hone,hsome];simp[hfr]
  have hblk:BD (w.setCell ⟨b,o+k,none⟩ l.enc) b (L.set (o+k) l):=by
   obtain⟨T,hT⟩:=hb;refine⟨T,?_⟩;simp[World.setCell,Dp,hT,List.map_set]
  have hext:jq (Ew b) w (w.setCell ⟨b,o+k,none⟩ l.enc):=by
   refine⟨rfl,rfl,rfl,by simp[World.setCell],λi hi hn=>N8 _ _ _ _ hn,λi hi=>?_⟩;by_cases hib:i=b
   ·subst hib;obtain⟨T,hT⟩:=hb;rw[hT]at hi;cases hi
   ·rw[N8 _ _ _ _ hib];exact hi
  have hsz:(w.setCell ⟨b,o+k,none⟩ l.enc).heap.size=w.heap.size:=by simp[World.setCell]
  obtain⟨w',h1,h2,h3,h4⟩:=ih (L.set (o+k) l) o (k+1) hblk (by simp;omega);refine⟨w',?_,hext.trans h2,?_,by rw[h4,hsz]⟩
  ·simp only[kJ,storeCells,cz,hadd,hrun,dI];exact h1
  ·rw[show o+(k+1)=o+k+1 by omega,AU _ _ _ _ (by simp;omega)]at h3;exact h3
theorem kq(w:World)(o:Obj):jq Db w {w with heap:=w.heap.push o}:=
 ⟨rfl,rfl,rfl,by simp,λk hk _=>Ob w o k hk,λk hk=>(Ob w o k (pk.1 hk).1).trans hk⟩
theorem wN(w:World)(ls:List Lf)(T:TypeId):BD {w with heap:=w.heap.push (.cells (ls.map Lf.enc).toArray T)} w.heap.size ls:=⟨T,by simp⟩
theorem add_eq(b o k:Nat):(⟨b,o,none⟩:Addr).add k=⟨b,o+k,none⟩:=by
 unfold Addr.add;split
 ·rename_i h0;subst h0;simp
 ·rfl
theorem sF{w:World}{b:Nat}:∀{ls:List Lf} {o:Nat},Reads w b o ls→∀j v,(ls.map Lf.enc)[j]?=some v→w.cell? ((⟨b,o,none⟩:Addr).add j)=some v
 |l::ls,o,h,0,v,hv=>by
  simp at hv;subst hv;rw[add_eq];exact h.1
 |l::ls,o,h,j+1,v,hv=>by
  have:=sF h.2 j v (by simpa using hv);rw[add_eq]at*;rw[show o+(j+1)=o+1+j by omega];exact this
 |[],o,h,j,v,hv=>by simp at hv
theorem E7{w:World}{b o:Nat}{ls:List Lf}(h:Reads w b o ls):(loadCells ⟨b,o,none⟩ ls.length).run P w=.ok (ls.map Lf.enc).toArray w:=by
 have:=run_loadCells_list (P:=P) w ⟨b,o,none⟩ (ls.map Lf.enc) (λj v hj=>sF h j v hj);simpa using this
theorem uM{t:TypeId}{d:TypeDesc}(hd:P.underlying t=some d)(hg:fy P t=false){w:World}{b o:Nat}{l:Lf}(h:Reads w b o [l]):
  (loadVar t ⟨b,o,none⟩).run P w=.ok l.enc w:=by
 unfold loadVar;simp only[cz,tb P t hd,dI,hg,jo,jp];simp[h.1]
theorem sr{t:TypeId}{d:TypeDesc}(hd:P.underlying t=some d)(hg:fy P t=true){w:World}{b o:Nat}{ls:List Lf}(hl:ls.length=P.cellsOf t)(h:Reads w b o ls):
  (loadVar t ⟨b,o,none⟩).run P w=.ok (.agg (ls.map Lf.enc).toArray) w:=by
 unfold loadVar;simp only[cz,tb P t hd,dI,hg,iz,kh hd,←hl,E7 h,eh]
theorem Ks.len:∀(cs:List CK) (x:Ks.T cs),(Ks.mk cs x).length=cs.length
 |[],_=>rfl
 |[_],_=>rfl
 |_::d::r,x=>by simp only[Ks.mk,gg];rw[Ks.len (d::r) x.2];rfl
theorem AV{t:TypeId}{c:CK}(h:OY P t=some (.lf c)):fy P t=false∧∃d,P.underlying t=some d:=by
 unfold OY at h;split at h
 ·split at h
  ·split at h<;>cases h
  ·cases h
 ·rename_i hg;refine⟨by simpa using hg,?_⟩;split at h
  ·rename_i c hc;unfold o_ at hc;split at hc<;>first|exact⟨_,by assumption⟩|cases hc
  ·cases h
theorem wv{t:TypeId}{cs:List CK}(h:OY P t=some (.agg cs)):fy P t=true∧(∃d,P.underlying t=some d)∧cs.length=P.cellsOf t:=by
 unfold OY at h;split at h
 ·rename_i hg;split at h
  ·split at h
   ·cases h;refine⟨hg,?_,by assumption⟩;unfold fy at hg;split at hg<;>first|exact⟨_,by assumption⟩|cases hg
   ·cases h
  ·cases h
 ·split at h<;>cases h
section
variable {e:Env} {a:Act} {c:F_} {w:World} {r:Option Nat} {n0:Nat} {K':Act→World→Prop} {Q:Exit→Act→World→Prop}
def Ga(P:Program)(r:Option Nat)(a:Act)(o:Oper)(w:World)(K:TV→WP):Prop:=
 ∀(K':Act→World→Prop) (Q:Exit→Act→World→Prop),(∀v w',mi w w'→K v w'→K' (a.put o.dst v.enc) w')→o.wpIn (Fr r) 0 P a w K' Q
theorem cK{o:Oper}{K:TV→WP}{v:TV}{w':World}(hnd:∀x,o.op≠.defer x)(h:(execOp a.eval o).run P w=.ok (.value v.enc) w')(hd:mi w w')(hk:K v w'):Ga P r a o w K:=by
 intro K' Q hK;refine⟨λf _=>trivial,?_⟩;rw[Ap _ _ _ hnd,h];exact hK v w' hd hk
theorem BU{o:Oper}{K:TV→WP}{w':World}(hnd:∀x,o.op≠.defer x)(h:(execOp a.eval o).run P w=.ok .skip w')(hd:mi w w')(hk:K D3 w'):Ga P r a o w K:=by
 intro K' Q hK;refine⟨λf _=>trivial,?_⟩;rw[Ap _ _ _ hnd,h];exact hK D3 w' hd hk
theorem vw{f:FuncId}(h:Kg P f=true)(args:Array Value)(w:World):(callFunc f args).run P w=.ok (.enter f args) w:=by
 unfold Kg at h;unfold callFunc;simp only[cz,xp,dI];split at h
 ·rename_i fn hf;simp only[d_,bne_iff_ne,ne_eq]at h;have hb:fn.body.isNone=false:=by cases hh:fn.body<;>simp[hh]at h⊢
  simp[hf,h.1,hb]
 ·cases h
theorem BT{o:Oper}{K:TV→WP}{f:FuncId}{args:List Value}(hnd:∀x,o.op≠.defer x)(h:(execOp a.eval o).run P w=(callFunc f args.toArray).run P w)
  (hk:kD P f args w λv w'=>∃u:TV,v=u.enc∧mi w w'∧K u w'):Ga P r a o w K:=by
 rcases hk with hk|⟨v,w',hv,u,rfl,hd,hku⟩
 ·rw[vw hk.1]at h;intro K' Q hK;refine⟨λf _=>trivial,?_⟩;rw[Ap _ _ _ hnd,h];refine⟨zh,za (hk.2.mono ?_)⟩;rintro e w' ⟨v,rfl,u,rfl,hd,hku⟩;exact hK u w' hd hku
 ·exact cK hnd (h.trans hv) hd hku
end
end Go.X

namespace Go.X
variable {P:Program}
section
variable {e:Env} {a:Act} {c:F_} {w:World} {r:Option Nat}
theorem RW{o:Oper}{K:TV→WP}{f:FuncId}{vs:List V1}{t:TypeId}(hnd:∀x,o.op≠.defer x)(hrun:(execOp a.eval o).run P w=(callFunc f (vs.map V1.enc).toArray).run P w)
  (h:Wk P f vs t K w):Ga P r a o w K:=by
 unfold Wk at h;cases hrs:R_ P t with
 |none=>rw[hrs]at h;exact h.elim
 |some rs=>
  rw[hrs]at h;exact BT hnd hrun (kD.mono h λv w' ⟨x,hv,hd,hk⟩=>⟨_,hv,hd,hk⟩)
theorem Ov{o:Oper}{K:TV→WP}{f:Fv}{vs:List V1}{t:TypeId}{x:Operand}{ts:Array TypeId}{as:Array Operand}(ho:o.op=.call ⟨.value x,as,ts⟩)(hx:a.eval x=f.enc)
  (has:as.map a.eval=(vs.map V1.enc).toArray) (h:Oq P f vs t K w):Ga P r a o w K:=by
 have hnd:∀x,o.op≠.defer x:=by rw[ho];intro x;simp
 unfold Oq at h;cases hrs:R_ P t with
 |none=>rw[hrs]at h;exact h.elim
 |some rs=>
  rw[hrs]at h;cases f with
  |nil=>exact h.elim
  |mk fn first cap=>
   cases fn with
   |func g=>
    refine BT (args:=first++vs.map V1.enc++cap) hnd ?_ (kD.mono (.enters h) λv w' ⟨x,hv,hd,hk⟩=>⟨_,hv,hd,hk⟩);simp[execOp,ho,resolve,hx,has,Fv.enc,Deferred.ofValue,invoke]
   |yield l=>
    cases first with
    |cons z zs=>exact h.elim
    |nil=>
     obtain⟨fn,tmps,asg,body,hy,hr⟩:=h;intro K' Q hK;refine⟨λf _=>trivial,?_⟩;rw[Ap _ _ _ hnd];have:(execOp a.eval o).run P w=.ok (.round l fn tmps asg body) w:=by simp[execOp,ho,resolve,hx,has,Fv.enc,Deferred.ofValue,invoke,hy]
     rw[this];refine⟨zh,HQ (hr.mono ?_)⟩;rintro e w' ⟨v,rfl,u,rfl,hd,hku⟩;exact hK _ w' hd hku
   |method n=>exact h.elim
   |methodOf t n=>exact h.elim
   |via t p f q=>exact h.elim
theorem oY{op:BinOp}{k:IntKind}{x y:Int}{t:TypeId}(hy:y≠0)(w:World):
  (op=.quo→(binOp op t (.int k x) (.int k y)).run P w=.ok (.int k (k.wrap (x.tdiv y))) w)∧(op=.rem→(binOp op t (.int k x) (.int k y)).run P w=.ok (.int k (x.tmod y)) w):=by
 constructor<;>intro h<;>subst h<;>simp[binOp,Op.intDiv,hy]
theorem tG{op:BinOp}{k k':IntKind}{x y:Int}{t:TypeId}(hy:0≤y)(w:World):
  (op=.shl→(binOp op t (.int k x) (.int k' y)).run P w=.ok (.int k (k.wrap (x*2^min y.toNat k.bits))) w)∧(op=.shr→(binOp op t (.int k x) (.int k' y)).run P w=.ok (.int k (x.fdiv (2^min y.toNat k.bits))) w):=by
 have:¬y<0:=by omega
 constructor<;>intro h<;>subst h<;>simp[binOp,Op.shift,this]
theorem zN{x:Operand}{k:IntKind}{n:Int}(h:mQ x=true)(hx:a.eval x=.int k n):n≠0:=by
 unfold mQ at h;split at h
 ·rename_i k' m;simp only[Act.eval,Value.int.injEq]at hx;obtain⟨_,rfl⟩:=hx;split at h
  ·cases h
  ·rename_i hd;exact bY hd
 ·cases h
theorem CO{o:Oper}{K:TV→WP}{op:BinOp}{t u:TypeId}{x y:Operand}{k k':IntKind}{p q:Int}(ho:o.op=.binOp op t x y u)(hx:a.eval x=.int k p)(hy:a.eval y=.int k' q)
  (hk:op=.shl∨op=.shr∨k=k') (h:CN op y k p q K w):Ga P r a o w K:=by
 have hnd:∀x,o.op≠.defer x:=by rw[ho];intro x;simp
 have hrun:∀v,(binOp op t (.int k p) (.int k' q)).run P w=.ok v w→(execOp a.eval o).run P w=.ok (.value v) w:=by
  intro v hv;have hg:=fH (P:=P) op t x y (.int k p) (.int k' q) w;simp only[Lf.enc]at hg;simp only[execOp,ho,hx,hy];rw[cz,cz,hg];simp[hv]
 cases op with
 |quo=>
  have e:k=k':=by rcases hk with hk|hk|hk;cases hk;cases hk;exact hk
  subst e;simp only[CN]at h;cases hz:mQ y with
  |true=>rw[hz]at h;exact cK (v:=.one (.lf (.int k _))) hnd (hrun _ ((oY (zN hz hy) w).1 rfl)) (mi.refl w) h
  |false=>rw[hz]at h;exact cK (v:=.one (.lf (.int k _))) hnd (hrun _ ((oY h.1 w).1 rfl)) (mi.refl w) h.2
 |rem=>
  have e:k=k':=by rcases hk with hk|hk|hk;cases hk;cases hk;exact hk
  subst e;simp only[CN]at h;cases hz:mQ y with
  |true=>rw[hz]at h;exact cK (v:=.one (.lf (.int k _))) hnd (hrun _ ((oY (zN hz hy) w).2 rfl)) (mi.refl w) h
  |false=>rw[hz]at h;exact cK (v:=.one (.lf (.int k _))) hnd (hrun _ ((oY h.1 w).2 rfl)) (mi.refl w) h.2
 |shl=>exact cK (v:=.one (.lf (.int k _))) hnd (hrun _ ((tG h.1 w).1 rfl)) (mi.refl w) h.2
 |shr=>exact cK (v:=.one (.lf (.int k _))) hnd (hrun _ ((tG h.1 w).2 rfl)) (mi.refl w) h.2
 |_=>exact h.elim
theorem PY{t el:TypeId}{n:Nat}(h:TD P t=some (n,el)):P.underlying t=some (.array n el):=by
 unfold TD at h;split at h
 ·rename_i hu;cases h;exact hu
 ·cases h
theorem lT{t el:TypeId}(h:vA P t=some el):P.underlying t=some (.slice el):=by
 unfold vA at h;split at h
 ·rename_i e hu;cases h;exact hu
 ·cases h
end
end Go.X

namespace Go.X
variable {P:Program}
theorem Ch{z:List Value}{m:Nat}(hm:z.length=m)(h0:0<m):∀n,(List.range (n*m)).map (λi=>z.toArray[i%m]!)=(List.replicate n z).flatten
 |0=>by simp
 |n+1=>by
  have e:(n+1)*m=m+n*m:=by rw[kK,Nat.one_mul,Nat.add_comm]
  rw[e,List.range_add,me,List.map_map];have h1:(List.range m).map (λi=>z.toArray[i%m]!)=z:=by
   apply List.ext_getElem (by simp[hm]);intro i h1 h2;simp only[List.getElem_map,List.getElem_range];have hi:i<m:=by simpa using h1
   rw[Nat.mod_eq_of_lt hi];simp[hm,hi]
  have h2:(λi=>z.toArray[i%m]!)∘(λx=>m+x)=λi=>z.toArray[i%m]!:=by funext i;simp
  rw[h1,h2,Ch hm h0 n];simp[Hh]
theorem RV(n:Nat)(z:List Lf):(kQ n z).map Lf.enc=(List.replicate n (z.map Lf.enc)).flatten:=by
 unfold kQ;rw[List.map_flatten,List.map_replicate]
theorem qV(n:Nat)(z:List Lf):(kQ n z).length=n*z.length:=by unfold kQ;simp
theorem qZ{z:List Lf}{m:Nat}(hm:z.length=m)(h0:0<m)(n:Nat):(Array.range (n*m)).map (λi=>((z.map Lf.enc).toArray)[i%m]!)=((kQ n z).map Lf.enc).toArray:=by
 rw[RV,←Ch (z:=z.map Lf.enc) (m:=m) (by simpa using hm) h0 n];rw[k_];simp
theorem jt{z:List Lf}{m:Nat}(hm:z.length=m)(h0:0<m)(n:Nat):Builtin.zeroCells (z.map Lf.enc).toArray n=((kQ n z).map Lf.enc).toArray:=by
 unfold Builtin.zeroCells;simp only[Dx,fz,hm];exact qZ hm h0 n
theorem BV(n:Nat):∀r c,Builtin.growBy n r c≤2^r*(c+768)
 |0,c=>by simp[Builtin.growBy]
 |r+1,c=>by
  simp only[Builtin.growBy];split
  ·have:1≤2^(r+1):=Nat.one_le_two_pow
   calc c≤1*(c+768):=by omega
    _≤2^(r+1)*(c+768):=qx _ this
  ·have:=BV n r (c+(c+768)/4);have h2:c+(c+768)/4+768≤2*(c+768):=by omega
   calc Builtin.growBy n r (c+(c+768)/4)≤2^r*(c+(c+768)/4+768):=this
    _≤2^r*(2*(c+768)):=Hi _ h2
    _=2^(r+1)*(c+768):=by rw[Nat.pow_succ,Nat.mul_assoc]
theorem zM{need cap:Nat}(h:cap<need)(hn:need≤4294967296):Builtin.nextslicecap need cap≤68719493120:=by
 have hc:cap≤4294967296:=by omega
 have hg:Builtin.growBy need 4 cap≤68719493120:=
  kW (BV need 4 cap) (kW (Hi (2^4) (Nat.add_le_add_right hc 768)) (by decide))
 unfold Builtin.nextslicecap;split
 ·exact kW hn (by decide)
 ·split
  ·exact kW (Hi 2 hc) (by decide)
  ·exact hg
theorem js{w:World}{s:Sl}{sz:Nat}{M:List Lf}(h:nR w s sz M):(Builtin.firstCells sz s.len (Lf.sl s).enc).run P w=.ok (M.map Lf.enc).toArray w:=by
 obtain⟨hl,hn,hr⟩:=h;simp only[Lf.enc];cases hp:s.p with
 |none=>
  have:M=[]:=by
   rw[hn hp]at hl;simp at hl;exact hl
  obtain⟨a,c,hx,_⟩:=s.lU;rw[hx,hn hp];cases a with
  |none=>simp[Builtin.firstCells,this]
  |some a=>simp[Builtin.firstCells,this];rfl
 |some q=>
  rw[Sl.xP hp];simp only[Builtin.firstCells,←hl];exact E7 (hr q hp)
theorem jm.rd{w:World}{s:Sl}{sz:Nat}{L:List Lf}(h:jm w s sz L)(hz:s.p=none→s.len=0):nR w s sz L:=by
 rcases h with⟨h1,h2,rfl⟩|⟨q,C,hp,hb,hle,hc,hC,hL,hi⟩
 ·exact⟨by simp[h1],λ_=>h1,λq _=>trivial⟩
 ·refine⟨hL,hz,λq' hq=>?_⟩;rw[hp]at hq;cases hq;exact hb.reads L q.o hi
theorem jm.Ry{w:World}{s:Sl}{sz:Nat}{L:List Lf}(h:jm w s sz L):s.p=none→s.len=0:=by
 intro hp;rcases h with⟨h1,_,_⟩|⟨q,C,hq,_⟩
 ·exact h1
 ·rw[hp]at hq;cases hq
theorem jm.norm{w:World}{s:Sl}{sz:Nat}{L:List Lf}(h:jm w s sz L):s.enc=.slice (s.p.map Pt.addr) s.len s.cap:=by
 rcases h with⟨_,h2,_⟩|⟨q,C,hp,_⟩
 ·exact Sl.xO (Sl.GZ h2)
 ·exact Sl.xO (Sl.zP hp)
theorem jm.read{w:World}{s:Sl}{sz:Nat}{L:List Lf}(h:jm w s sz L):nR w s sz L:=h.rd h.Ry
theorem lu{C M:List Lf}{o:Nat}(h:o+M.length≤C.length)(i:Nat):(fa C o M)[i]?=if i<o then C[i]? else if i<o+M.length then M[i-o]? else C[i]?:=by
 unfold fa;rw[jF,Av];simp only[fO];rw[show min o C.length=o by omega];split
 ·rename_i h1;rw[po,aG h1]
 ·rename_i h1;rw[Av];split
  ·rename_i h2;rw[aG (by omega)]
  ·rename_i h2;rw[ay (by omega),ub]
   congr 1;omega
theorem Gh{w:World}{s x:Sl}{sz:Nat}{L M:List Lf}{ts:Array TypeId}{t ty el:TypeId}{ty2 el2:TypeId}{z:List Lf}(h0:ts[0]?=some ty)(h1:ts[1]?=some ty2)
  (hu:P.underlying ty=some (.slice el)) (hu2:P.underlying ty2=some (.slice el2)) (hz:mh P el=some z) (hzl:z.length=sz) (hsz:P.cellsOf el=sz) (hpos:0<sz) (hby:P.bytesOf el≤2048) (hby0:P.bytesOf el≠0)
  (hs:jm w s sz L) (hx:nR w x sz M) (hlen:s.len+x.len≤4294967296):
  ∃w' s',(Builtin.append_ ts t #[(Lf.sl s).enc,(Lf.sl x).enc]).run P w=.ok (Lf.sl s').enc w'∧jq s.own w w'∧jm w' s' sz (L++M)∧s'.len=s.len+x.len∧(∀k,s'.own k→s.own k∨w.heap.size≤k)∧
   (s.cap<s.len+x.len→jq Db w w'∧∀k,s'.own k→w.heap.size≤k)∧(s.len+x.len≤s.cap→s'=⟨s.p,s.len+x.len,s.cap⟩∧w'.heap.size=w.heap.size):=by
 have hi:(P.info? el).isSome=true:=by
  unfold Program.cellsOf at hsz;cases hh:P.info? el with
  |none=>rw[hh]at hsz;simp at hsz;omega
  |some i=>rfl
 obtain⟨i,hi⟩:=ua.1 hi;have hbi:i.bytes=P.bytesOf el:=by simp[Program.bytesOf,hi]
 obtain⟨ax,cx,hxe,_⟩:=x.lU;have hse:=hs.norm;have hxr:=js (P:=P) hx;have hsr:=js (P:=P) hs.read;have hsize:=jU (P:=P) (t:=el) (by omega);by_cases hneed:s.len+x.len≤s.cap
 ·
  have hplace:∃w',((Option.map Pt.addr s.p).elim (pure ():Sem Unit) (λa=>storeCells (a.add (s.len*sz)) (M.map Lf.enc))).run P w=.ok () w'∧jq s.own w w'∧jm w' ⟨s.p,s.len+x.len,s.cap⟩ sz (L++M)∧w'.heap.size=w.heap.size:=by
   rcases hs with⟨e1,e2,rfl⟩|⟨q,C,hp,hb,hle,hc,hC,hL,hgi⟩
   ·have e3:x.len=0:=(by omega);have:M=[]:=by
     have:=hx.1;rw[e3]at this;simp at this;exact this
    subst this;refine⟨w,?_,jq.refl _ _,.inl ⟨by simp;omega,e2,rfl⟩,rfl⟩;cases s.p<;>simp[storeCells]
   ·have hlm:M.length=x.len*sz:=hx.1;have hbound:q.o+s.len*sz+M.length≤C.length:=by
     have:(s.len+x.len)*sz≤s.cap*sz:=qx _ hneed;rw[kK]at this;omega
    obtain⟨w',r1,r2,r3,r4⟩:=nZ (P:=P) M C (q.o+s.len*sz) 0 hb (by simpa using hbound);refine⟨w',?_,r2.mono (λk _ hk=>⟨q,hp,hk,hc⟩),.inr ⟨q,_,hp,r3,hneed,hc,?_,?_,?_⟩,r4⟩
    ·simp only[hp,rq,Option.elim_some,add_eq];exact r1
    ·rw[wb,kX hbound];exact hC
    ·simp only[gp,hL,hlm,kK]
    ·intro j hj;simp only[gp]at hj;rw[wb,lu hbound,Av];by_cases hjl:j<L.length
     ·rw[aG (by omega),aG hjl];exact hgi j hjl
     ·rw[ay (by omega),aG (by omega),ay hjl]
      congr 1;omega
  obtain⟨w',r1,r2,r3,r4⟩:=hplace;refine⟨w',⟨s.p,s.len+x.len,s.cap⟩,?_,r2,r3,rfl,λk ⟨q,h1,h2,h3⟩=>.inl ⟨q,h1,h2,h3⟩,λh=>by omega,λ_=>⟨rfl,r4⟩⟩;have hst:(Builtin.append_ ts t #[(Lf.sl s).enc,(Lf.sl x).enc]).run P w=(((Option.map Pt.addr s.p).elim (pure ():Sem Unit) (λa=>storeCells (a.add (s.len*sz)) (M.map Lf.enc))).run P w).andThen λ_ w'=>.ok (.slice (Option.map Pt.addr s.p) (s.len+x.len) s.cap) w':=by
   simp only[Lf.enc,hse,hxe]at hxr⊢;simp only[Builtin.append_,h0,h1,cz,fq hu,fq hu2,hsize,dI,Cc,Au,Dj,eh,Builtin.lenOf,
    jo,jp,ru,Bool.not_false,iz,hneed,hsz,hxr]
   cases s.p<;>simp
  rw[hst,r1];show Result.ok _ _=Result.ok (Sl.enc _) _;rw[r3.norm]
 ·
  have hlt:s.cap<s.len+x.len:=by omega
  have h63:¬(((s.len+x.len:Nat):Int)>IntKind.i64.max∧(false=true∨i.bytes=0)):=λhh=>by
   rcases hh.2 with h|h
   ·cases h
   ·exact hby0 (by rw[←hbi];exact h)
  have h48:¬(Builtin.nextslicecap (s.len+x.len) s.cap*i.bytes>2^48):=by
   have h1:=zM hlt hlen;have h2:i.bytes≤2048:=(by omega);have h3:Builtin.nextslicecap (s.len+x.len) s.cap*i.bytes≤68719493120*2048:=Nat.mul_le_mul h1 h2;have h4:(68719493120*2048:Nat)≤2^48:=(by decide);omega
  obtain⟨nc,hnc,hge⟩:∃nc,(Question.appendCap (s.len+x.len) s.cap el).cut (w.tape w.drawn (.appendCap (s.len+x.len) s.cap el))=nc∧s.len+x.len≤nc:=⟨_,rfl,by simp[Question.cut]⟩;obtain⟨w1,hw1⟩:∃w1:World,w1={w with drawn:=w.drawn+1}:=⟨_,rfl⟩;have hheap:w1.heap=w.heap:=by rw[hw1]
  have ext1:jq Db w w1:=by rw[hw1];exact⟨rfl,rfl,rfl,eE _,λ_ _ _=>rfl,λ_ h=>h⟩
  have hx1:nR w1 x sz M:=⟨hx.1,hx.2.1,λq hq=>by
   have:=hx.2.2 q hq;clear hxr;generalize q.o=o at this⊢;clear hx
   induction M generalizing o with
   |nil=>trivial
   |cons m M ih=>exact⟨by rw[←this.1];simp[World.cell?,hheap],ih _ this.2⟩⟩
  have hs1:jm w1 s sz L:=by
   rcases hs with h|⟨q,C,a,⟨T,hb⟩,r⟩
   ·exact .inl h
   ·exact .inr ⟨q,C,a,⟨T,by rw[hheap];exact hb⟩,r⟩
  have hxr1:=js (P:=P) hx1;have hsr1:=js (P:=P) hs1.read;obtain⟨zv,hzv,hzc⟩:=ni hz w1;obtain⟨cells,hcells⟩:∃cells,cells=L++M++kQ (nc-(s.len+x.len)) z:=⟨_,rfl⟩;refine⟨{w1 with heap:=w1.heap.push (.cells (cells.map Lf.enc).toArray el)},⟨some ⟨w1.heap.size,0⟩,s.len+x.len,nc⟩,?_,ext1.trans' (kq w1 _) (λk _ h=>h.elim) |>.mono (λk _ h=>h.elim),.inr ⟨⟨w1.heap.size,0⟩,cells,rfl,wN w1 cells el,hge,?_,?_,?_,?_⟩,rfl,?_,λ_=>⟨ext1.trans (kq w1 _),?_⟩,λh=>by omega⟩
  ·simp only[Lf.enc,hse,hxe]at hxr1 hsr1⊢;simp only[Builtin.append_,h0,h1,cz,fq hu,fq hu2,hsize,dI,Cc,Au,Dj,eh,Builtin.lenOf,
    jo,jp,ru,Bool.not_false,iz,hneed]
   simp only[typeInfo,cz,xp,hi,dI,eh,false_or];simp only[jo,false_or]at h63;rw[ay h63,ay h48];simp only[cz,run_choose,Question.forced,jo,jp,dI,hnc,←hw1,run_askRoom,hsr1,hxr1,hsz,hzv,hzc,newRow,xt,eh];rw[jt hzl hpos,Sl.xP (s:=⟨some ⟨w1.heap.size,0⟩,_,_⟩) rfl];simp[hcells]
  ·show nc≠0;omega
  ·simp only[hcells,gp,qV,hs.read.1,hx.1,hzl,nP];have:nc*sz=s.len*sz+x.len*sz+(nc-(s.len+x.len))*sz:=by
    rw[←kK,←kK]
    congr 1;omega
   omega
  ·simp only[gp,hs.read.1,hx.1,kK]
  ·intro j hj;rw[nP,hcells,Av,aG hj]
  ·rintro k ⟨q,h1,h2,_⟩;cases h1;exact .inr (by rw[h2,hheap];exact eE _)
  ·rintro k ⟨q,h1,h2,_⟩;cases h1;rw[h2,hheap];exact eE _
set_option linter.unusedSimpArgs false in
set_option linter.unusedVariables false in
theorem Eu{w:World}{s:Sl}{kx:IntKind}{nx:Int}{sz:Nat}{L:List Lf}{ts:Array TypeId}{t ty el:TypeId}{ty2:TypeId}{k2:IntKind}{z:List Lf}(h0:ts[0]?=some ty)(h1:ts[1]?=some ty2)
  (hu:P.underlying ty=some (.slice el)) (hu2:P.underlying ty2=some (.int k2)) (hz:mh P el=some z) (hzl:z.length=sz) (hsz:P.cellsOf el=sz) (hpos:0<sz) (hby:P.bytesOf el≤2048) (hby0:P.bytesOf el≠0)
  (hs:jm w s sz L) (hx0:0≤nx) (hlen0:(s.len:Int)+nx≤4294967296):
  ∃w' s',(Builtin.append_ ts t #[(Lf.sl s).enc,Value.int kx nx]).run P w=.ok (Lf.sl s').enc w'∧jq s.own w w'∧jm w' s' sz (L++kQ nx.toNat z)∧s'.len=s.len+nx.toNat∧(∀k,s'.own k→s.own k∨w.heap.size≤k)∧
   (s.cap<s.len+nx.toNat→jq Db w w'∧∀k,s'.own k→w.heap.size≤k)∧(s.len+nx.toNat≤s.cap→s'=⟨s.p,s.len+nx.toNat,s.cap⟩∧w'.heap.size=w.heap.size):=by
 obtain⟨xl,hxl⟩:∃xl,xl=nx.toNat:=⟨_,rfl⟩;obtain⟨M,hM⟩:∃M,M=kQ xl z:=⟨_,rfl⟩;have hMl:M.length=xl*sz:=by rw[hM,qV,hzl]
 have hlen:s.len+xl≤4294967296:=by omega
 rw[←hxl,←hM];have hw1':IntKind.i64.wrap nx=nx:=by simp[IntKind.wrap,IntKind.bits,IntKind.signed];omega
 have hi:(P.info? el).isSome=true:=by
  unfold Program.cellsOf at hsz;cases hh:P.info? el with
  |none=>rw[hh]at hsz;simp at hsz;omega
  |some i=>rfl
 obtain⟨i,hi⟩:=ua.1 hi;have hbi:i.bytes=P.bytesOf el:=by simp[Program.bytesOf,hi]
 have hsr:=js (P:=P) hs.read;have hsize:=jU (P:=P) (t:=el) (by omega);have hbig:¬nx*(i.bytes:Int)>2^48:=by
  have h1:(i.bytes:Int)≤2048:=by omega
  have h2:nx*(i.bytes:Int)≤4294967296*2048:=DA (by omega) h1 (by omega) (by omega);have h3:(4294967296*2048:Int)≤2^48:=by decide
  omega
 obtain⟨zv0,hzv0,hzc0⟩:=ni hz w;by_cases hneed:s.len+xl≤s.cap
 ·
  have hplace:∃w',((Option.map Pt.addr s.p).elim (pure ():Sem Unit) (λa=>storeCells (a.add (s.len*sz)) (M.map Lf.enc))).run P w=.ok () w'∧jq s.own w w'∧jm w' ⟨s.p,s.len+xl,s.cap⟩ sz (L++M)∧w'.heap.size=w.heap.size:=by
   rcases hs with⟨e1,e2,rfl⟩|⟨q,C,hp,hb,hle,hc,hC,hL,hgi⟩
   ·have e3:xl=0:=(by omega);have:M=[]:=by
     have:=hMl;rw[e3]at this;simp at this;exact this
    subst this;refine⟨w,?_,jq.refl _ _,.inl ⟨by simp;omega,e2,rfl⟩,rfl⟩;cases s.p<;>simp[storeCells]
   ·have hlm:M.length=xl*sz:=hMl;have hbound:q.o+s.len*sz+M.length≤C.length:=by
     have:(s.len+xl)*sz≤s.cap*sz:=qx _ hneed;rw[kK]at this;omega
    obtain⟨w',r1,r2,r3,r4⟩:=nZ (P:=P) M C (q.o+s.len*sz) 0 hb (by simpa using hbound);refine⟨w',?_,r2.mono (λk _ hk=>⟨q,hp,hk,hc⟩),.inr ⟨q,_,hp,r3,hneed,hc,?_,?_,?_⟩,r4⟩
    ·simp only[hp,rq,Option.elim_some,add_eq];exact r1
    ·rw[wb,kX hbound];exact hC
    ·simp only[gp,hL,hlm,kK]
    ·intro j hj;simp only[gp]at hj;rw[wb,lu hbound,Av];by_cases hjl:j<L.length
     ·rw[aG (by omega),aG hjl];exact hgi j hjl
     ·rw[ay (by omega),aG (by omega),ay hjl]
      congr 1;omega
  obtain⟨w',r1,r2,r3,r4⟩:=hplace;refine⟨w',⟨s.p,s.len+xl,s.cap⟩,?_,r2,r3,rfl,λk ⟨q,h1,h2,h3⟩=>.inl ⟨q,h1,h2,h3⟩,λh=>by omega,λ_=>⟨rfl,r4⟩⟩;have hst:(Builtin.append_ ts t #[(Lf.sl s).enc,Value.int kx nx]).run P w=(((Option.map Pt.addr s.p).elim (pure ():Sem Unit) (λa=>storeCells (a.add (s.len*sz)) (M.map Lf.enc))).run P w).andThen λ_ w'=>.ok (.slice (Option.map Pt.addr s.p) (s.len+xl) s.cap) w':=by
   simp only[Lf.enc,hs.norm];simp only[Builtin.append_,h0,h1,cz,fq hu,fq hu2,hsize,dI,Cc,Au,Dj,eh,iz,asInt,asIntOf,hw1',ru,
    ay (show ¬nx<0 by omega),typeInfo,xp,hi,ay hbig,←hxl,Bool.not_true,jo,jp,hneed,hsz]
   by_cases h00:xl*sz=0
   ·have hM0:M=[]:=jE (by rw[hMl];exact h00);simp only[aG h00,eh,dI,hM0];cases s.p<;>simp
   ·simp only[ay h00,cz,hzv0,hzc0,dI,eh];rw[jt hzl hpos,←hM];cases s.p<;>simp
  rw[hst,r1];show Result.ok _ _=Result.ok (Sl.enc _) _;rw[r3.norm]
 ·
  have hlt:s.cap<s.len+xl:=by omega
  have h48:¬(Builtin.nextslicecap (s.len+xl) s.cap*i.bytes>2^48):=by
   have h1:=zM hlt hlen;have h2:i.bytes≤2048:=(by omega);have h3:Builtin.nextslicecap (s.len+xl) s.cap*i.bytes≤68719493120*2048:=Nat.mul_le_mul h1 h2;have h4:(68719493120*2048:Nat)≤2^48:=(by decide);omega
  obtain⟨nc,hnc,hge⟩:∃nc,(Question.appendCap (s.len+xl) s.cap el).cut (w.tape w.drawn (.appendCap (s.len+xl) s.cap el))=nc∧s.len+xl≤nc:=⟨_,rfl,by simp[Question.cut]⟩;obtain⟨w1,hw1⟩:∃w1:World,w1={w with drawn:=w.drawn+1}:=⟨_,rfl⟩;have hheap:w1.heap=w.heap:=by rw[hw1]
  have ext1:jq Db w w1:=by rw[hw1];exact⟨rfl,rfl,rfl,eE _,λ_ _ _=>rfl,λ_ h=>h⟩
  have hs1:jm w1 s sz L:=by
   rcases hs with h|⟨q,C,a,⟨T,hb⟩,r⟩
   ·exact .inl h
   ·exact .inr ⟨q,C,a,⟨T,by rw[hheap];exact hb⟩,r⟩
  have hsr1:=js (P:=P) hs1.read;obtain⟨zv,hzv,hzc⟩:=ni hz w1;obtain⟨cells,hcells⟩:∃cells,cells=L++M++kQ (nc-(s.len+xl)) z:=⟨_,rfl⟩;refine⟨{w1 with heap:=w1.heap.push (.cells (cells.map Lf.enc).toArray el)},⟨some ⟨w1.heap.size,0⟩,s.len+xl,nc⟩,?_,ext1.trans' (kq w1 _) (λk _ h=>h.elim) |>.mono (λk _ h=>h.elim),.inr ⟨⟨w1.heap.size,0⟩,cells,rfl,wN w1 cells el,hge,?_,?_,?_,?_⟩,rfl,?_,λ_=>⟨ext1.trans (kq w1 _),?_⟩,λh=>by omega⟩
  ·simp only[Lf.enc,hs.norm]at hsr1⊢;have h63:¬(((s.len+xl:Nat):Int)>IntKind.i64.max):=by
    have:IntKind.i64.max=9223372036854775807:=rfl;rw[this];omega
   simp only[Builtin.append_,h0,h1,cz,fq hu,fq hu2,hsize,dI,Cc,Au,Dj,eh,iz,asInt,asIntOf,hw1',ru,
    ay (show ¬nx<0 by omega),typeInfo,xp,hi,ay hbig,←hxl,Bool.not_true,jo,jp,hneed,true_or,and_true,ay h63,ay h48]
   simp only[cz,run_choose,Question.forced,jo,jp,dI,hnc,←hw1,run_askRoom,hsr1,hsz,newRow,xt,eh,ru];by_cases h00:xl*sz=0
   ·have hM0:M=[]:=jE (by rw[hMl];exact h00);simp only[aG h00,eh,dI,hzv,hzc];rw[jt hzl hpos,Sl.xP (s:=⟨some ⟨w1.heap.size,0⟩,_,_⟩) rfl];simp[hcells,hM0]
   ·simp only[ay h00,cz,hzv,hzc,dI,eh];rw[jt hzl hpos,jt hzl hpos,←hM,Sl.xP (s:=⟨some ⟨w1.heap.size,0⟩,_,_⟩) rfl];simp[hcells]
  ·show nc≠0;omega
  ·simp only[hcells,gp,qV,hs.read.1,hMl,hzl,nP];have:nc*sz=s.len*sz+xl*sz+(nc-(s.len+xl))*sz:=by
    rw[←kK,←kK]
    congr 1;omega
   omega
  ·simp only[gp,hs.read.1,hMl,kK]
  ·intro j hj;rw[nP,hcells,Av,aG hj]
  ·rintro k ⟨q,h1,h2,_⟩;cases h1;exact .inr (by rw[h2,hheap];exact eE _)
  ·rintro k ⟨q,h1,h2,_⟩;cases h1;rw[h2,hheap];exact eE _
end Go.X

