/- A verified reading of Go code as a weakest precondition, and a logic of separate parts over it. -/
import Derived.Carry
import Derived.ChangeSlices
import Derived.Deep.LoopGhost
import Derived.KernelRfl
import Derived.Laws.Externs
import Derived.Laws.IdiomStrings
import Derived.OpenShut
import Derived.OrdersIn
import Derived.ProofKit
import Derived.RangeFuncKeeps
import Derived.RangeFuncLeaves
import Derived.RangeFuncRecord
import Derived.WalkKit
set_option linter.unusedVariables false
set_option linter.unusedSimpArgs false
set_option linter.unusedSectionVars false
namespace Go.X
structure Pt where
 b:Nat
 o:Nat
structure Sl where
 p:Option Pt
 len:Nat
 cap:Nat
inductive Fv where
 | nil
 | mk (fn:Fn) (first captured:List Value)
inductive CK where
 | int (k:IntKind) | bool | ptr | sl | str | fn | ifc
abbrev CK.T:CK→Type
 | .int _=>Int
 | .bool=>Bool
 | .ptr=>Option Pt
 | .sl=>Sl
 | .str=>ByteArray
 | .fn=>Fv
 | .ifc=>Unit
inductive Lf where
 | int (k:IntKind) (n:Int) | bool (b:Bool) | ptr (p:Option Pt) | sl (s:Sl) | str (s:ByteArray) | fn (f:Fv) | ifn
abbrev Pt.addr (p:Pt):Addr:=⟨p.b,p.o,none⟩
def unp:Nat→Nat × Nat
 | 0=>(0,0)
 | n+1=>match (unp n).1 with
  | 0=>((unp n).2+1,0)
  | a+1=>(a,(unp n).2+1)
def tri:Nat→Nat
 | 0=>0
 | n+1=>tri n+n+1
theorem unp_tri:∀ (s b:Nat),b≤s→unp (tri s+b)=(s - b,b)
 | s,b+1,h=>by
  have:=unp_tri s b (by omega)
  rw [← Nat.add_assoc]
  simp only [unp,this]
  obtain ⟨c,hc⟩:∃ c,s - b=c+1:=⟨s - b - 1,by omega⟩
  rw [hc]
  simp only [Prod.mk.injEq,and_true]
  omega
 | 0,0,_=>rfl
 | s+1,0,_=>by
  have:=unp_tri s s (Nat.le_refl _)
  rw [Nat.sub_self] at this
  show unp (tri s+s+1)=_
  simp only [unp,this]
  simp
theorem unp_hit (a b:Nat):∃ n,unp n=(a,b):=⟨tri (a+b)+b,by rw [unp_tri _ _ (by omega)];simp⟩
def oddA (n:Nat):Addr:=⟨(unp n).1,(unp (unp n).2).1,some (unp (unp n).2).2⟩
theorem oddA_hit (b o k:Nat):∃ n,oddA n=⟨b,o,some k⟩:=by
 obtain ⟨m,hm⟩:=unp_hit o k
 obtain ⟨n,hn⟩:=unp_hit b m
 exact ⟨n,by simp [oddA,hn,hm]⟩
def Sl.odd (s:Sl):Bool:=s.p.isNone && (Nat.beq s.len 0 && !(Nat.beq s.cap 0))
def Sl.cp (s:Sl):Nat:=cond s.odd 0 s.cap
def Sl.isNil (s:Sl):Bool:=s.p.isNone && !s.odd
def Sl.enc (s:Sl):Value:=match s.odd with
 | true=>.slice (some (oddA (s.cap - 1))) 0 0
 | false=>.slice (s.p.map Pt.addr) s.len s.cap
theorem Sl.odd_of {s:Sl} (h:s.odd=true):s.p=none∧s.len=0∧s.cap≠0:=by
 simp only [Sl.odd,Bool.and_eq_true,Bool.not_eq_true',Option.isNone_iff_eq_none] at h
 exact ⟨h.1,Nat.eq_of_beq_eq_true h.2.1,fun e=>by have:=h.2.2;rw [e] at this;cases this⟩
theorem Sl.enc_n {s:Sl} (h:s.odd=false):s.enc=.slice (s.p.map Pt.addr) s.len s.cap:=by unfold Sl.enc;rw [h]
theorem Sl.enc_some (q:Pt) (l c:Nat):Sl.enc ⟨some q,l,c⟩=.slice (some q.addr) l c:=rfl
theorem Sl.norm_p {s:Sl} {q:Pt} (h:s.p=some q):s.odd=false:=by simp [Sl.odd,h]
theorem Sl.norm_c {s:Sl} (h:s.cap=0):s.odd=false:=by
 rw [Sl.odd,h];simp
theorem Sl.enc_p {s:Sl} {q:Pt} (h:s.p=some q):s.enc=.slice (some q.addr) s.len s.cap:=by rw [Sl.enc_n (Sl.norm_p h),h];rfl
theorem Sl.enc_len (s:Sl):∃ a c,s.enc=.slice a s.len c∧(s.odd=false→a=s.p.map Pt.addr∧c=s.cap)∧c=s.cp∧(a=none↔s.isNil=true):=by
 cases h:s.odd with
 | true =>
  obtain ⟨h1,h2,_⟩:=Sl.odd_of h
  refine ⟨some (oddA (s.cap - 1)),0,by unfold Sl.enc;rw [h,h2],fun h=>(by cases h),by rw [Sl.cp,h];rfl,?_⟩
  rw [Sl.isNil,h];simp
 | false=>exact ⟨s.p.map Pt.addr,s.cap,Sl.enc_n h,fun _=>⟨rfl,rfl⟩,by rw [Sl.cp,h];rfl,by rw [Sl.isNil,h];simp⟩
def Fv.enc:Fv→Value
 | .nil=>.nilFunc
 | .mk f a c=>.func f a.toArray c.toArray
def Lf.enc:Lf→Value
 | .int k n=>.int k n
 | .bool b=>.bool b
 | .ptr p=>.pointer (p.map Pt.addr)
 | .sl s=>s.enc
 | .str s=>.string s
 | .fn f=>f.enc
 | .ifn=>.nilIface
def CK.mk:(c:CK)→c.T→Lf
 | .int k,n=>.int k n
 | .bool,b=>.bool b
 | .ptr,p=>.ptr p
 | .sl,s=>.sl s
 | .str,s=>.str s
 | .fn,f=>.fn f
 | .ifc,_=>.ifn
def CK.un:(c:CK)→Lf→Option c.T
 | .int k,.int k' n=>if k=k' then some n else none
 | .bool,.bool b=>some b
 | .ptr,.ptr p=>some p
 | .sl,.sl s=>some s
 | .str,.str s=>some s
 | .fn,.fn f=>some f
 | .ifc,.ifn=>some ()
 | _,_=>none
abbrev Ks:=List CK
abbrev Ks.T:List CK→Type
 | []=>Unit
 | [c]=>c.T
 | c :: d :: r=>c.T × Ks.T (d :: r)
def Ks.mk:(cs:List CK)→Ks.T cs→List Lf
 | [],_=>[]
 | [c],x=>[c.mk x]
 | c :: d :: r,x=>c.mk x.1 :: Ks.mk (d :: r) x.2
def Ks.un:(cs:List CK)→List Lf→Option (Ks.T cs)
 | [],[]=>some ()
 | [c],[l]=>c.un l
 | c :: d :: r,l :: ls=>match c.un l with
  | some x=>match Ks.un (d :: r) ls with
   | some y=>some (x,y)
   | none=>none
  | none=>none
 | _,_=>none
inductive V1 where
 | lf (l:Lf)
 | agg (ls:List Lf)
def V1.enc:V1→Value
 | .lf l=>l.enc
 | .agg ls=>.agg (ls.map Lf.enc).toArray
def V1.lfs:V1→List Lf
 | .lf l=>[l]
 | .agg ls=>ls
inductive TV where
 | one (v:V1)
 | tup (vs:List V1)
def TV.enc:TV→Value
 | .one v=>v.enc
 | .tup vs=>.tuple (vs.map V1.enc).toArray
inductive Sh where
 | lf (c:CK)
 | agg (cs:List CK)
abbrev Sh.T:Sh→Type
 | .lf c=>c.T
 | .agg cs=>Ks.T cs
def Sh.mk:(s:Sh)→s.T→V1
 | .lf c,x=>.lf (c.mk x)
 | .agg cs,x=>.agg (Ks.mk cs x)
abbrev Rs.T:List Sh→Type
 | []=>Unit
 | [s]=>s.T
 | s :: t :: r=>s.T × Rs.T (t :: r)
def Rs.mk:(rs:List Sh)→Rs.T rs→List V1
 | [],_=>[]
 | [s],x=>[s.mk x]
 | s :: t :: r,x=>s.mk x.1 :: Rs.mk (t :: r) x.2
def retTV:List V1→TV
 | [v]=>.one v
 | vs=>.tup vs
def Sh.un:(s:Sh)→V1→Option s.T
 | .lf c,.lf l=>c.un l
 | .agg cs,.agg ls=>Ks.un cs ls
 | _,_=>none
def Rs.un:(rs:List Sh)→List V1→Option (Rs.T rs)
 | [],[]=>some ()
 | [s],[v]=>s.un v
 | s :: t :: r,v :: vs=>match s.un v with
  | some x=>match Rs.un (t :: r) vs with
   | some y=>some (x,y)
   | none=>none
  | none=>none
 | _,_=>none
theorem CK.un_some {c:CK} {l:Lf} {x:c.T} (h:c.un l=some x):c.mk x=l:=by
 cases c<;>cases l<;>simp_all [CK.un,CK.mk]
theorem Ks.un_some:∀ {cs:List CK} {ls:List Lf} {x:Ks.T cs},Ks.un cs ls=some x→Ks.mk cs x=ls
 | [],[],_,_=>rfl
 | [],_ :: _,_,h=>by simp [Ks.un] at h
 | [c],[],_,h=>by simp [Ks.un] at h
 | [c],[l],x,h=>by simp only [Ks.un] at h;simp only [Ks.mk];rw [CK.un_some h]
 | [c],_ :: _ :: _,_,h=>by simp [Ks.un] at h
 | c :: d :: r,[],_,h=>by simp [Ks.un] at h
 | c :: d :: r,l :: ls,x,h=>by
  simp only [Ks.un] at h
  split at h
  ·rename_i y hy
   split at h
   ·rename_i z hz
    cases h
    simp only [Ks.mk]
    rw [CK.un_some hy,Ks.un_some hz]
   ·cases h
  ·cases h
theorem Sh.un_some {s:Sh} {v:V1} {x:s.T} (h:s.un v=some x):s.mk x=v:=by
 cases s with
 | lf c=>cases v with
  | lf l=>simp only [Sh.un] at h;simp only [Sh.mk];rw [CK.un_some h]
  | agg ls=>simp [Sh.un] at h
 | agg cs=>cases v with
  | lf l=>simp [Sh.un] at h
  | agg ls=>simp only [Sh.un] at h;simp only [Sh.mk];rw [Ks.un_some h]
theorem Rs.un_some:∀ {rs:List Sh} {vs:List V1} {x:Rs.T rs},Rs.un rs vs=some x→Rs.mk rs x=vs
 | [],[],_,_=>rfl
 | [],_ :: _,_,h=>by simp [Rs.un] at h
 | [c],[],_,h=>by simp [Rs.un] at h
 | [c],[l],x,h=>by simp only [Rs.un] at h;simp only [Rs.mk];rw [Sh.un_some h]
 | [c],_ :: _ :: _,_,h=>by simp [Rs.un] at h
 | c :: d :: r,[],_,h=>by simp [Rs.un] at h
 | c :: d :: r,l :: ls,x,h=>by
  simp only [Rs.un] at h
  split at h
  ·rename_i y hy
   split at h
   ·rename_i z hz
    cases h
    simp only [Rs.mk]
    rw [Sh.un_some hy,Rs.un_some hz]
   ·cases h
  ·cases h
def Reads (w:World) (b:Nat):Nat→List Lf→Prop
 | _,[]=>True
 | o,l :: ls=>w.cell? ⟨b,o,none⟩=some l.enc∧Reads w b (o+1) ls
def Blk (w:World) (b:Nat) (L:List Lf):Prop:=∃ T,w.heap[b]?=some (.cells (L.map Lf.enc).toArray T (0,0))
abbrev openD:Obj:=.deferred (some [])
structure Ext (S:Nat→Prop) (w w':World):Prop where
 os:w'.os=w.os
 tape:w'.tape=w.tape
 output:w'.output=w.output
 size:w.heap.size≤w'.heap.size
 same:∀ k,k < w.heap.size→¬ S k→w'.heap[k]?=w.heap[k]?
 opn:∀ k:Nat,w.heap[k]?=some openD→w'.heap[k]?=some openD
structure Dfr (w w':World):Prop where
 size:w.heap.size≤w'.heap.size
 opn:∀ k:Nat,w.heap[k]?=some openD→w'.heap[k]?=some openD
def no1:Nat→Prop:=fun _=>False
abbrev at1 (b:Nat):Nat→Prop:=fun k=>k=b
theorem Dfr.refl (w:World):Dfr w w:=⟨Nat.le_refl _,fun _ h=>h⟩
theorem Dfr.trans {a b c:World} (h:Dfr a b) (k:Dfr b c):Dfr a c:=⟨Nat.le_trans h.size k.size,fun i hi=>k.opn i (h.opn i hi)⟩
theorem Ext.dfr {S:Nat→Prop} {w w':World} (h:Ext S w w'):Dfr w w':=⟨h.size,h.opn⟩
theorem Ext.refl (S:Nat→Prop) (w:World):Ext S w w:=⟨rfl,rfl,rfl,Nat.le_refl _,fun _ _ _=>rfl,fun _ h=>h⟩
theorem Ext.mono {S S':Nat→Prop} {w w':World} (h:Ext S w w') (hs:∀ k,k < w.heap.size→S k→S' k):Ext S' w w' :=
 ⟨h.os,h.tape,h.output,h.size,fun k hk hn=>h.same k hk fun e=>hn (hs k hk e),h.opn⟩
theorem Ext.trans {S:Nat→Prop} {a b c:World} (h:Ext S a b) (k:Ext S b c):Ext S a c :=
 ⟨k.os.trans h.os,k.tape.trans h.tape,k.output.trans h.output,Nat.le_trans h.size k.size,
  fun i hi hn=>(k.same i (Nat.lt_of_lt_of_le hi h.size) hn).trans (h.same i hi hn),fun i hi=>k.opn i (h.opn i hi)⟩
theorem Ext.trans' {S S':Nat→Prop} {a b c:World} (h:Ext S a b) (k:Ext S' b c) (hs:∀ i,i < a.heap.size→S' i→S i):Ext S a c :=
 ⟨k.os.trans h.os,k.tape.trans h.tape,k.output.trans h.output,Nat.le_trans h.size k.size,
  fun i hi hn=>(k.same i (Nat.lt_of_lt_of_le hi h.size) fun e=>hn (hs i hi e)).trans (h.same i hi hn),fun i hi=>k.opn i (h.opn i hi)⟩
theorem Ext.below {w w':World} (h:Ext no1 w w'):RowKit.Below w.heap.size w w' :=
 ⟨h.os,h.tape,h.output,h.size,fun k hk=>h.same k hk (fun e=>e)⟩
theorem cell_of_blk {w:World} {b:Nat} {L:List Lf} (h:Blk w b L) (o:Nat):w.cell? ⟨b,o,none⟩=(L[o]?).map Lf.enc:=by
 obtain ⟨T,h⟩:=h
 simp [World.cell?,h]
theorem frozen_of_blk {w:World} {b:Nat} {L:List Lf} (h:Blk w b L) (o:Nat):w.frozen? ⟨b,o,none⟩=false:=by
 obtain ⟨T,h⟩:=h
 simp [World.frozen?,h]
theorem Blk.reads {w:World} {b:Nat} {L:List Lf} (h:Blk w b L):∀ (ls:List Lf) (o:Nat),(∀ i,i < ls.length→L[o+i]?=ls[i]?)→Reads w b o ls
 | [],_,_=>trivial
 | l :: ls,o,hh=>by
  refine ⟨?_,h.reads ls (o+1) fun i hi=>?_⟩
  ·have:=hh 0 (by simp)
   rw [cell_of_blk h]
   simp at this
   simp [this]
  ·have:=hh (i+1) (by simp;omega)
   rw [show o+1+i=o+(i+1) by omega,this]
   simp
def splice (L:List Lf) (o:Nat) (ls:List Lf):List Lf:=L.take o++ls++L.drop (o+ls.length)
theorem splice_length {L:List Lf} {o:Nat} {ls:List Lf} (h:o+ls.length≤L.length):(splice L o ls).length=L.length:=by
 unfold splice;simp;omega
def SlOwn (w:World) (s:Sl) (sz:Nat) (L:List Lf):Prop :=
 (s.len=0∧s.cap=0∧L=[]) ∨
 ∃ q C,s.p=some q∧Blk w q.b C∧s.len≤s.cap∧s.cap≠0∧q.o+s.cap * sz≤C.length∧L.length=s.len * sz∧∀ i,i < L.length→C[q.o+i]?=L[i]?
def SlRd (w:World) (s:Sl) (sz:Nat) (M:List Lf):Prop:=M.length=s.len * sz∧(s.p=none→s.len=0)∧∀ q,s.p=some q→Reads w q.b q.o M
def Sl.own (s:Sl):Nat→Prop:=fun k=>∃ q,s.p=some q∧k=q.b∧s.cap≠0
def Sl.sub (s:Sl) (l h m sz:Nat):Sl:=⟨if m=l then s.p else s.p.map fun q=>⟨q.b,q.o+l * sz⟩,h - l,m - l⟩
def bnd (x:Option Int) (d n:Nat):Prop:=match x with | some i=>i=n | none=>n=d
def rep (n:Nat) (zs:List Lf):List Lf:=(List.replicate n zs).flatten
abbrev WP:=World→Prop
abbrev wno:WP:=fun _=>False
abbrev ite' (c:Bool) (A B:WP):WP:=fun w=>cond c (A w) (B w)
abbrev req (p:Prop) (A:WP):WP:=fun w=>p∧A w
abbrev deref (p:Option Pt) (K:Pt→WP):WP:=fun w=>∃ q,p=some q∧K q w
abbrev fderef (f:Fv) (A:WP):WP:=fun w=>(∃ n a c,f=.mk (.func n) a c∨f=.mk (.yield n) a c)∧A w
abbrev idx (s:Sl) (i:Int) (n:Nat) (K:Pt→WP):WP:=fun w=>∃ q,s.p=some q∧(0≤i∧i < s.len)∧K ⟨q.b,q.o+i.toNat * n⟩ w
abbrev ld (cs:List CK) (p:Pt) (K:Ks.T cs→WP):WP:=fun w=>∃ x,Reads w p.b p.o (Ks.mk cs x)∧K x w
abbrev st (p:Pt) (ls:List Lf) (A:WP):WP:=fun w=>∃ L,Blk w p.b L∧p.o+ls.length≤L.length ∧
 ∀ w',Ext (at1 p.b) w w'→Blk w' p.b (splice L p.o ls)→w'.heap.size=w.heap.size→A w'
abbrev new (ls:List Lf) (K:Nat→WP):WP:=fun w=>∀ w',Ext no1 w w'→Blk w' w.heap.size ls→w'.heap.size=w.heap.size+1→K w.heap.size w'
def BlkT (w:World) (b:Nat) (L:List Lf) (T:TypeId):Prop:=w.heap[b]?=some (.cells (L.map Lf.enc).toArray T (0,0))
abbrev newT (T:TypeId) (ls:List Lf) (K:Nat→WP):WP:=fun w=>∀ w',Ext no1 w w'→BlkT w' w.heap.size ls T→w'.heap.size=w.heap.size+1→K w.heap.size w'
abbrev app (sz:Nat) (s x:Sl) (K:Sl→WP):WP:=fun w=>∃ L M,SlOwn w s sz L∧SlRd w x sz M∧s.len+x.len≤4294967296 ∧
 ∀ w' s',Ext s.own w w'→SlOwn w' s' sz (L++M)→s'.len=s.len+x.len→(∀ k,s'.own k→s.own k∨w.heap.size≤k) →
  (s.cap < s.len+x.len→Ext no1 w w'∧∀ k,s'.own k→w.heap.size≤k)→(s.len+x.len≤s.cap→s'=⟨s.p,s.len+x.len,s.cap⟩∧w'.heap.size=w.heap.size)→K s' w'
abbrev appz (zs:List Lf) (sz:Nat) (s:Sl) (n:Int) (K:Sl→WP):WP:=fun w=>∃ L,SlOwn w s sz L∧(0≤n∧(s.len:Int)+n≤4294967296) ∧
 ∀ w' s',Ext s.own w w'→SlOwn w' s' sz (L++rep n.toNat zs)→s'.len=s.len+n.toNat→(∀ k,s'.own k→s.own k∨w.heap.size≤k)→K s' w'
abbrev mk (zs:List Lf) (len cap:Int) (K:Sl→WP):WP:=fun w=>(0≤len∧len≤cap∧cap≤4294967296) ∧
 ∀ w',Ext no1 w w'→Blk w' w.heap.size (rep cap.toNat zs)→w'.heap.size=w.heap.size+1→K ⟨some ⟨w.heap.size,0⟩,len.toNat,cap.toNat⟩ w'
abbrev slc (s:Sl) (lo hi mx:Option Int) (sz:Nat) (K:Sl→WP):WP:=fun w=>(s.odd=false∧(s.cap≠0→s.p≠none))∧∃ l h m:Nat,bnd lo 0 l∧bnd hi s.len h∧bnd mx s.cap m∧(l≤h∧h≤m∧m≤s.cap)∧K (s.sub l h m sz) w
abbrev clr (zs:List Lf) (s:Sl) (A:WP):WP:=fun w=>((s.p=none∨s.len=0)∧A w)∨∃ q C,s.p=some q∧s.len≠0∧Blk w q.b C∧q.o+s.len * zs.length≤C.length ∧
 ∀ w',Ext (at1 q.b) w w'→Blk w' q.b (splice C q.o (rep s.len zs))→w'.heap.size=w.heap.size→A w'
abbrev ixa (cs:List CK) (ls:List Lf) (i:Int) (n sz:Nat) (K:Ks.T cs→WP):WP:=fun w=>(0≤i∧i < n)∧∃ x,Ks.mk cs x=(ls.drop (i.toNat * sz)).take sz∧K x w
abbrev sslc (s:ByteArray) (lo hi:Option Int) (K:ByteArray→WP):WP:=fun w=>∃ l h:Nat,bnd lo 0 l∧bnd hi s.size h∧(l≤h∧h≤s.size)∧K (s.extract l h) w
def bLs (l:List UInt8):List Lf:=l.map fun b=>.int .u8 b.toNat
abbrev bstr (s:Sl) (K:ByteArray→WP):WP:=fun w=>∃ l:List UInt8,SlRd w s 1 (bLs l)∧s.len=l.length∧K ⟨l.toArray⟩ w
abbrev bidx (s:ByteArray) (i:Int) (K:Int→WP):WP:=fun w=>∃ b:UInt8,(0≤i∧s[i.toNat]?=some b)∧K b.toNat w
abbrev chk (p:Pt) (ls:List Lf) (A:WP):WP:=fun w=>Reads w p.b p.o ls∧A w
abbrev both (A B:WP):WP:=fun w=>A w∧B w
abbrev drw (A:WP):WP:=fun w=>∀ w',Ext no1 w w'→w'.heap.size=w.heap.size→A w'
def ent (P:Program) (f:FuncId):Bool:=match P.funcs[f]? with
 | some fn => fn.name != "runtime.NumGoroutine" && fn.body.isSome
 | none=>false
def CallE (P:Program) (f:FuncId) (args:List Value) (w:World) (R:Value→World→Prop):Prop :=
 ent P f=true∧CallsIn Fence.wide 0 P f args.toArray w fun e w'=>∃ v,e=.returned v∧R v w'
inductive CallX (P:Program) (f:FuncId) (args:List Value) (w:World) (R:Value→World→Prop):Prop
 | enters (h:CallE P f args w R):CallX P f args w R
 | now (v:Value) (w':World) (h:(callFunc f args.toArray).run P w=.ok (.value v) w') (hR:R v w'):CallX P f args w R
def CallV (P:Program) (f:Fv) (args:List Value) (w:World) (R:Value→World→Prop):Prop :=
 match f with
 | .mk (.func g) first captured=>CallE P g (first++args++captured) w R
 | .mk (.yield l) [] _=>∃ fn tmps assign body,(Instr.yield l args.toArray).run P w=.ok (.round l fn tmps assign body) w ∧
   RoundIn Fence.wide 0 P l fn tmps assign body w fun e w'=>∃ v,e=.returned v∧R v w'
 | _=>False
def CallG (P:Program) (f:Fv) (args:List Value) (w:World) (R:Value→World→Prop):Prop :=
 match f with
 | .mk (.func g) first captured=>CallE P g (first++args++captured) w R
 | _=>False
theorem CallE.mono {P:Program} {f:FuncId} {args:List Value} {w:World} {R R':Value→World→Prop} (h:CallE P f args w R) (hr:∀ v w',R v w'→R' v w'):CallE P f args w R' :=
 ⟨h.1,h.2.mono fun _ w' ⟨v,hv,r⟩=>⟨v,hv,hr v w' r⟩⟩
theorem CallX.mono {P:Program} {f:FuncId} {args:List Value} {w:World} {R R':Value→World→Prop} (h:CallX P f args w R) (hr:∀ v w',R v w'→R' v w'):CallX P f args w R' :=
 match h with
 | .enters h=>.enters (h.mono hr)
 | .now v w' h1 h2=>.now v w' h1 (hr _ _ h2)
theorem CallX.e {P:Program} {f:FuncId} {args:List Value} {w:World} {R:Value→World→Prop} (h:CallX P f args w R) (he:ent P f=true):CallE P f args w R:=by
 rcases h with h | ⟨v,w',h1,_⟩
 ·exact h
 unfold ent at he
 unfold callFunc at h1
 simp only [Sem.run_bind,run_program,Result.andThen_ok] at h1
 split at he
 ·rename_i fn hf
  simp only [Bool.and_eq_true,bne_iff_ne,ne_eq] at he
  have hb:fn.body.isNone=false:=by cases hh:fn.body<;>simp [hh] at he ⊢
  simp [hf,he.1,hb] at h1
 ·cases he
theorem CallV.mono {P:Program} {f:Fv} {args:List Value} {w:World} {R R':Value→World→Prop} (h:CallV P f args w R) (hr:∀ v w',R v w'→R' v w'):CallV P f args w R':=by
 unfold CallV at *
 split at h
 ·exact h.mono hr
 ·obtain ⟨fn,tmps,as,body,h1,h2⟩:=h
  exact ⟨fn,tmps,as,body,h1,h2.mono fun _ w' ⟨v,hv,r⟩=>⟨v,hv,hr v w' r⟩⟩
 ·exact h.elim
theorem CallG.mono {P:Program} {f:Fv} {args:List Value} {w:World} {R R':Value→World→Prop} (h:CallG P f args w R) (hr:∀ v w',R v w'→R' v w'):CallG P f args w R':=by
 unfold CallG at *
 split at h
 ·exact h.mono hr
 ·exact h.elim
abbrev call (P:Program) (f:FuncId) (args:List V1) (rs:List Sh) (K:Rs.T rs→WP):WP:=fun w =>
 CallX P f (args.map V1.enc) w fun v w'=>∃ x,v=(retTV (Rs.mk rs x)).enc∧Dfr w w'∧K x w'
abbrev callv (P:Program) (f:Fv) (args:List V1) (rs:List Sh) (K:Rs.T rs→WP):WP:=fun w =>
 CallV P f (args.map V1.enc) w fun v w'=>∃ x,v=(retTV (Rs.mk rs x)).enc∧Dfr w w'∧K x w'
abbrev loop (cs:List CK) (x₀:Ks.T cs) (B:(Ks.T cs→WP)→Ks.T cs→WP):WP:=fun w =>
 ∃ (I:Ks.T cs→WP) (μ:Ks.T cs→World→Nat),I x₀ w∧∀ x w,I x w→B (fun y w'=>I y w'∧μ y w' < μ x w) x w
abbrev join (cs:List CK) (A:(Ks.T cs→WP)→WP) (K:Ks.T cs→WP):WP:=fun w =>
 ∃ J:Ks.T cs→WP,(∀ x w',J x w'→K x w')∧A J w
end Go.X

namespace Go.X
def kind1 (P:Program) (t:TypeId):Option CK :=
 match P.underlying t with
 | some .bool=>some .bool
 | some (.int k)=>some (.int k)
 | some (.pointer _)=>some .ptr
 | some (.slice _)=>some .sl
 | some .string=>some .str
 | some (.func _ _ _)=>some .fn
 | some (.interface _)=>some .ifc
 | _=>none
def kinds (P:Program):Nat→TypeId→Option (List CK)
 | 0,_=>none
 | d+1,t =>
  match P.underlying t with
  | some (.struct fs)=>fs.toList.foldr (fun f acc=>match kinds P d f.type,acc with | some a,some b=>some (a++b) | _,_=>none) (some [])
  | some (.array n e)=>match kinds P d e with | some ks=>some (List.replicate n ks).flatten | none=>none
  | _=>match kind1 P t with | some c=>some [c] | none=>none
def isAggT (P:Program) (t:TypeId):Bool :=
 match P.underlying t with
 | some (.struct _)=>true
 | some (.array _ _)=>true
 | _=>false
def shT (P:Program) (t:TypeId):Option Sh :=
 if isAggT P t then (match kinds P 8 t with | some ks=>if ks.length=P.cellsOf t then some (.agg ks) else none | none=>none)
 else (match kind1 P t with | some c=>some (.lf c) | none=>none)
def allSome {α:Type}:List (Option α)→Option (List α)
 | []=>some []
 | none :: _=>none
 | some x :: r=>match allSome r with | some xs=>some (x :: xs) | none=>none
def shsT (P:Program) (t:TypeId):Option (List Sh) :=
 match P.underlying t with
 | some (.tuple ts)=>allSome (ts.toList.map (shT P))
 | _=>match shT P t with | some s=>some [s] | none=>none
def leafV:Value→Option Lf
 | .int k n=>some (.int k n)
 | .bool b=>some (.bool b)
 | .pointer none=>some (.ptr none)
 | .slice none 0 0=>some (.sl ⟨none,0,0⟩)
 | .string s=>some (.str s)
 | .nilFunc=>some (.fn .nil)
 | .nilIface=>some .ifn
 | _=>none
def constV:Value→Option V1
 | .agg cs=>match allSome (cs.toList.map leafV) with | some ls=>some (.agg ls) | none=>none
 | v=>match leafV v with | some l=>some (.lf l) | none=>none
def zeroLs (P:Program) (t:TypeId):Option (List Lf) :=
 match P.info? t with
 | some i=>match i.zero with
  | some z=>match constV z with | some v=>some v.lfs | none=>none
  | none=>none
 | none=>none
inductive Ent where
 | un
 | val (v:TV)
 | gv (j:Nat) (want:Bool) (v:TV)
abbrev Env:=List Ent
def Env.get:Env→Nat→Ent
 | [],_=>.un
 | x :: _,0=>x
 | _ :: e,n+1=>Env.get e n
def Env.set:Env→Nat→Ent→Env
 | [],_,_=>[]
 | _ :: e,0,y=>y :: e
 | x :: e,n+1,y=>x :: Env.set e n y
def purge (d:Nat):Ent→Ent
 | .gv j w v=>match Nat.beq j d with | true=>.un | false=>.gv j w v
 | x=>x
def Env.put (e:Env) (d:Option Nat) (x:Ent):Env :=
 match d with
 | none=>e
 | some d=>Env.set (e.map (purge d)) d x
def und:TV:=.tup []
abbrev Ctx:=List (Nat × Bool)
def inCtx (j:Nat) (w:Bool):Ctx→Bool
 | []=>false
 | (i,v) :: c=>match Nat.beq i j with
  | true=>(match v,w with | true,true=>true | false,false=>true | _,_=>inCtx j w c)
  | false=>inCtx j w c
def ctxOf (e:Env):Nat→Nat→Ctx
 | 0,_=>[]
 | n+1,j=>match e.get j with
  | .gv i w _=>(i,w) :: ctxOf e n i
  | _=>[]
def evG (e:Env) (c:Ctx):Operand→Option TV
 | .tmp t=>match e.get t with
  | .val v=>some v
  | .gv j w v=>match inCtx j w c with | true=>some v | false=>none
  | .un=>none
 | .const v=>match constV v with | some x=>some (.one x) | none=>none
 | .func f=>some (.one (.lf (.fn (.mk (.func f) [] []))))
 | .global _=>none
def evs (e:Env) (c:Ctx):List Operand→Option (List V1)
 | []=>some []
 | x :: r=>match evG e c x with
  | some (.one v)=>(match evs e c r with | some vs=>some (v :: vs) | none=>none)
  | _=>none
def isK (a b:IntKind):Bool:=match a,b with
 | .i8,.i8=>true | .i16,.i16=>true | .i32,.i32=>true | .i64,.i64=>true
 | .u8,.u8=>true | .u16,.u16=>true | .u32,.u32=>true | .u64,.u64=>true
 | _,_=>false
def cutL (ls:List Lf) (off n:Nat):List Lf:=(ls.drop off).take n
def eqFs (P:Program) (rec:TypeId→List Lf→List Lf→Option Bool) (xs ys:List Lf):List Field→Option Bool
 | []=>some true
 | f :: r => match f.name == "_" with
  | true=>eqFs P rec xs ys r
  | false=>match rec f.type (cutL xs f.offset (P.cellsOf f.type)) (cutL ys f.offset (P.cellsOf f.type)),r with
   | some a,[]=>some a
   | some a,g :: r=>(match eqFs P rec xs ys (g :: r) with | some b=>some (a && b) | none=>none)
   | none,_=>none
def eqAr (rec:List Lf→List Lf→Option Bool) (sz:Nat) (xs ys:List Lf):Nat→Nat→Option Bool
 | 0,_=>some true
 | m+1,i=>match rec (cutL xs (i * sz) sz) (cutL ys (i * sz) sz),m with
  | some a,0=>some a
  | some a,k+1=>(match eqAr rec sz xs ys (k+1) (i+1) with | some b=>some (a && b) | none=>none)
  | none,_=>none
def eqT (P:Program):Nat→TypeId→List Lf→List Lf→Option Bool
 | 0,_,_,_=>none
 | d+1,t,xs,ys =>
  match P.underlying t with
  | some .bool=>(match xs,ys with | [.bool a],[.bool b]=>some (a == b) | _,_=>none)
  | some (.int _)=>(match xs,ys with | [.int k a],[.int k' b]=>(match isK k k' with | true=>some (a == b) | false=>none) | _,_=>none)
  | some .string=>(match xs,ys with | [.str a],[.str b]=>some (a.toList == b.toList) | _,_=>none)
  | some (.struct fs)=>(match P.stoodInHeld t with | true=>none | false=>eqFs P (fun u=>eqT P d u) xs ys fs.toList)
  | some (.array n e)=>(match n with | 0=>none | n+1=>eqAr (eqT P d e) (P.cellsOf e) xs ys (n+1) 0)
  | _=>none
def isNilF:Fv→Bool
 | .nil=>true
 | _=>false
def boolV (b:Bool):Option TV:=some (.one (.lf (.bool b)))
def intV (k:IntKind) (n:Int):Option TV:=some (.one (.lf (.int k n)))
def binI (op:BinOp) (k:IntKind) (a b:Int):Option TV :=
 match op with
 | .add=>intV k (k.wrap (a+b))
 | .sub=>intV k (k.wrap (a - b))
 | .mul=>intV k (k.wrap (a * b))
 | .and=>intV k (k.wrap (BitVec.ofInt k.bits a &&& BitVec.ofInt k.bits b).toNat)
 | .or=>intV k (k.wrap (BitVec.ofInt k.bits a ||| BitVec.ofInt k.bits b).toNat)
 | .xor=>intV k (k.wrap (BitVec.ofInt k.bits a ^^^ BitVec.ofInt k.bits b).toNat)
 | .eql=>boolV (a == b)
 | .neq=>boolV (a != b)
 | .lss=>boolV (a < b)
 | .leq=>boolV (a≤b)
 | .gtr=>boolV (a > b)
 | .geq=>boolV (a ≥ b)
 | _=>none
def isEq:BinOp→Option Bool
 | .eql=>some true
 | .neq=>some false
 | _=>none
def xb (eq:Bool) (b:Bool):Option TV:=match eq with | true=>boolV b | false=>boolV (!b)
def eqV (P:Program) (eq:Bool) (t:TypeId):V1→V1→Option TV
 | .lf (.bool a),.lf (.bool b)=>(match P.underlying t with | some .bool=>xb eq (a == b) | _=>none)
 | .lf (.str a),.lf (.str b)=>xb eq (a.toList == b.toList)
 | .lf (.ptr p),.lf (.ptr none)=>(match P.underlying t with | some (.pointer _)=>xb eq p.isNone | _=>none)
 | .lf (.sl s),.lf (.sl ⟨none,0,0⟩)=>(match P.underlying t with | some (.slice _)=>xb eq s.isNil | _=>none)
 | .lf (.fn f),.lf (.fn .nil)=>(match P.underlying t with | some (.func _ _ _)=>xb eq (isNilF f) | _=>none)
 | .agg xs,.agg ys=>(match isAggT P t && !P.eqGuardType P.depth t with
  | true=>(match eqT P 8 t xs ys with | some b=>xb eq b | none=>none)
  | false=>none)
 | _,_=>none
def binV (P:Program) (op:BinOp) (t:TypeId) (x y:V1):Option TV :=
 match x,y with
 | .lf (.int k a),.lf (.int k' b)=>(match isK k k' with | true=>binI op k a b | false=>none)
 | x,y=>match isEq op with
  | some eq=>eqV P eq t x y
  | none=>none
def unV (op:UnOp):V1→Option TV
 | .lf (.bool b)=>(match op with | .not=>boolV (!b) | _=>none)
 | .lf (.int k n)=>(match op with | .neg=>intV k (k.wrap (0 - n)) | _=>none)
 | _=>none
def fieldOf (P:Program) (t:TypeId) (i:Nat):Option Field :=
 match P.underlying t with
 | some (.struct fs)=>fs[i]?
 | _=>none
def partV (P:Program) (t:TypeId) (ls:List Lf) (off:Nat):Option V1 :=
 match isAggT P t with
 | true=>some (.agg ((ls.drop off).take (P.cellsOf t)))
 | false=>match ls[off]? with | some l=>some (.lf l) | none=>none
def lenV:V1→Option Int
 | .lf (.sl s)=>some s.len
 | .lf (.str s)=>some s.size
 | _=>none
def fillL (place:Nat→Option (Nat × Nat)) (ls:List Lf):List (Nat × V1)→Option (List Lf)
 | []=>some ls
 | (i,v) :: r=>match place i with
  | none=>none
  | some (off,size)=>match Nat.beq v.lfs.length size && Nat.ble (off+v.lfs.length) ls.length with
   | true=>fillL place (splice ls off v.lfs) r
   | false=>none
def evParts (e:Env) (c:Ctx):List (Nat × Operand)→Option (List (Nat × V1))
 | []=>some []
 | (i,x) :: r=>match evG e c x with
  | some (.one v)=>(match evParts e c r with | some vs=>some ((i,v) :: vs) | none=>none)
  | _=>none
def plStruct (P:Program) (fs:Array Field) (i:Nat):Option (Nat × Nat):=match fs[i]? with
 | some f=>some (f.offset,P.cellsOf f.type)
 | none=>none
def placeOf (P:Program) (t:TypeId):Nat→Option (Nat × Nat) :=
 match P.underlying t with
 | some (.struct fs)=>plStruct P fs
 | some (.array _ e)=>fun i=>some (i * P.cellsOf e,P.cellsOf e)
 | _=>fun _=>none
def infoOk (P:Program) (t:TypeId):Bool :=
 match P.underlying t with
 | some (.struct fs)=>fs.toList.all fun f=>(P.info? f.type).isSome
 | some (.array _ e)=>(P.info? e).isSome
 | _=>false
def foldMM (mx:Bool) (k:IntKind):Int→List V1→Option TV
 | a,[]=>intV k a
 | a,.lf (.int k' b) :: r=>(match isK k k' with
  | true=>(match mx with | true=>foldMM mx k (if b > a then b else a) r | false=>foldMM mx k (if b < a then b else a) r)
  | false=>none)
 | _,_=>none
def builtinV (b:Builtin) (vs:List V1):Option TV :=
 match b,vs with
 | .len,[v]=>(match lenV v with | some n=>intV .i64 n | none=>none)
 | .cap,[.lf (.sl s)]=>intV .i64 s.cp
 | .max,.lf (.int k a) :: r=>foldMM true k a r
 | .min,.lf (.int k a) :: r=>foldMM false k a r
 | _,_=>none
def builtinOk (P:Program) (b:Builtin) (ts:Array TypeId) (vs:List V1):Bool :=
 match b with
 | .len | .cap=>(match ts[0]?,vs with
  | some t,[.lf (.sl _)]=>(match P.underlying t with | some (.slice _)=>true | _=>false)
  | some t,[.lf (.str _)]=>(match P.underlying t with | some .string=>true | _=>false)
  | _,_=>false)
 | _=>true
def slotOf:Operand→Nat
 | .tmp t=>t
 | _=>0
def isTmp:Operand→Bool
 | .tmp _=>true
 | _=>false
def toTV:Option V1→Option TV
 | some v=>some (.one v)
 | none=>none
def pureV (P : Program) (e : Env) (c : Ctx) (o : Oper) : Option TV :=
  match o.op with
  | .move x => evG e c x
  | .assign x => evG e c x
  | .pick cn x y => (match evG e c cn with
    | some (.one (.lf (.bool b))) =>
      (match evG e (match isTmp cn with | true => (slotOf cn, true) :: c | false => c) x, evG e (match isTmp cn with | true => (slotOf cn, false) :: c | false => c) y with
       | some (.one (.lf (.bool p))), some (.one (.lf (.bool q))) => boolV (cond b p q)
       | vx, vy => match b with | true => vx | false => vy)
    | _ => none)
  | .build t ps => (match zeroLs P t, evParts e c ps.toList with
    | some z, some vs => (match infoOk P t with | true => (match fillL (placeOf P t) z vs with | some ls => some (.one (.agg ls)) | none => none) | false => none)
    | _, _ => none)
  | .binOp op t x y _ => (match evG e c x, evG e c y with
    | some (.one a), some (.one b) => binV P op t a b
    | _, _ => none)
  | .unOp op _ x => (match evG e c x with | some (.one a) => unV op a | _ => none)
  | .convert src dst x => (match evG e c x with
    | some (.one (.lf (.int _ n))) => (match P.underlying src, P.underlying dst with
      | some (.int _), some (.int k) => intV k (k.wrap n)
      | _, _ => none)
    | _ => none)
  | .makeFunc fn first cap => (match evs e c first.toList, evs e c cap.toList with
    | some a, some b => some (.one (.lf (.fn (.mk fn (a.map V1.enc) (b.map V1.enc)))))
    | _, _ => none)
  | .fieldAddr t x i => (match evG e c x, fieldOf P t i with
    | some (.one (.lf (.ptr (some p)))), some f => (match Nat.beq (P.cellsOf f.type) 0 with
      | true => none
      | false => some (.one (.lf (.ptr (some ⟨p.b, p.o + f.offset⟩)))))
    | _, _ => none)
  | .field t x i => (match evG e c x, fieldOf P t i with
    | some (.one (.agg ls)), some f => (match (P.underlying f.type).isSome with | true => toTV (partV P f.type ls f.offset) | false => none)
    | _, _ => none)
  | .index t x (.const (.int _ n)) => (match evG e c x, P.underlying t with
    | some (.one (.agg ls)), some (.array len el) => (match decide (0 ≤ n ∧ n < (len : Int)), (P.underlying el).isSome with
      | true, true => toTV (partV P el ls (n.toNat * P.cellsOf el))
      | _, _ => none)
    | _, _ => none)
  | .extract x i => (match evG e c x with
    | some (.tup vs) => toTV vs[i]?
    | _ => none)
  | .call cl => (match cl.callee with
    | .builtin b => (match evs e c cl.args.toList with | some vs => (match builtinOk P b cl.argTypes vs with | true => builtinV b vs | false => none) | none => none)
    | _ => none)
  | _ => none
def loadS (P:Program) (t:TypeId) (p:Pt) (K:TV→WP):WP :=
 match shT P t with
 | some (.lf c)=>ld [c] p fun x=>K (.one (.lf (c.mk x)))
 | some (.agg cs)=>ld cs p fun x=>K (.one (.agg (Ks.mk cs x)))
 | none=>wno
def nonZero:Operand→Bool
 | .const (.int _ n)=>match decide (n=0) with | true=>false | false=>true
 | _=>false
def divS (op:BinOp) (y:Operand) (k:IntKind) (a b:Int) (K:TV→WP):WP :=
 match op with
 | .quo=>(match nonZero y with | true=>K (.one (.lf (.int k (k.wrap (a.tdiv b))))) | false=>req (b≠0) (K (.one (.lf (.int k (k.wrap (a.tdiv b)))))))
 | .rem=>(match nonZero y with | true=>K (.one (.lf (.int k (a.tmod b)))) | false=>req (b≠0) (K (.one (.lf (.int k (a.tmod b))))))
 | .shl=>req (0≤b) (K (.one (.lf (.int k (k.wrap (a * 2^min b.toNat k.bits))))))
 | .shr=>req (0≤b) (K (.one (.lf (.int k (a.fdiv (2^min b.toNat k.bits))))))
 | _=>wno
def resS (P:Program) (f:FuncId) (args:List V1) (t:TypeId) (K:TV→WP):WP :=
 match shsT P t with
 | some rs=>call P f args rs fun x=>K (retTV (Rs.mk rs x))
 | none=>wno
def resVS (P:Program) (f:Fv) (args:List V1) (t:TypeId) (K:TV→WP):WP :=
 match shsT P t with
 | some rs=>callv P f args rs fun x=>K (retTV (Rs.mk rs x))
 | none=>wno
def elemT (P:Program) (t:TypeId):Option TypeId :=
 match P.underlying t with
 | some (.slice e)=>some e
 | _=>none
def arrT (P:Program) (t:TypeId):Option (Nat × TypeId) :=
 match P.underlying t with
 | some (.array n e)=>some (n,e)
 | _=>none
def intT (P:Program) (t:TypeId):Option Unit :=
 match P.underlying t with
 | some (.int _)=>some ()
 | _=>none
def selfT (P:Program) (t:TypeId):Bool :=
 match P.underlying t with
 | some (.struct fs)=>(match fs[0]? with | some f=>(match P.underlying f.type with | some (.pointer u)=>Nat.beq u t | _=>false) | none=>false)
 | _=>false
def strT (P:Program) (t:TypeId):Bool :=
 match P.underlying t with
 | some .string=>true
 | _=>false
def bytesT (P:Program) (t:TypeId):Bool :=
 match P.underlying t with
 | some (.slice e)=>(match P.underlying e with | some (.int .u8)=>true | _=>false)
 | _=>false
def optI (e:Env) (c:Ctx):Option Operand→Option (Option Int)
 | none=>some none
 | some x=>match evG e c x with
  | some (.one (.lf (.int _ n)))=>some (some n)
  | _=>none
def opS (P:Program) (e:Env) (c:Ctx) (o:Oper) (K:TV→WP):WP :=
 match pureV P e c o with
 | some v=>K v
 | none =>
  match o.op with
  | .alloc t=>(match zeroLs P t with
   | some ls=>(match selfT P t with
    | true=>newT t ls fun b=>K (.one (.lf (.ptr (some ⟨b,0⟩))))
    | false=>new ls fun b=>K (.one (.lf (.ptr (some ⟨b,0⟩)))))
   | none=>wno)
  | .box _ x=>(match evG e c x with
   | some (.one v)=>new v.lfs fun b=>K (.one (.lf (.ptr (some ⟨b,0⟩))))
   | _=>wno)
  | .buildSlice t n ps=>(match elemT P t with
   | some el=>(match zeroLs P el,evParts e c ps.toList with
    | some z,some vs=>(match Nat.beq z.length (P.cellsOf el) && Nat.ble (n * P.cellsOf el) 16777216 && !Nat.beq (P.cellsOf el) 0,fillL (fun i=>some (i * P.cellsOf el,P.cellsOf el)) (List.replicate n z).flatten vs with
     | true,some ls=>new ls fun b=>K (.one (.lf (.sl ⟨some ⟨b,0⟩,n,n⟩)))
     | _,_=>wno)
    | _,_=>wno)
   | none=>wno)
  | .load t a=>(match evG e c a with
   | some (.one (.lf (.ptr (some p))))=>loadS P t p K
   | _=>wno)
  | .store t a x=>(match evG e c a,evG e c x with
   | some (.one (.lf (.ptr (some p)))),some (.one v)=>(match Nat.beq v.lfs.length (P.cellsOf t) && !Nat.beq (P.cellsOf t) 0 with
    | true=>st p v.lfs (K und)
    | false=>wno)
   | _,_=>wno)
  | .nilCheck x=>(match evG e c x with
   | some (.one (.lf (.ptr p)))=>deref p fun q=>K (.one (.lf (.ptr (some q))))
   | some (.one (.lf (.fn f)))=>fderef f (K (.one (.lf (.fn f))))
   | _=>wno)
  | .binOp op _ x y _=>(match evG e c x,evG e c y with
   | some (.one (.lf (.int k a))),some (.one (.lf (.int k' b)))=>(match op with
    | .shl=>divS op y k a b K
    | .shr=>divS op y k a b K
    | _=>match isK k k' with | true=>divS op y k a b K | false=>wno)
   | some (.one (.lf (.str a))),some (.one (.lf (.str b)))=>(match op with
    | .add=>req (((a.size+b.size:Nat):Int)≤IntKind.i64.max) (K (.one (.lf (.str (a++b)))))
    | _=>wno)
   | _,_=>wno)
  | .indexAddr t x i=>(match evG e c x,evG e c i with
   | some (.one (.lf (.sl s))),some (.one (.lf (.int _ n)))=>(match elemT P t with
    | some el=>(match (P.underlying el).isSome with
     | true=>idx s n (P.cellsOf el) fun q=>K (.one (.lf (.ptr (some q))))
     | false=>wno)
    | none=>wno)
   | some (.one (.lf (.ptr (some p)))),some (.one (.lf (.int _ n)))=>(match P.underlying t with
    | some (.array len el)=>(match (P.underlying el).isSome with
     | true=>req (0≤n∧n < len) (K (.one (.lf (.ptr (some ⟨p.b,p.o+n.toNat * P.cellsOf el⟩)))))
     | false=>wno)
    | _=>wno)
   | _,_=>wno)
  | .makeSlice t l cp=>(match elemT P t,evG e c l,evG e c cp with
   | some el,some (.one (.lf (.int _ n))),some (.one (.lf (.int _ m)))=>(match zeroLs P el with
    | some z=>(match Nat.beq z.length (P.cellsOf el) && !Nat.beq (P.cellsOf el) 0 && Nat.ble (P.bytesOf el) 4096 with
     | true=>mk z n m fun s=>K (.one (.lf (.sl s)))
     | false=>wno)
    | none=>wno)
   | _,_,_=>wno)
  | .slice t x lo hi mx=>(match arrT P t with
   | some (n,el)=>(match evG e c x,optI e c lo,optI e c hi,optI e c mx with
    | some (.one (.lf (.ptr (some p)))),some l,some h,some m=>(match !Nat.beq (P.cellsOf el) 0 && (!m.isSome || h.isSome) with
     | true=>slc ⟨some p,n,n⟩ l h m (P.cellsOf el) fun s=>K (.one (.lf (.sl s)))
     | false=>wno)
    | _,_,_,_=>wno)
   | none=>match elemT P t,evG e c x,optI e c lo,optI e c hi,optI e c mx with
   | some el,some (.one (.lf (.sl s))),some l,some h,some m=>(match !Nat.beq (P.cellsOf el) 0 && (!m.isSome || h.isSome) with
    | true=>slc s l h m (P.cellsOf el) fun s=>K (.one (.lf (.sl s)))
    | false=>wno)
   | none,some (.one (.lf (.str s))),some l,some h,some none=>(match strT P t with
    | true=>sslc s l h fun s=>K (.one (.lf (.str s)))
    | false=>wno)
   | _,_,_,_,_=>wno)
  | .convert src dst x=>(match evG e c x,bytesT P src && strT P dst with
   | some (.one (.lf (.sl s))),true=>bstr s fun b=>K (.one (.lf (.str b)))
   | _,_=>wno)
  | .index t x i=>(match evG e c x,evG e c i,P.underlying t with
   | some (.one (.agg ls)),some (.one (.lf (.int _ n))),some (.array len el)=>(match shT P el with
    | some (.lf k)=>ixa [k] ls n len (P.cellsOf el) fun x=>K (.one (.lf (k.mk x)))
    | some (.agg ks)=>ixa ks ls n len (P.cellsOf el) fun x=>K (.one (.agg (Ks.mk ks x)))
    | none=>wno)
   | some (.one (.lf (.str s))),some (.one (.lf (.int _ n))),some .string=>bidx s n fun x=>K (.one (.lf (.int .u8 x)))
   | _,_,_=>wno)
  | .call cl=>(match cl.callee with
   | .builtin .append=>(match evs e c cl.args.toList,(cl.argTypes[0]?).bind (elemT P),(cl.argTypes[1]?).bind (elemT P) with
    | some [.lf (.sl s),.lf (.sl x)],some el,some _=>(match zeroLs P el with
     | some z=>(match Nat.beq z.length (P.cellsOf el) && !Nat.beq (P.cellsOf el) 0 && Nat.ble (P.bytesOf el) 2048 && !Nat.beq (P.bytesOf el) 0 with
      | true=>app (P.cellsOf el) s x fun s=>K (.one (.lf (.sl s)))
      | false=>wno)
     | none=>wno)
    | some [.lf (.sl s),.lf (.int _ n)],some el,none=>(match zeroLs P el,(cl.argTypes[1]?).bind (intT P) with
     | some z,some ()=>(match Nat.beq z.length (P.cellsOf el) && !Nat.beq (P.cellsOf el) 0 && Nat.ble (P.bytesOf el) 2048 && !Nat.beq (P.bytesOf el) 0 with
      | true=>appz z (P.cellsOf el) s n fun s=>K (.one (.lf (.sl s)))
      | false=>wno)
     | _,_=>wno)
    | _,_,_=>wno)
   | .builtin .clear=>(match evs e c cl.args.toList,(cl.argTypes[0]?).bind (elemT P) with
    | some [.lf (.sl s)],some el=>(match zeroLs P el with
     | some z=>(match Nat.ble 1 z.length with | true=>clr z s (K und) | false=>wno)
     | none=>wno)
    | _,_=>wno)
   | .value (.func f)=>(match evs e c cl.args.toList with | some vs=>resS P f vs o.type K | none=>wno)
   | .value x=>(match evG e c x,evs e c cl.args.toList with
    | some (.one (.lf (.fn f))),some vs=>resVS P f vs o.type K
    | _,_=>wno)
   | _=>wno)
  | _=>wno
def pureK (op:Op):Bool :=
 match op with
 | .move _=>true
 | .assign _=>true
 | .pick _ _ _=>true
 | .build _ _=>true
 | .binOp b _ _ _ _=>(match b with | .quo=>false | .rem=>false | .shl=>false | .shr=>false | _=>true)
 | .unOp _ _ _=>true
 | .convert _ _ _=>true
 | .makeFunc _ _ _=>true
 | .fieldAddr _ _ _=>true
 | .field _ _ _=>true
 | .extract _ _=>true
 | .index _ _ (.const _)=>true
 | .call cl=>(match cl.callee with
  | .builtin b=>(match b with | .len=>true | .cap=>true | .max=>true | .min=>true | _=>false)
  | _=>false)
 | _=>false
def guardOn (j:Nat) (o:Oper):Bool:=match o.guard with
 | some (i,_)=>Nat.beq i j
 | none=>false
def anyI (f:Oper→Nat→Bool):List Oper→Nat→Bool
 | [],_=>false
 | o :: r,i=>f o i || anyI f r (i+1)
def parts (all:List Oper):Nat→Nat→Bool
 | 0,_=>false
 | n+1,j=>anyI (fun o i=>guardOn j o && (!pureK o.op || parts all n i)) all 0
def putV (e:Env) (o:Oper) (v:TV):Env:=e.put o.dst (.val v)
def nextS (p:Bool) (e:Env) (o:Oper) (k:Env→WP) (v:TV):WP :=
 match p with
 | true=>(match o.dst,v with
  | some d,.one (.lf (.bool b))=>ite' b (k (e.put (some d) (.val (.one (.lf (.bool true)))))) (k (e.put (some d) (.val (.one (.lf (.bool false))))))
  | _,_=>wno)
 | false=>k (putV e o v)
def isUnd:Ent→Bool
 | .val (.tup [])=>true
 | _=>false
def opsS (P:Program) (all:List Oper):List Oper→Nat→Env→(Env→WP)→WP
 | [],_,e,K=>K e
 | o :: r,i,e,K =>
  match o.guard with
  | none=>opS P e [] o (nextS (parts all 6 i) e o fun e=>opsS P all r (i+1) e K)
  | some (j,want)=>match (all[j]?).bind (·.dst) with
   | none=>wno
   | some sj=>match parts all 6 j with
    | true=>(match e.get sj with
     | .val (.one (.lf (.bool b)))=>(match b,want with
      | true,true=>opS P e [] o (nextS (parts all 6 i) e o fun e=>opsS P all r (i+1) e K)
      | false,false=>opS P e [] o (nextS (parts all 6 i) e o fun e=>opsS P all r (i+1) e K)
      | _,_=>opsS P all r (i+1) (putV e o und) K)
     | .val (.tup [])=>opsS P all r (i+1) (putV e o und) K
     | _=>wno)
    | false=>(match isUnd (e.get sj) with
     | true=>opsS P all r (i+1) (putV e o und) K
     | false=>match pureV P e ((sj,want) :: ctxOf e 5 sj) o,o.dst with
     | some v,some d=>(match Nat.beq d sj,e.get sj with
      | false,.val (.one (.lf (.bool _)))=>opsS P all r (i+1) (e.put (some d) (.gv sj want v)) K
      | false,.gv _ _ (.one (.lf (.bool _)))=>opsS P all r (i+1) (e.put (some d) (.gv sj want v)) K
      | _,_=>wno)
     | _,_=>wno)
inductive DT where
 | fin
 | f (i:Nat) (sl:List Nat) (r:DT)
 | w (i:Nat) (sl:List Nat) (r:DT)
 | wa (i:Nat) (sl:List Nat) (r alt:DT)
def bit (m i:Nat):Bool:=Nat.testBit m i
def setb (m i:Nat):Nat:=m ||| (1 <<< i)
def subM (a b:Nat):Bool:=Nat.beq (a &&& b) a
def afterL:List Edge→Nat
 | []=>0
 | e :: r=>match Region.binds .any e with | true=>setb (afterL r) e.on | false=>afterL r
def afterM (o:Oper):Nat:=afterL o.after.toList
def ancL (acc:List Nat):List Edge→Nat
 | []=>0
 | e :: r=>match Region.binds .any e with | true=>setb (ancL acc r) e.on ||| (acc[e.on]?).getD 0 | false=>ancL acc r
def ancs:List Oper→List Nat→List Nat
 | [],acc=>acc
 | o :: r,acc=>ancs r (acc++[ancL acc o.after.toList])
def ancM (ops:List Oper) (i:Nat):Nat:=((ancs ops [])[i]?).getD 0
def isF (op:Op):Bool:=match op with
 | .assign _=>false
 | .load _ _=>true
 | .nilCheck _=>true
 | .indexAddr _ _ _=>true
 | .index _ _ _=>true
 | .binOp _ _ _ _ _=>true
 | op=>pureK op
def memN (n:Nat):List Nat→Bool
 | []=>false
 | x :: r=>Nat.beq x n || memN n r
def keepE (sl:List Nat):Nat→Env→Env
 | _,[]=>[]
 | n,x :: e=>(match memN n sl with | true=>x | false=>.un) :: keepE sl (n+1) e
def setE (e:Env) (d:Option Nat) (v:TV):Env:=match d with | none=>e | some d=>e.set d (.val v)
def hazL (i:Nat) (ai:Nat) (sl:List Nat):List Oper→Nat→Bool
 | [],_=>true
 | o :: r,j=>(match o.dst with
  | none=>true
  | some s=>!memN s sl || bit ai j || (bit (afterM o) i && !isF o.op) || (Nat.beq i j && !isF o.op)) && hazL i ai sl r (j+1)
def hazOk (ops:List Oper) (i:Nat) (o:Oper) (sl:List Nat):Bool:=hazL i (afterM o) sl ops 0
def okD (ops:List Oper) (i:Nat) (o:Oper) (sl:List Nat) (V:Nat):Bool:=!bit V i && (subM (afterM o) V && hazOk ops i o sl)
def covL (V C:Nat):List Oper→Nat→Bool
 | [],_=>true
 | o :: r,j=>(bit V j || bit C j || !subM (afterM o) V) && covL V C r (j+1)
def fullL (V:Nat):List Oper→Nat→Bool
 | [],_=>true
 | _ :: r,j=>bit V j && fullL V r (j+1)
def dstIn (d:Nat):List Oper→Bool
 | []=>false
 | o :: r=>(match o.dst with | some s=>Nat.beq s d | none=>false) || dstIn d r
def distinctD:List Oper→Bool
 | []=>true
 | o :: r=>(match o.dst with | some s=>!dstIn s r | none=>true) && distinctD r
def gBy (i:Nat):List Oper→Bool
 | []=>false
 | o :: r=>guardOn i o || gBy i r
abbrev Lds:=List (Nat × Pt × List Lf)
def chks:Lds→Nat→WP→WP
 | [],_,A=>A
 | (i,p,ls) :: r,m,A=>match bit m i with | true=>chks r m A | false=>chk p ls (chks r m A)
def addL (i:Nat) (l:Option (Pt × List Lf)) (lds:Lds):Lds:=match l with | none=>lds | some (p,ls)=>(i,p,ls) :: lds
def fopS (P:Program) (e:Env) (o:Oper) (K:TV→Option (Pt × List Lf)→WP):WP :=
 match pureV P e [] o with
 | some v=>K v none
 | none=>match o.op with
  | .load t x=>(match evG e [] x with
   | some (.one (.lf (.ptr (some p))))=>(match shT P t with
    | some (.lf c)=>ld [c] p fun x=>K (.one (.lf (c.mk x))) (some (p,Ks.mk [c] x))
    | some (.agg cs)=>ld cs p fun x=>K (.one (.agg (Ks.mk cs x))) (some (p,Ks.mk cs x))
    | none=>wno)
   | _=>wno)
  | .nilCheck _=>opS P e [] o fun v=>K v none
  | .indexAddr _ _ _=>opS P e [] o fun v=>K v none
  | .index _ _ _=>opS P e [] o fun v=>K v none
  | .binOp _ _ _ _ _=>opS P e [] o fun v=>K v none
  | _=>wno
def brS (g:Bool) (o:Oper) (e:Env) (k:Env→WP) (v:TV):WP :=
 match g with
 | true=>(match v with
  | .one (.lf (.bool b))=>ite' b (k (setE e o.dst (.one (.lf (.bool true))))) (k (setE e o.dst (.one (.lf (.bool false)))))
  | _=>k (setE e o.dst v))
 | false=>k (setE e o.dst v)
def guardS (ops:List Oper) (o:Oper) (e:Env) (go skip:WP):WP :=
 match o.guard with
 | none=>go
 | some (j,want)=>match (ops[j]?).bind (·.dst) with
  | none=>wno
  | some sj=>match e.get sj with
   | .val (.one (.lf (.bool b)))=>(match b,want with
    | true,true=>go
    | false,false=>go
    | _,_=>skip)
   | .val (.tup [])=>skip
   | _=>wno
def isW:DT→Bool
 | .w _ _ _=>true
 | .wa _ _ _ _=>true
 | _=>false
def drawS (P:Program) (ops:List Oper) (K:Env→WP):DT→Nat→Nat→Env→Lds→WP
 | .fin,V,_,e,_=>match fullL V ops 0 with | true=>K e | false=>wno
 | .f i sl r,V,_,e,lds=>match ops[i]? with
  | none=>wno
  | some o=>match okD ops i o sl V && isF o.op with
   | true=>guardS ops o (keepE sl 0 e) (fopS P (keepE sl 0 e) o fun v l=>brS (gBy i ops) o e (fun e'=>drawS P ops K r (setb V i) 0 e' (addL i l lds)) v) (drawS P ops K r (setb V i) 0 (setE e o.dst und) lds)
   | false=>wno
 | .w i sl r,V,C,e,lds=>match ops[i]? with
  | none=>wno
  | some o=>match okD ops i o sl V && covL V (setb C i) ops 0 with
   | true=>guardS ops o (keepE sl 0 e) (opS P (keepE sl 0 e) [] o fun v=>chks lds (ancM ops i) (brS (gBy i ops) o e (fun e'=>drawS P ops K r (setb V i) 0 e' lds) v)) (drawS P ops K r (setb V i) 0 (setE e o.dst und) lds)
   | false=>wno
 | .wa i sl r alt,V,C,e,lds=>match ops[i]? with
  | none=>wno
  | some o=>match okD ops i o sl V && isW alt with
   | true=>both (guardS ops o (keepE sl 0 e) (opS P (keepE sl 0 e) [] o fun v=>chks lds (ancM ops i) (brS (gBy i ops) o e (fun e'=>drawS P ops K r (setb V i) 0 e' lds) v)) (drawS P ops K r (setb V i) 0 (setE e o.dst und) lds))
     (drawS P ops K alt V (setb C i) e lds)
   | false=>wno
abbrev Slot:=Nat × Sh
inductive Ann where
 | o
 | d (t:DT)
 | s (a b:Ann)
 | j (sl:List Slot) (a b:Ann)
 | b (a:Ann)
 | bj (sl:List Slot) (a:Ann)
 | l (sl:List Slot) (a:Ann)
 | r (rs:List Sh) (a b:Ann)
def kindsL:List Slot→List CK
 | []=>[]
 | (_,.lf c) :: r=>c :: kindsL r
 | (_,.agg cs) :: r=>cs++kindsL r
def packL (e:Env):List Slot→Option (List Lf)
 | []=>some []
 | (n,.lf _) :: r=>match e.get n with
  | .val (.one (.lf l))=>(match packL e r with | some ls=>some (l :: ls) | none=>none)
  | _=>none
 | (n,.agg cs) :: r=>match e.get n with
  | .val (.one (.agg xs))=>(match Nat.beq xs.length cs.length,packL e r with | true,some ls=>some (xs++ls) | _,_=>none)
  | _=>none
def packK (sl:List Slot) (e:Env) (J:Ks.T (kindsL sl)→WP):WP :=
 match packL e sl with
 | some ls=>(match Ks.un (kindsL sl) ls with | some x=>J x | none=>wno)
 | none=>wno
def unpackE:List Slot→List Lf→Env→Env
 | [],_,e=>e
 | (n,.lf _) :: r,ls,e=>match ls with
  | l :: ls=>unpackE r ls (e.put (some n) (.val (.one (.lf l))))
  | []=>e
 | (n,.agg cs) :: r,ls,e=>unpackE r (ls.drop cs.length) (e.put (some n) (.val (.one (.agg (ls.take cs.length)))))
def cleanE:Env→Env
 | []=>[]
 | .gv _ _ _ :: e=>.un :: cleanE e
 | x :: e=>x :: cleanE e
def havocE:List Nat→Env→Env
 | [],e=>e
 | d :: r,e=>havocE r (e.set d .un)
def opsWrites:List Oper→List Nat
 | []=>[]
 | o :: r=>match o.dst with | some d=>d :: opsWrites r | none=>opsWrites r
def writes:Code→List Nat
 | .region _ ops _=>opsWrites ops.toList
 | .seq a b=>writes a++writes b
 | .cond _ a b=>writes a++writes b
 | .block _ a=>writes a
 | .loop a=>writes a
 | .scope a=>writes a
 | _=>[]
def slIn (ws:List Nat):List Slot→Bool
 | []=>true
 | (n,_) :: r=>memN n ws && slIn ws r
def baseE (c:Code) (e:Env):Env:=havocE (writes c) (cleanE e)
def unpackK (c:Code) (sl:List Slot) (e:Env) (x:Ks.T (kindsL sl)):Env:=unpackE sl (Ks.mk (kindsL sl) x) (baseE c e)
def isBy (n:Nat) (i:Nat) (A B:WP):WP:=match Nat.beq i n with | true=>A | false=>B
def putsE (e:Env):List Nat→List V1→Env
 | d :: ds,v :: vs=>putsE (e.put (some d) (.val (.one v))) ds vs
 | _,_=>e
def exitsIn:Code→List Nat
 | .seq a b=>exitsIn a++exitsIn b
 | .cond _ a b=>exitsIn a++exitsIn b
 | .block i a=>(exitsIn a).filter (fun j=>!Nat.beq i j)
 | .loop a=>exitsIn a
 | .scope a=>exitsIn a
 | .exit i=>[i]
 | _=>[]
def retIn:Code→Bool
 | .seq a b=>retIn a || retIn b
 | .cond _ a b=>retIn a || retIn b
 | .block _ a=>retIn a
 | .loop a=>retIn a
 | .scope a=>retIn a
 | .ret=>true
 | _=>false
def chainK (j:Nat) (kx:Nat→WP):List Nat→WP
 | []=>wno
 | i :: r=>isBy (i+2) j (kx i) (chainK j kx r)
def jumpK (c:Code) (j:Nat) (kn kr:WP) (kx:Nat→WP):WP :=
 isBy 0 j kn (match retIn c with | true=>isBy 1 j kr (chainK j kx (exitsIn c)) | false=>chainK j kx (exitsIn c))
abbrev rangeF (P:Program) (fv:Fv) (rs:List Sh) (B:Rs.T rs→(WP→WP)→WP→(Nat→WP)→WP) (K:Nat→WP):WP:=fun w =>
 ∀ (w1:World) (l:Nat) (st:Nat→Obj) (busy:Obj),(∀ j,st j≠openD)→busy≠openD→Ext no1 w w1→w.heap.size≤l→l < w1.heap.size→w1.heap[l]?=some (st 0) →
  (∀ (x:Rs.T rs) (W:World) (R:Value→World→Prop),
   B x (fun A W0=>W0.heap[l]?=some (st 0)∧∀ W1,Ext (at1 l) W0 W1→W1.heap[l]?=some busy→W1.heap.size=W0.heap.size→A W1)
    (fun W2=>W2.heap[l]?=some busy∧∀ W3,Ext (at1 l) W2 W3→W3.heap[l]?=some (st 0)→W3.heap.size=W2.heap.size→R (.bool true) W3)
    (fun j W2=>W2.heap[l]?=some busy∧∀ W3,Ext (at1 l) W2 W3→W3.heap[l]?=some (st j)→W3.heap.size=W2.heap.size→R (.bool false) W3) W →
   W.heap[l]?=some (st 0) →
   CallV P (.mk (.yield l) [] []) ((Rs.mk rs x).map V1.enc) W R) →
  CallG P fv [Fv.enc (.mk (.yield l) [] [])] w1 fun _ w2=>Dfr w1 w2∧∃ j,w2.heap[l]?=some (st j)∧∀ w3,Ext (at1 l) w2 w3→w3.heap.size=w2.heap.size→K j w3
def sem (P:Program) (inR:Bool):Code→Ann→Env→(Env→WP)→(Nat→Env→WP)→(Env→WP)→WP
 | .skip,_,e,kn,_,_=>kn e
 | .label _,_,e,kn,_,_=>kn e
 | .region _ ops false,_,e,kn,_,_=>opsS P ops.toList ops.toList 0 e kn
 | .region _ ops true,.d t,e,kn,_,_=>match P.follows .mixedOrders && distinctD ops.toList with
  | true=>drw (drawS P ops.toList kn t 0 0 (cleanE e) [])
  | false=>wno
 | .seq a b,.s x y,e,kn,kx,kr=>sem P inR a x e (fun e1=>sem P inR b y e1 kn kx kr) kx kr
 | .seq a b,.j sl x y,e,kn,kx,kr=>match slIn (writes a) sl with
  | true=>join (kindsL sl) (fun J=>sem P inR a x e (fun e1=>packK sl e1 J) kx kr) (fun v=>sem P inR b y (unpackK a sl e v) kn kx kr)
  | false=>wno
 | .cond c a b,.s x y,e,kn,kx,kr=>match evG e [] c with
  | some (.one (.lf (.bool t)))=>ite' t (sem P inR a x e kn kx kr) (sem P inR b y e kn kx kr)
  | _=>wno
 | .block id a,.b x,e,kn,kx,kr=>sem P inR a x e kn (fun i e1=>isBy id i (kn e1) (kx i e1)) kr
 | .block id a,.bj sl x,e,kn,kx,kr=>match slIn (writes a) sl with
  | true=>join (kindsL sl) (fun J=>sem P inR a x e (fun e1=>packK sl e1 J) (fun i e1=>isBy id i (packK sl e1 J) (kx i e1)) kr) (fun v=>kn (unpackK a sl e v))
  | false=>wno
 | .loop a,.l sl x,e,_,kx,kr=>match slIn (writes a) sl with
  | true=>packK sl e fun x0=>loop (kindsL sl) x0 (fun J v=>sem P inR a x (unpackK a sl e v) (fun e1=>packK sl e1 J) kx kr)
  | false=>wno
 | .exit i,_,e,_,kx,_=>kx i e
 | .ret,_,e,_,_,kr=>kr e
 | .scope a,x,e,kn,kx,kr=>sem P inR a x e kn kx kr
 | .rangeFunc f ps as body,.r rs x y,e,kn,kx,kr=>match inR,evG e [] f with
  | false,some (.one (.lf (.fn fv)))=>(match Nat.beq rs.length ps.size with
   | true=>rangeF P fv rs (fun v mid next jump=>sem P true as x (putsE (cleanE e) ps.toList (Rs.mk rs v)) (fun e1=>mid (sem P true body y e1 (fun _=>next) (fun i _=>jump (i+2)) (fun _=>jump 1))) (fun _ _=>wno) (fun _=>wno))
     (fun j=>jumpK body j (kn e) (kr e) (fun i=>kx i e))
   | false=>wno)
  | _,_=>wno
 | _,_,_,_,_,_=>wno
structure Same (A B:WP):Prop where
 eq:A=B
structure Lv (n:Nat) (w w':World):Prop where
 os:w'.os=w.os
 tape:w'.tape=w.tape
 output:w'.output=w.output
 size:w'.heap.size=w.heap.size
 same:∀ k:Nat,(k < n∨w.heap[k]?≠some openD)→w'.heap[k]?=w.heap[k]?
abbrev leave (n:Nat) (A:WP):WP:=fun w=>∀ w',Lv n w w'→A w'
def hasRange:Code→Bool
 | .seq a b=>hasRange a || hasRange b
 | .cond _ a b=>hasRange a || hasRange b
 | .block _ a=>hasRange a
 | .loop a=>hasRange a
 | .scope a=>hasRange a
 | .rangeFunc _ _ _ _=>true
 | _=>false
def retS (P:Program) (e:Env):List ResultVar→(List V1→WP)→WP
 | [],K=>K []
 | .tmp t :: r,K=>match e.get t with
  | .val (.one v)=>retS P e r fun vs=>K (v :: vs)
  | _=>wno
 | .cell t ty :: r,K=>match e.get t,shT P ty with
  | .val (.one (.lf (.ptr (some p)))),some (.lf c)=>ld [c] p fun x=>retS P e r fun vs=>K (.lf (c.mk x) :: vs)
  | .val (.one (.lf (.ptr (some p)))),some (.agg cs)=>ld cs p fun x=>retS P e r fun vs=>K (.agg (Ks.mk cs x) :: vs)
  | _,_=>wno
def unRs (rs:List Sh) (vs:List V1) (R:Rs.T rs→WP):WP :=
 match Rs.un rs vs with | some x=>R x | none=>wno
def envOf (n:Nat) (args:List V1):Env:=args.map (fun v=>.val (.one v))++List.replicate (n - args.length) (.val und)
def semF (P:Program) (fn:Func) (an:Ann) (args:List V1) (rs:List Sh) (R:Rs.T rs→WP):WP:=fun w =>
 match fn.body with
 | none=>False
 | some c =>
  let kr (e:Env):WP:=retS P e fn.results.toList fun vs=>unRs rs vs fun x=>match hasRange c with
   | true=>leave w.heap.size (R x)
   | false=>R x
  sem P false c an (envOf fn.ntmps args) kr (fun _ _=>wno) kr w
end Go.X

namespace Go.X
theorem Env.get_set (e:Env) (d:Nat) (y:Ent) (i:Nat):(Env.set e d y).get i=if i=d∧d < e.length then y else e.get i:=by
 induction e generalizing d i with
 | nil=>simp [Env.set,Env.get]
 | cons x e ih =>
  cases d with
  | zero=>cases i<;>simp [Env.set,Env.get]
  | succ d=>cases i with
   | zero=>simp [Env.set,Env.get]
   | succ i=>simp [Env.set,Env.get,ih]
theorem Env.get_map (f:Ent→Ent) (hf:f .un=.un) (e:Env) (i:Nat):Env.get (e.map f) i=f (e.get i):=by
 induction e generalizing i with
 | nil=>simp [Env.get,hf]
 | cons x e ih=>cases i<;>simp [Env.get,ih]
theorem Env.len_set (e:Env) (d:Nat) (y:Ent):(Env.set e d y).length=e.length:=by
 induction e generalizing d with
 | nil=>rfl
 | cons x e ih=>cases d<;>simp [Env.set,ih]
theorem Env.get_past (e:Env) (i:Nat) (h:e.length≤i):e.get i=.un:=by
 induction e generalizing i with
 | nil=>rfl
 | cons x e ih=>cases i with
  | zero=>simp at h
  | succ i=>simp [Env.get];exact ih i (by simpa using h)
def EntOk (a:Act) (i:Nat):Ent→Prop
 | .un=>True
 | .val v=>a.tmps[i]?=some v.enc
 | .gv j w v=>(a.tmps[j]?=some (.bool w)→a.tmps[i]?=some v.enc)∧(a.tmps[j]?≠some (.bool w)→a.tmps[i]?=some undef)
structure Agr (e:Env) (a:Act):Prop where
 len:e.length=a.tmps.size
 ok:∀ i,EntOk a i (e.get i)
def Holds (c:Ctx) (a:Act):Prop:=∀ j w,inCtx j w c=true→a.tmps[j]?=some (.bool w)
theorem Holds.nil (a:Act):Holds [] a:=fun _ _ h=>by cases h
theorem holds_cons {j:Nat} {w:Bool} {c:Ctx} {a:Act} (hc:Holds c a) (h:a.tmps[j]?=some (.bool w)):Holds ((j,w) :: c) a:=by
 intro i v hi
 simp only [inCtx] at hi
 split at hi
 ·rename_i hb
  have e:j=i:=Nat.eq_of_beq_eq_true hb
  subst e
  cases w<;>cases v<;>first | exact h | exact hc _ _ hi
 ·exact hc _ _ hi
theorem leafV_ok {v:Value} {l:Lf} (h:leafV v=some l):l.enc=v:=by
 unfold leafV at h
 split at h<;>cases h<;>rfl
theorem allSome_ok {α:Type}:∀ {l:List (Option α)} {xs:List α},allSome l=some xs→l=xs.map some
 | [],xs,h=>by cases h;rfl
 | none :: r,xs,h=>by simp [allSome] at h
 | some x :: r,xs,h=>by
  simp only [allSome] at h
  split at h
  ·rename_i ys hy
   cases h
   simp [allSome_ok hy]
  ·cases h
theorem leaves_ok {vs:List Value} {ls:List Lf} (h:vs.map leafV=ls.map some):ls.map Lf.enc=vs:=by
 induction vs generalizing ls with
 | nil=>cases ls<;>simp at h ⊢
 | cons v vs ih =>
  cases ls with
  | nil=>simp at h
  | cons l ls =>
   simp at h
   simp [leafV_ok h.1,ih h.2]
theorem constV_ok {v:Value} {x:V1} (h:constV v=some x):x.enc=v:=by
 unfold constV at h
 split at h
 ·rename_i cs
  split at h
  ·rename_i ls hl
   cases h
   have:=leaves_ok (allSome_ok hl)
   simp [V1.enc,this]
  ·cases h
 ·split at h
  ·rename_i l hl
   cases h
   exact leafV_ok hl
  ·cases h
theorem Lf.cells (l:Lf):l.enc.cells=#[l.enc]:=by
 cases l with
 | sl s =>
  obtain ⟨a,c,h,_⟩:=s.enc_len
  simp [Lf.enc,h,Value.cells]
 | fn f=>cases f<;>simp [Lf.enc,Fv.enc,Value.cells]
 | _=>simp [Lf.enc,Value.cells]
theorem V1.cells (v:V1):v.enc.cells=(v.lfs.map Lf.enc).toArray:=by
 cases v with
 | lf l=>simp [V1.enc,V1.lfs,Lf.cells]
 | agg ls=>simp [V1.enc,V1.lfs,Value.cells]
section
variable {P : Program} {e : Env} {a : Act} {c : Ctx} {w : World}
theorem evG_ok (hA:Agr e a) (hc:Holds c a) {x:Operand} {v:TV} (h:evG e c x=some v):a.eval x=v.enc:=by
 unfold evG at h
 split at h
 ·rename_i t
  have hk:=hA.ok t
  split at h
  ·rename_i u hu
   cases h
   rw [hu] at hk
   simp only [EntOk] at hk
   simp [Act.eval,hk]
  ·rename_i j ww u hu
   rw [hu] at hk
   split at h
   ·rename_i hin
    cases h
    have:=hk.1 (hc _ _ hin)
    simp [Act.eval,this]
   ·cases h
  ·cases h
 ·split at h
  ·rename_i y hy
   cases h
   simp [Act.eval,TV.enc,constV_ok hy]
  ·cases h
 ·cases h
  simp [Act.eval,TV.enc,V1.enc,Lf.enc,Fv.enc]
 ·cases h
theorem evs_ok (hA:Agr e a) (hc:Holds c a):∀ {xs:List Operand} {vs:List V1},evs e c xs=some vs→xs.map a.eval=vs.map V1.enc
 | [],vs,h=>by simp [evs] at h;subst h;rfl
 | x :: r,vs,h=>by
  simp only [evs] at h
  split at h
  ·rename_i v hv
   split at h
   ·rename_i us hu
    cases h
    simp only [List.map_cons]
    rw [evG_ok hA hc hv,evs_ok hA hc hu]
    rfl
   ·cases h
  ·cases h
theorem evParts_ok (hA:Agr e a) (hc:Holds c a):∀ {xs:List (Nat × Operand)} {vs:List (Nat × V1)},evParts e c xs=some vs→xs.map (fun x=>(x.1,a.eval x.2))=vs.map (fun x=>(x.1,x.2.enc))
 | [],vs,h=>by simp [evParts] at h;subst h;rfl
 | (i,x) :: r,vs,h=>by
  simp only [evParts] at h
  split at h
  ·rename_i v hv
   split at h
   ·rename_i us hu
    cases h
    simp only [List.map_cons]
    rw [evG_ok hA hc hv,evParts_ok hA hc hu]
    rfl
   ·cases h
  ·cases h
end
theorem tmps_put (a:Act) (d:Nat) (v:Value) (i:Nat):(a.put (some d) v).tmps[i]?=if i=d∧d < a.tmps.size then some v else a.tmps[i]?:=by
 simp only [Act.put]
 by_cases h:d=i
 ·subst h
  by_cases hl:d < a.tmps.size
  ·simp [hl]
  ·simp [hl]
 ·rw [Array.getElem?_setIfInBounds_ne h]
  simp [Ne.symm h]
theorem size_put (a:Act) (d:Option Nat) (v:Value):(a.put d v).tmps.size=a.tmps.size:=by
 cases d<;>simp [Act.put]
theorem purge_ok {a:Act} {d:Nat} {v:Value} {i:Nat} (hi:¬ (i=d∧d < a.tmps.size)) {x:Ent} (h:EntOk a i x):EntOk (a.put (some d) v) i (purge d x):=by
 cases x with
 | un=>trivial
 | val u=>simp only [purge,EntOk] at *;rw [tmps_put,if_neg hi];exact h
 | gv j w u =>
  simp only [purge]
  split
  ·trivial
  ·rename_i hb
   have hne:¬ j=d:=fun e=>by rw [e,Nat.beq_refl] at hb;cases hb
   simp only [EntOk] at *
   rw [tmps_put,tmps_put,if_neg hi,if_neg (fun hh=>hne hh.1)]
   exact h
theorem Agr.put {e:Env} {a:Act} (h:Agr e a) (d:Option Nat) (v:TV):Agr (e.put d (.val v)) (a.put d v.enc):=by
 cases d with
 | none=>exact h
 | some d =>
  refine ⟨by rw [size_put,← h.len];simp [Env.put,Env.len_set],fun i=>?_⟩
  simp only [Env.put]
  rw [Env.get_set]
  split
  ·rename_i hi
   simp only [EntOk]
   rw [tmps_put,if_pos ⟨hi.1,by rw [← h.len];simpa using hi.2⟩]
  ·rename_i hi
   rw [Env.get_map _ rfl]
   exact purge_ok (by rw [← h.len];simpa using hi) (h.ok i)
theorem Agr.put_gv {e:Env} {a:Act} (h:Agr e a) {d j:Nat} (hj:d≠j) (want:Bool) (v:TV) (u:Value)
  (h1:a.tmps[j]?=some (.bool want)→u=v.enc) (h2:a.tmps[j]?≠some (.bool want)→u=undef):Agr (e.put (some d) (.gv j want v)) (a.put (some d) u):=by
 refine ⟨by rw [size_put,← h.len];simp [Env.put,Env.len_set],fun i=>?_⟩
 simp only [Env.put]
 rw [Env.get_set]
 split
 ·rename_i hi
  have hd:d < a.tmps.size:=by rw [← h.len];simpa using hi.2
  simp only [EntOk]
  have e1:(a.put (some d) u).tmps[i]?=some u:=by rw [tmps_put,if_pos ⟨hi.1,hd⟩]
  have e2:(a.put (some d) u).tmps[j]?=a.tmps[j]?:=by rw [tmps_put,if_neg (fun hh=>hj hh.1.symm)]
  rw [e1,e2]
  exact ⟨fun hh=>by rw [h1 hh],fun hh=>by rw [h2 hh]⟩
 ·rename_i hi
  rw [Env.get_map _ rfl]
  exact purge_ok (by rw [← h.len];simpa using hi) (h.ok i)
end Go.X

namespace Go.X
variable {P : Program}
theorem isK_ok {a b:IntKind} (h:isK a b=true):a=b:=by cases a<;>cases b<;>first | rfl | cases h
def IsVal (P:Program) (t:TypeId) (ls:List Lf) (v:Value):Prop:=if isAggT P t then v=.agg (ls.map Lf.enc).toArray else ∃ l,ls=[l]∧v=l.enc
theorem isAgg_run (P:Program) (t:TypeId) {d:TypeDesc} (h:P.underlying t=some d) (w:World):(isAgg t).run P w=.ok (isAggT P t) w:=by
 unfold isAgg isAggT
 simp only [Sem.run_bind,run_underlying h,Result.andThen_ok,h]
 cases d<;>rfl
theorem sizeOf_run {t:TypeId} {d:TypeDesc} (h:P.underlying t=some d) (w:World):(sizeOf t).run P w=.ok (P.cellsOf t) w:=by
 unfold sizeOf typeInfo Program.cellsOf
 cases hi:P.info? t with
 | none=>simp [Program.underlying,hi] at h
 | some i=>simp [hi]
theorem part_run {t:TypeId} {d:TypeDesc} (h:P.underlying t=some d) (xs:List Lf) (off:Nat) (ls:List Lf) (hl:cutL xs off (P.cellsOf t)=ls) (hs:isAggT P t=false→∃ l,ls=[l]) (w:World) :
  ∃ v,(part t (xs.map Lf.enc).toArray off).run P w=.ok v w∧IsVal P t ls v:=by
 unfold part
 simp only [Sem.run_bind,isAgg_run P t h,Result.andThen_ok,Sem.run_ite]
 unfold IsVal
 cases ha:isAggT P t with
 | true =>
  simp only [if_true,sizeOf_run h,Result.andThen_ok,Sem.run_pure]
  refine ⟨_,rfl,?_⟩
  subst hl
  simp [cutL,List.map_take,List.map_drop]
 | false =>
  obtain ⟨l,rfl⟩:=hs ha
  have hx:xs[off]?=some l:=by
   have:=congrArg (fun z=>z[0]?) hl
   simp only [cutL] at this
   rw [List.getElem?_take] at this
   split at this
   ·simpa using this
   ·simp at this
  simp [hx]
theorem eqFields_run {d:Nat} {fs:List Field} {xs ys:List Lf} {b:Bool} {rec:TypeId→List Lf→List Lf→Option Bool} (w:World)
  (hrec:∀ t us vs b,rec t us vs=some b→(∃ dd,P.underlying t=some dd)∧(isAggT P t=false→(∃ l,us=[l])∧∃ l,vs=[l])∧∀ x y,IsVal P t us x→IsVal P t vs y→(Op.equalIn d t x y).run P w=.ok b w)
  (h:eqFs P rec xs ys fs=some b):(Op.eqFields d (xs.map Lf.enc).toArray (ys.map Lf.enc).toArray fs).run P w=.ok b w:=by
 induction fs generalizing b with
 | nil=>simp [eqFs] at h;subst h;simp [Op.eqFields]
 | cons f r ih =>
  unfold eqFs at h
  split at h
  ·rename_i hn
   have hn' : f.name = "_" := by simpa using hn
   simp only [Op.eqFields,hn',ne_eq,not_true,if_false]
   exact ih h
  ·rename_i hn
   have hn' : ¬ f.name = "_" := by simpa using hn
   simp only [Op.eqFields,ne_eq,hn',not_false_eq_true,if_true,Sem.run_bind]
   have step:∀ a,rec f.type (cutL xs f.offset (P.cellsOf f.type)) (cutL ys f.offset (P.cellsOf f.type))=some a →
     ∃ u v,(part f.type (xs.map Lf.enc).toArray f.offset).run P w=.ok u w∧(part f.type (ys.map Lf.enc).toArray f.offset).run P w=.ok v w∧(Op.equalIn d f.type u v).run P w=.ok a w:=by
    intro a ha
    obtain ⟨⟨dd,hd⟩,hs,he⟩:=hrec _ _ _ _ ha
    obtain ⟨u,hu,iu⟩:=part_run hd xs f.offset _ rfl (fun z=>(hs z).1) w
    obtain ⟨v,hv,iv⟩:=part_run hd ys f.offset _ rfl (fun z=>(hs z).2) w
    exact ⟨u,v,hu,hv,he u v iu iv⟩
   split at h
   ·rename_i a ha
    cases h
    obtain ⟨u,v,hu,hv,he⟩:=step _ ha
    simp only [hu,hv,he,Result.andThen_ok,Sem.run_ite]
    cases b<;>simp [Op.eqFields]
   ·rename_i a g r' ha
    obtain ⟨u,v,hu,hv,he⟩:=step _ ha
    split at h
    ·rename_i b' hb'
     cases h
     simp only [hu,hv,he,Result.andThen_ok,Sem.run_ite,ih hb']
     cases a<;>simp
    ·cases h
   ·cases h
theorem rangeLoop_run {d:Nat} {t:TypeId} {xs ys:List Lf} {rec:List Lf→List Lf→Option Bool} {dd:TypeDesc} (ht:P.underlying t=some dd) (w:World)
  (hrec:∀ us vs b,rec us vs=some b→(isAggT P t=false→(∃ l,us=[l])∧∃ l,vs=[l])∧∀ x y,IsVal P t us x→IsVal P t vs y→(Op.equalIn d t x y).run P w=.ok b w) :
  ∀ (m i:Nat) (b:Bool),eqAr rec (P.cellsOf t) xs ys m i=some b →
   (forIn (List.range' i m) ((none,()):Option Bool × Unit) (fun i _=>do
    let a ← part t (xs.map Lf.enc).toArray (i * P.cellsOf t)
    let c ← part t (ys.map Lf.enc).toArray (i * P.cellsOf t)
    let r ← Op.equalIn d t a c
    if (!r)=true then pure (ForInStep.done (some false,())) else pure (ForInStep.yield (none,())))).run P w
    = .ok (if b then (none,()) else (some false,())) w:=by
 intro m
 induction m with
 | zero=>intro i b h;simp [eqAr] at h;subst h;simp
 | succ m ih =>
  intro i b h
  unfold eqAr at h
  simp only [List.range'_succ,List.forIn_cons,Sem.run_bind]
  have step:∀ a,rec (cutL xs (i * P.cellsOf t) (P.cellsOf t)) (cutL ys (i * P.cellsOf t) (P.cellsOf t))=some a →
    ∃ u v,(part t (xs.map Lf.enc).toArray (i * P.cellsOf t)).run P w=.ok u w∧(part t (ys.map Lf.enc).toArray (i * P.cellsOf t)).run P w=.ok v w∧(Op.equalIn d t u v).run P w=.ok a w:=by
   intro a ha
   obtain ⟨hs,he⟩:=hrec _ _ _ ha
   obtain ⟨u,hu,iu⟩:=part_run ht xs (i * P.cellsOf t) _ rfl (fun z=>(hs z).1) w
   obtain ⟨v,hv,iv⟩:=part_run ht ys (i * P.cellsOf t) _ rfl (fun z=>(hs z).2) w
   exact ⟨u,v,hu,hv,he u v iu iv⟩
  split at h
  ·rename_i a ha
   cases h
   obtain ⟨u,v,hu,hv,he⟩:=step _ ha
   simp only [hu,hv,he,Result.andThen_ok]
   cases b<;>simp
  ·rename_i a k ha
   obtain ⟨u,v,hu,hv,he⟩:=step _ ha
   split at h
   ·rename_i b' hb'
    cases h
    have h3:=ih (i+1) b' hb'
    simp only [hu,hv,he,Result.andThen_ok]
    cases a with
    | false=>simp
    | true=>simpa using h3
   ·cases h
  ·cases h
theorem eqT_ok:∀ (d D:Nat) (t:TypeId) (xs ys:List Lf) (b:Bool) (w:World),d≤D→eqT P d t xs ys=some b →
  (∃ dd,P.underlying t=some dd)∧(isAggT P t=false→(∃ l,xs=[l])∧∃ l,ys=[l])∧∀ x y,IsVal P t xs x→IsVal P t ys y→(Op.equalIn D t x y).run P w=.ok b w:=by
 intro d
 induction d with
 | zero=>intro D t xs ys b w _ h;simp [eqT] at h
 | succ d ih =>
  intro D t xs ys b w hD h
  obtain ⟨D,rfl⟩:∃ n,D=n+1:=⟨D - 1,by omega⟩
  simp only [eqT] at h
  split at h
  ·rename_i hu
   have hg:isAggT P t=false:=by simp [isAggT,hu]
   split at h
   ·rename_i p q
    cases h
    refine ⟨⟨_,hu⟩,fun _=>⟨⟨_,rfl⟩,_,rfl⟩,fun x y hx hy=>?_⟩
    simp only [IsVal,hg,Bool.false_eq_true,if_false] at hx hy
    obtain ⟨l,h1,rfl⟩:=hx
    obtain ⟨m,h2,rfl⟩:=hy
    cases h1;cases h2
    exact run_equalIn_bool' w D t _ _ hu
   ·cases h
  ·rename_i k hu
   have hg:isAggT P t=false:=by simp [isAggT,hu]
   split at h
   ·rename_i k1 p k2 q
    split at h
    ·rename_i hk
     cases h
     refine ⟨⟨_,hu⟩,fun _=>⟨⟨_,rfl⟩,_,rfl⟩,fun x y hx hy=>?_⟩
     simp only [IsVal,hg,Bool.false_eq_true,if_false] at hx hy
     obtain ⟨l,h1,rfl⟩:=hx
     obtain ⟨m,h2,rfl⟩:=hy
     cases h1;cases h2
     rw [← isK_ok hk]
     exact run_equalIn_int w D t k1 k p q hu
    ·cases h
   ·cases h
  ·rename_i hu
   have hg:isAggT P t=false:=by simp [isAggT,hu]
   split at h
   ·rename_i p q
    cases h
    refine ⟨⟨_,hu⟩,fun _=>⟨⟨_,rfl⟩,_,rfl⟩,fun x y hx hy=>?_⟩
    simp only [IsVal,hg,Bool.false_eq_true,if_false] at hx hy
    obtain ⟨l,h1,rfl⟩:=hx
    obtain ⟨m,h2,rfl⟩:=hy
    cases h1;cases h2
    exact run_equalIn_string w D t _ _ hu
   ·cases h
  ·rename_i fs hu
   have hg:isAggT P t=true:=by simp [isAggT,hu]
   split at h
   ·cases h
   ·rename_i hst
    refine ⟨⟨_,hu⟩,fun z=>(by rw [hg] at z;cases z),fun x y hx hy=>?_⟩
    simp only [IsVal,hg,if_true] at hx hy
    subst hx;subst hy
    have hf:P.fieldsOf t=fs:=by simp [Program.fieldsOf,hu]
    rw [run_equalIn_struct w D t _ _ (by rw [hf];exact hu) hst,hf]
    exact eqFields_run w (fun t us vs b hh=>ih D t us vs b w (by omega) hh) h
  ·rename_i n e hu
   have hg:isAggT P t=true:=by simp [isAggT,hu]
   refine ⟨⟨_,hu⟩,fun z=>(by rw [hg] at z;cases z),fun x y hx hy=>?_⟩
   simp only [IsVal,hg,if_true] at hx hy
   subst hx;subst hy
   simp only [Op.equalIn,Sem.run_bind,run_underlying hu,Result.andThen_ok]
   cases n with
   | zero=>cases h
   | succ n =>
    have hrec:=fun us vs b hh=>ih D e us vs b w (by omega) hh
    have hue:∃ dd,P.underlying e=some dd:=by
     dsimp only at h
     unfold eqAr at h
     split at h<;>rename_i hh
     ·exact (hrec _ _ _ hh).1
     ·exact (hrec _ _ _ hh).1
     ·cases h
    obtain ⟨dd,hdd⟩:=hue
    simp only [sizeOf_run hdd,Result.andThen_ok]
    rw [Std.Legacy.Range.forIn_eq_forIn_range']
    have:=rangeLoop_run (xs:=xs) (ys:=ys) hdd w (fun us vs b hh=>(hrec us vs b hh).2) (n+1) 0 b h
    simp only [Std.Legacy.Range.size]
    simp only [Nat.sub_zero,Nat.div_one,Nat.add_one_sub_one] at *
    rw [this]
    cases b<;>simp
  ·cases h
theorem eqGuard_leaf (op:BinOp) (t:TypeId) (x y:Operand) (a b:Lf) (w:World) (hn:a≠.ifn:=by simp):(eqGuard op t x y a.enc b.enc).run P w=.ok () w:=by
 have hs:∀ s:Sl,∃ x n c,s.enc=.slice x n c:=fun s=>by obtain ⟨x,c,hx,_⟩:=s.enc_len;exact ⟨x,_,c,hx⟩
 have hf:∀ f:Fv,f.enc=.nilFunc∨∃ x y z,f.enc=.func x y z:=fun f=>by cases f<;>simp [Fv.enc]
 have hl:∀ l:Lf,l≠.ifn→(∃ k n,l.enc=.int k n)∨(∃ b,l.enc=.bool b)∨(∃ p,l.enc=.pointer p)∨(∃ x n c,l.enc=.slice x n c)∨(∃ s,l.enc=.string s)∨l.enc=.nilFunc∨∃ x y z,l.enc=.func x y z:=fun l hn=>by
  cases l with
  | sl s=>obtain ⟨x,n,c,h⟩:=hs s;exact .inr (.inr (.inr (.inl ⟨x,n,c,h⟩)))
  | fn f=>exact .inr (.inr (.inr (.inr (.inr (hf f)))))
  | ifn=>exact absurd rfl hn
  | _=>simp [Lf.enc]
 rcases hl a hn with ⟨k,n,h⟩ | ⟨k,h⟩ | ⟨k,h⟩ | ⟨k,n,c,h⟩ | ⟨k,h⟩ | h | ⟨k,n,c,h⟩<;>rw [h]<;>by_cases hb:b=.ifn
 all_goals first
  | (subst hb;cases op<;>simp [eqGuard])
  | (rcases hl b hb with ⟨k,n,h⟩ | ⟨k,h⟩ | ⟨k,h⟩ | ⟨k,n,c,h⟩ | ⟨k,h⟩ | h | ⟨k,n,c,h⟩<;>rw [h]<;>cases op<;>simp [eqGuard])
theorem isEq_ok {op:BinOp} {eq:Bool} (h:isEq op=some eq):op=if eq then .eql else .neq:=by
 cases op<;>simp [isEq] at h<;>subst h<;>rfl
theorem binI_ok {op:BinOp} {k:IntKind} {a b:Int} {v:TV} (h:binI op k a b=some v) (t:TypeId) (w:World):(binOp op t (.int k a) (.int k b)).run P w=.ok v.enc w:=by
 cases op<;>simp only [binI,intV,boolV,Option.some.injEq,reduceCtorEq] at h<;>subst h <;>
  simp [binOp,Op.intArith,Op.intBits,Op.intCmp,TV.enc,V1.enc,Lf.enc]
theorem xb_ok {eq b:Bool} {v:TV} (h:xb eq b=some v):v.enc=.bool (if eq then b else !b):=by
 cases eq<;>simp only [xb,boolV,Option.some.injEq] at h<;>subst h<;>rfl
theorem equalIn_ptr (d:Nat) {t u:TypeId} (hu:P.underlying t=some (.pointer u)) (p:Option Pt) (w:World):(Op.equalIn (d+1) t (.pointer (p.map Pt.addr)) (.pointer none)).run P w=.ok p.isNone w:=by
 cases p<;>simp [Op.equalIn,run_underlying hu]
theorem equalIn_sl (d:Nat) {t u:TypeId} (hu:P.underlying t=some (.slice u)) (s:Sl) (l c:Nat) (w:World):(Op.equalIn (d+1) t s.enc (.slice none l c)).run P w=.ok s.isNil w:=by
 obtain ⟨a,m,h,_,_,hn⟩:=s.enc_len
 rw [h]
 cases a with
 | none=>rw [hn.1 rfl];simp [Op.equalIn,run_underlying hu]
 | some a =>
  have:s.isNil=false:=by
   cases hh:s.isNil with
   | false=>rfl
   | true=>have:=hn.2 hh;cases this
  rw [this];simp [Op.equalIn,run_underlying hu]
theorem equalIn_fn (d:Nat) {t:TypeId} {a b:Array TypeId} {c:Bool} (hu:P.underlying t=some (.func a b c)) (f:Fv) (w:World):(Op.equalIn (d+1) t f.enc .nilFunc).run P w=.ok (isNilF f) w:=by
 cases f<;>simp [Fv.enc,isNilF,Op.equalIn,run_underlying hu]
theorem eqV_ok {eq:Bool} {t:TypeId} {x y:V1} {v:TV} (h:eqV P eq t x y=some v) (x0 y0:Operand) (w:World) :
  ((do eqGuard (if eq then .eql else .neq) t x0 y0 x.enc y.enc;binOp (if eq then .eql else .neq) t x.enc y.enc:Sem Value)).run P w=.ok v.enc w:=by
 unfold eqV at h
 split at h
 · -- bool
  rename_i a b
  split at h
  ·rename_i hu
   rw [xb_ok h]
   simp only [Sem.run_bind,V1.enc,eqGuard_leaf,ne_eq,reduceCtorEq,not_false_eq_true,Result.andThen_ok]
   have:=run_equalIn_bool' (P:=P) w 9999 t a b hu
   cases eq<;>simp [binOp,Lf.enc,Op.equal,Op.maxDepth,this]
  ·cases h
 · -- string
  rename_i a b
  rw [xb_ok h]
  simp only [Sem.run_bind,V1.enc,eqGuard_leaf,ne_eq,reduceCtorEq,not_false_eq_true,Result.andThen_ok]
  cases eq<;>simp [binOp,Lf.enc,Op.stringOp]
 · -- pointer
  rename_i p
  split at h
  ·rename_i hu
   rw [xb_ok h]
   simp only [Sem.run_bind,V1.enc,eqGuard_leaf,ne_eq,reduceCtorEq,not_false_eq_true,Result.andThen_ok]
   have:=equalIn_ptr 9999 hu p w
   cases eq<;>simp [binOp,Lf.enc,Op.equal,Op.maxDepth,this]
  ·cases h
 · -- slice
  rename_i s
  split at h
  ·rename_i hu
   rw [xb_ok h]
   simp only [Sem.run_bind,V1.enc,eqGuard_leaf,ne_eq,reduceCtorEq,not_false_eq_true,Result.andThen_ok]
   have:=equalIn_sl 9999 hu s 0 0 w
   obtain ⟨x,c,hx,_⟩:=s.enc_len
   have hz:(Lf.sl ⟨none,0,0⟩).enc=.slice none 0 0:=rfl
   have hy:(Lf.sl s).enc=.slice x s.len c:=hx
   rw [hx] at this
   rw [hz,hy]
   cases eq<;>simp [binOp,Op.equal,Op.maxDepth,this]
  ·cases h
 · -- function
  rename_i f
  split at h
  ·rename_i hu
   rw [xb_ok h]
   simp only [Sem.run_bind,V1.enc,eqGuard_leaf,ne_eq,reduceCtorEq,not_false_eq_true,Result.andThen_ok]
   have:=equalIn_fn 9999 hu f w
   cases f<;>simp only [Fv.enc] at this<;>cases eq<;>simp [binOp,Lf.enc,Fv.enc,Op.equal,Op.maxDepth,this]
  ·cases h
 · -- aggregates
  rename_i xs ys
  split at h
  ·rename_i hg
   simp only [Bool.and_eq_true,Bool.not_eq_true'] at hg
   obtain ⟨hagg,hguard⟩:=hg
   split at h
   ·rename_i b hb
    rw [xb_ok h]
    obtain ⟨_,_,he⟩:=eqT_ok 8 10000 t xs ys b w (by omega) hb
    have he:=he (.agg (xs.map Lf.enc).toArray) (.agg (ys.map Lf.enc).toArray) (by simp [IsVal,hagg]) (by simp [IsVal,hagg])
    simp only [Sem.run_bind,V1.enc,run_eqGuard_agg w _ t _ _ _ _ hguard,Result.andThen_ok]
    cases eq
    ·simp only [Bool.false_eq_true,if_false,run_neq_struct,he,Result.andThen_ok]
    ·simp only [if_true,run_eql_struct,he,Result.andThen_ok]
   ·cases h
  ·cases h
 ·cases h
theorem binV_ok {op:BinOp} {t:TypeId} {x y:V1} {v:TV} (h:binV P op t x y=some v) (x0 y0:Operand) (w:World) :
  ((do eqGuard op t x0 y0 x.enc y.enc;binOp op t x.enc y.enc:Sem Value)).run P w=.ok v.enc w:=by
 unfold binV at h
 split at h
 ·rename_i k a k' b
  split at h
  ·rename_i hk
   have:=isK_ok hk
   subst this
   simp only [Sem.run_bind,V1.enc,eqGuard_leaf,ne_eq,reduceCtorEq,not_false_eq_true,Result.andThen_ok]
   exact binI_ok h t w
  ·cases h
 ·split at h
  ·rename_i eq heq
   rw [isEq_ok heq]
   exact eqV_ok h x0 y0 w
  ·cases h
end Go.X

namespace Go.X
variable {P : Program}
theorem set_splice (L:List Lf) (off:Nat) (l:Lf) (r:List Lf) (h:off+(l :: r).length≤L.length):splice (L.set off l) (off+1) r=splice L off (l :: r):=by
 unfold splice
 simp only [List.length_cons] at h ⊢
 rw [List.set_eq_take_append_cons_drop,if_pos (by omega)]
 have h1:(List.take off L++l :: List.drop (off+1) L).take (off+1)=List.take off L++[l]:=by
  rw [List.take_append]
  simp only [List.length_take]
  rw [show min off L.length=off by omega,show off+1 - off=1 by omega,List.take_of_length_le (by simp;omega)]
  simp
 have h2:(List.take off L++l :: List.drop (off+1) L).drop (off+1+r.length)=L.drop (off+(r.length+1)):=by
  rw [List.drop_append]
  simp only [List.length_take]
  rw [show min off L.length=off by omega,List.drop_of_length_le (by simp;omega),show off+1+r.length - off=r.length+1 by omega]
  simp
  rw [show off+1+r.length=off+(r.length+1) by omega]
 rw [h1,h2]
 simp
theorem foldSet (off:Nat):∀ (r:List Lf) (k:Nat) (L:List Lf),off+k+r.length≤L.length →
  ((r.map Lf.enc).zipIdx k).foldl (fun (cs:Array Value) (x:Value × Nat)=>cs.setIfInBounds (off+x.2) x.1) (L.map Lf.enc).toArray=((splice L (off+k) r).map Lf.enc).toArray
 | [],k,L,h=>by simp [splice]
 | l :: r,k,L,h=>by
  simp only [List.map_cons,List.zipIdx_cons,List.foldl_cons]
  have:(List.map Lf.enc L).toArray.setIfInBounds (off+k) l.enc=(List.map Lf.enc (L.set (off+k) l)).toArray:=by
   simp [List.map_set]
  rw [this,foldSet off r (k+1) _ (by simp at h ⊢;omega),show off+(k+1)=off+k+1 by omega,set_splice _ _ _ _ (by simpa using h)]
theorem fill_ok {place:Nat→Option (Nat × Nat)}:∀ {vs:List (Nat × V1)} {ls ls':List Lf},fillL place ls vs=some ls' →
  Instr.fill place (ls.map Lf.enc).toArray (vs.map fun x=>(x.1,x.2.enc))=some (ls'.map Lf.enc).toArray
 | [],ls,ls',h=>by simp [fillL] at h;subst h;rfl
 | (i,v) :: r,ls,ls',h=>by
  simp only [fillL] at h
  split at h
  ·cases h
  ·rename_i off size hp
   split at h
   ·rename_i hb
    simp only [Bool.and_eq_true,Nat.beq_eq,Nat.ble_eq] at hb
    simp only [List.map_cons,Instr.fill,hp,V1.cells]
    rw [if_neg (by simp [hb.1];omega)]
    have:=foldSet off v.lfs 0 ls (by omega)
    simp only [Nat.add_zero] at this
    rw [← fill_ok h,← this]
    simp
   ·cases h
theorem info_run {t:TypeId} (h:(P.info? t).isSome=true) (w:World):(sizeOf t).run P w=.ok (P.cellsOf t) w:=by
 unfold sizeOf typeInfo Program.cellsOf
 cases hi:P.info? t with
 | none=>simp [hi] at h
 | some i=>simp [hi]
theorem zero_run {t:TypeId} {ls:List Lf} (h:zeroLs P t=some ls) (w:World):∃ v:Value,(zeroValue t).run P w=.ok v w∧v.cells=(ls.map Lf.enc).toArray:=by
 unfold zeroLs at h
 split at h
 ·rename_i i hi
  split at h
  ·rename_i z hz
   split at h
   ·rename_i v hv
    cases h
    refine ⟨z,by simp [zeroValue,typeInfo,hi,hz],?_⟩
    rw [← constV_ok hv,V1.cells]
   ·cases h
  ·cases h
 ·cases h
theorem places_run (w:World):∀ (fs:List Field),(fs.all fun f=>(P.info? f.type).isSome)=true →
  (fs.mapM (m:=Sem) fun f=>do pure (f.offset,← sizeOf f.type)).run P w=.ok (fs.map fun f=>(f.offset,P.cellsOf f.type)) w
 | [],_=>by simp
 | f :: fs,h=>by
  simp only [List.all_cons,Bool.and_eq_true] at h
  simp only [List.mapM_cons,Sem.run_bind,info_run h.1,Result.andThen_ok,Sem.run_pure,places_run w fs h.2,List.map_cons]
theorem build_ok {t:TypeId} {z ls:List Lf} {vs:List (Nat × V1)} (hz:zeroLs P t=some z) (hi:infoOk P t=true) (hf:fillL (placeOf P t) z vs=some ls) (w:World) :
  (Instr.build t (vs.map fun x=>(x.1,x.2.enc)).toArray).run P w=.ok (.agg (ls.map Lf.enc).toArray) w:=by
 obtain ⟨v,hv,hc⟩:=zero_run hz w
 unfold Instr.build
 simp only [Sem.run_bind,hv,Result.andThen_ok]
 unfold infoOk at hi
 unfold placeOf at hf
 have hfill:=fill_ok hf
 split at hi
 ·rename_i fs hu
  obtain ⟨fl,rfl⟩:∃ fl:List Field,fs=fl.toArray:=⟨fs.toList,by simp⟩
  simp only [hu] at hfill
  simp only [run_underlying hu,Result.andThen_ok,Sem.run_bind,List.mapM_toArray,Sem.run_map,places_run w _ hi,hc]
  have e:(fun i:Nat=>((List.map (fun f:Field=>(f.offset,P.cellsOf f.type)) fl).toArray)[i]?)=plStruct P fl.toArray:=by
   funext i
   simp only [plStruct,List.getElem?_toArray,List.getElem?_map]
   cases fl[i]?<;>rfl
  rw [e,hfill]
  simp
 ·rename_i n el hu
  simp only [hu] at hfill
  simp only [run_underlying hu,Result.andThen_ok,Sem.run_bind,info_run hi,hc]
  simp [hfill]
 ·cases hi
theorem field_run {t:TypeId} {i:Nat} {f:Field} (h:fieldOf P t i=some f):∃ fs,P.underlying t=some (.struct fs)∧fs[i]?=some f:=by
 unfold fieldOf at h
 split at h
 ·rename_i fs hu;exact ⟨fs,hu,h⟩
 ·cases h
theorem cells_info {t:TypeId} (h:P.cellsOf t≠0) (w:World):(sizeOf t).run P w=.ok (P.cellsOf t) w:=by
 refine info_run ?_ w
 unfold Program.cellsOf at h
 cases hi:P.info? t with
 | none=>simp [hi] at h
 | some i=>rfl
theorem foldMM_ok {mx:Bool} {k:IntKind}:∀ {vs:List V1} {a:Int} {v:TV} (_:foldMM mx k a vs=some v) (w:World),
  (List.foldlM (m:=Sem) (if mx then Builtin.max2 else Builtin.min2) (.int k a) (vs.map V1.enc)).run P w=.ok v.enc w
 | [],a,v,h,w=>by simp only [foldMM,intV,Option.some.injEq] at h;subst h;simp [TV.enc,V1.enc,Lf.enc]
 | .lf (.int k' b) :: r,a,v,h,w=>by
  simp only [foldMM] at h
  split at h
  ·rename_i hk
   have:=isK_ok hk
   subst this
   cases mx
   ·simp only [Bool.false_eq_true,if_false,List.map_cons,List.foldlM_cons,V1.enc,Lf.enc,Builtin.min2,Sem.run_bind,Sem.run_pure,Result.andThen_ok]
    exact foldMM_ok (mx:=false) h w
   ·simp only [if_true,List.map_cons,List.foldlM_cons,V1.enc,Lf.enc,Builtin.max2,Sem.run_bind,Sem.run_pure,Result.andThen_ok]
    exact foldMM_ok (mx:=true) h w
  ·cases h
 | .lf (.bool _) :: _,_,_,h,_=>by simp [foldMM] at h
 | .lf (.ptr _) :: _,_,_,h,_=>by simp [foldMM] at h
 | .lf (.sl _) :: _,_,_,h,_=>by simp [foldMM] at h
 | .lf (.str _) :: _,_,_,h,_=>by simp [foldMM] at h
 | .lf (.fn _) :: _,_,_,h,_=>by simp [foldMM] at h
 | .agg _ :: _,_,_,h,_=>by simp [foldMM] at h
theorem innates_ok {b:Builtin} {vs:List V1} {ts:Array TypeId} {v:TV} (h:builtinV b vs=some v) (hb:builtinOk P b ts vs=true) (t:TypeId) (cs:Array Bool) (w:World) :
  (builtin b ts t cs (vs.map V1.enc).toArray).run P w=.ok (.value v.enc) w:=by
 unfold builtinV at h
 split at h
 ·rename_i x
  split at h
  ·rename_i n hn
   simp only [intV,Option.some.injEq] at h
   subst h
   simp only [builtinOk] at hb
   split at hb
   ·rename_i t0 s ht0 hx
    cases hx
    cases hn
    split at hb
    ·rename_i u hu
     obtain ⟨x,c,hx,_⟩:=s.enc_len
     simp [builtin,Builtin.len_,ht0,V1.enc,Lf.enc,hx,run_underlying hu,TV.enc,goInt]
    ·cases hb
   ·rename_i t0 s ht0 hx
    cases hx
    cases hn
    split at hb
    ·rename_i hu
     simp [builtin,Builtin.len_,ht0,V1.enc,Lf.enc,run_underlying hu,TV.enc,goInt]
    ·cases hb
   ·cases hb
  ·cases h
 ·rename_i s
  simp only [intV,Option.some.injEq] at h
  subst h
  simp only [builtinOk] at hb
  split at hb
  ·rename_i t0 s ht0 hx
   cases hx
   split at hb
   ·rename_i u hu
    obtain ⟨x,c,hx,_,hcp,_⟩:=s.enc_len
    simp [builtin,Builtin.cap_,ht0,V1.enc,Lf.enc,hx,hcp,run_underlying hu,TV.enc,goInt]
   ·cases hb
  ·rename_i hx;cases hx
  ·cases hb
 ·rename_i k a r
  simp only [builtin,Builtin.max_,List.map_cons,V1.enc,Lf.enc]
  have:=foldMM_ok (P:=P) h w
  simp only [if_true] at this
  simp [this]
 ·rename_i k a r
  simp only [builtin,Builtin.min_,List.map_cons,V1.enc,Lf.enc]
  have:=foldMM_ok (P:=P) h w
  simp only [Bool.false_eq_true,if_false] at this
  simp [this]
 ·cases h
section
variable {e : Env} {a : Act} {c : Ctx}
theorem arr_map {α β:Type} (xs:Array α) (f:α→β):xs.map f=(xs.toList.map f).toArray:=by
 exact (Array.toArray_toList (xs:=xs.map f)).symm.trans (congrArg List.toArray Array.toList_map)
theorem unV_ok {op:UnOp} {x:V1} {v:TV} (h:unV op x=some v) (w:World):(Op.unary op x.enc).run P w=.ok v.enc w:=by
 unfold unV at h
 split at h
 ·cases op<;>simp only [boolV,Option.some.injEq,reduceCtorEq] at h
  subst h
  simp [V1.enc,Lf.enc,Op.unary,TV.enc]
 ·cases op<;>simp only [intV,Option.some.injEq,reduceCtorEq] at h
  subst h
  simp [V1.enc,Lf.enc,Op.unary,Op.intArith,TV.enc]
 ·cases h
theorem fieldAt_ok {t:TypeId} {i:Nat} {f:Field} (hf:fieldOf P t i=some f) (hz:P.cellsOf f.type≠0) (p:Pt) (w:World) :
  (Instr.fieldAt t (.pointer (some p.addr)) i).run P w=.ok (.pointer (some ⟨p.b,p.o+f.offset,none⟩)) w:=by
 obtain ⟨fs,hu,hi⟩:=field_run hf
 unfold Instr.fieldAt
 simp only [Sem.run_bind,run_underlying hu,Result.andThen_ok,hi]
 simp only [Instr.sureAddr,Sem.run_bind,Sem.run_pure,Result.andThen_ok,fieldPlace,cells_info hz,Sem.run_ite,if_neg hz,Addr.add]
 split
 ·rename_i h0;simp [h0]
 ·rfl
theorem leafOf_run {t:TypeId} {ls:List Lf} {off:Nat} {v:V1} (h:partV P t ls off=some v) {d:TypeDesc} (hd:P.underlying t=some d) (w:World) :
  (part t (ls.map Lf.enc).toArray off).run P w=.ok v.enc w:=by
 unfold partV at h
 unfold part
 simp only [Sem.run_bind,isAgg_run P t hd,Result.andThen_ok,Sem.run_ite]
 split at h
 ·rename_i hg
  cases h
  simp only [hg,if_true,sizeOf_run hd,Result.andThen_ok,Sem.run_pure]
  simp [V1.enc,List.map_take,List.map_drop]
 ·rename_i hg
  simp only [hg,Bool.false_eq_true,if_false]
  split at h
  ·rename_i l hl
   cases h
   simp [hl,V1.enc]
  ·cases h
theorem ctx_pick (hA:Agr e a) (hc:Holds c a) {cn:Operand} {b:Bool} (h:evG e c cn=some (.one (.lf (.bool b)))):Holds (match isTmp cn with | true=>(slotOf cn,b) :: c | false=>c) a:=by
 cases cn with
 | tmp t =>
  simp only [isTmp,slotOf]
  refine holds_cons hc ?_
  have:=evG_ok hA hc h
  simp only [Act.eval,TV.enc,V1.enc,Lf.enc] at this
  have h2:a.tmps.getD t undef=.bool b:=this
  rw [Array.getD_eq_getD_getElem?] at h2
  cases hh:a.tmps[t]? with
  | none=>rw [hh] at h2;simp [undef] at h2
  | some z=>rw [hh] at h2;simp at h2;rw [h2]
 | const v=>exact hc
 | global g=>exact hc
 | func f=>exact hc
theorem pureV_ok (hA:Agr e a) (hc:Holds c a) {o:Oper} {v:TV} (h:pureV P e c o=some v) (w:World):(execOp a.eval o).run P w=.ok (.value v.enc) w:=by
 unfold pureV at h
 split at h
 ·rename_i x ho
  simp only [execOp,ho,Sem.run_pure]
  rw [evG_ok hA hc h]
 ·rename_i x ho
  simp only [execOp,ho,Sem.run_pure]
  rw [evG_ok hA hc h]
 · -- pick
  rename_i cn x y ho
  simp only [execOp,ho]
  split at h
  ·rename_i b hb
   rw [evG_ok hA hc hb]
   simp only [TV.enc,V1.enc,Lf.enc,asBool,Sem.run_bind,Sem.run_pure,Result.andThen_ok]
   have hctx:=ctx_pick hA hc hb
   split at h
   ·rename_i p q hp hq
    simp only [boolV,Option.some.injEq] at h
    subst h
    cases b with
    | true=>simp only [if_true];rw [evG_ok hA hctx hp];rfl
    | false=>simp only [Bool.false_eq_true,if_false];rw [evG_ok hA hctx hq];rfl
   ·cases b with
    | true=>simp only [if_true];rw [evG_ok hA hctx h];rfl
    | false=>simp only [Bool.false_eq_true,if_false];rw [evG_ok hA hctx h];rfl
  ·cases h
 · -- build
  rename_i t ps ho
  simp only [execOp,ho]
  split at h
  ·rename_i z vs hz hv
   split at h
   ·rename_i hi
    split at h
    ·rename_i ls hl
     cases h
     have e1:=evParts_ok hA hc hv
     have e2:ps.map (fun x:Nat × Operand=>(x.1,a.eval x.2))=(vs.map fun x=>(x.1,x.2.enc)).toArray:=by
      rw [← e1];exact arr_map _ _
     have:=build_ok hz hi hl w
     rw [← e2] at this
     rw [Sem.run_bind,this]
     rfl
    ·cases h
   ·cases h
  ·cases h
 · -- binOp
  rename_i op t x y u ho
  simp only [execOp,ho]
  split at h
  ·rename_i p q hp hq
   rw [evG_ok hA hc hp,evG_ok hA hc hq]
   have:=binV_ok (P:=P) h x y w
   simp only [TV.enc] at this ⊢
   rw [Sem.run_bind,this]
   rfl
  ·cases h
 · -- unOp
  rename_i op t x ho
  simp only [execOp,ho]
  split at h
  ·rename_i p hp
   rw [evG_ok hA hc hp]
   simp only [TV.enc]
   rw [Sem.run_bind,unV_ok h]
   rfl
  ·cases h
 · -- convert
  rename_i src dst x ho
  simp only [execOp,ho]
  split at h
  ·rename_i k n hp
   rw [evG_ok hA hc hp]
   split at h
   ·rename_i k1 k2 hs hd
    simp only [intV,Option.some.injEq] at h
    subst h
    simp [TV.enc,V1.enc,Lf.enc,convert,run_underlying hs,run_underlying hd,Conv.intToInt]
   ·cases h
  ·cases h
 · -- makeFunc
  rename_i fn first cap ho
  simp only [execOp,ho]
  split at h
  ·rename_i p q hp hq
   cases h
   have e1:first.map a.eval=(p.map V1.enc).toArray:=by rw [← evs_ok hA hc hp];exact arr_map _ _
   have e2:cap.map a.eval=(q.map V1.enc).toArray:=by rw [← evs_ok hA hc hq];exact arr_map _ _
   simp [Instr.makeFunc,e1,e2,TV.enc,V1.enc,Lf.enc,Fv.enc]
  ·cases h
 · -- fieldAddr
  rename_i t x i ho
  simp only [execOp,ho]
  split at h
  ·rename_i p f hp hf
   rw [evG_ok hA hc hp]
   split at h
   ·cases h
   ·rename_i hz
    cases h
    have hz':P.cellsOf f.type≠0:=fun z=>by rw [z] at hz;cases hz
    simp only [TV.enc,V1.enc,Lf.enc,Option.map_some]
    rw [Sem.run_bind,fieldAt_ok hf hz' p w]
    rfl
  ·cases h
 · -- field
  rename_i t x i ho
  simp only [execOp,ho]
  split at h
  ·rename_i ls f hp hf
   rw [evG_ok hA hc hp]
   split at h
   ·rename_i hle
    obtain ⟨fs,hu,hi⟩:=field_run hf
    unfold toTV at h
    split at h
    ·rename_i u hv
     cases h
     obtain ⟨d,hd⟩:=Option.isSome_iff_exists.1 hle
     simp only [TV.enc]
     rw [Sem.run_bind,V1.enc,Instr.field]
     simp only [Sem.run_bind,run_underlying hu,Result.andThen_ok,hi,asAgg,Sem.run_pure,leafOf_run hv hd]
    ·cases h
   ·cases h
  ·cases h
 · -- index
  rename_i t x k n ho
  simp only [execOp,ho]
  split at h
  ·rename_i ls len el hp hu
   rw [evG_ok hA hc hp]
   split at h
   ·rename_i hd hel
    have hd:=of_decide_eq_true hd
    unfold toTV at h
    split at h
    ·rename_i u hv
     cases h
     obtain ⟨d,hdd⟩:=Option.isSome_iff_exists.1 hel
     simp only [TV.enc]
     rw [Sem.run_bind,V1.enc,Instr.index]
     simp only [Act.eval,asIntOf,Sem.run_bind,Sem.run_pure,Result.andThen_ok,run_underlying hu]
     simp [hd,sizeOf_run hdd,leafOf_run hv hdd]
    ·cases h
   ·cases h
  ·cases h
 · -- extract
  rename_i x i ho
  simp only [execOp,ho]
  split at h
  ·rename_i vs hp
   rw [evG_ok hA hc hp]
   unfold toTV at h
   split at h
   ·rename_i u hv
    cases h
    simp [TV.enc,Instr.extract,hv]
   ·cases h
  ·cases h
 · -- builtins
  rename_i cl ho
  simp only [execOp,ho]
  split at h
  ·rename_i b hb
   split at h
   ·rename_i vs hvs
    split at h
    ·rename_i hok
     have e1:cl.args.map a.eval=(vs.map V1.enc).toArray:=by rw [← evs_ok hA hc hvs];exact arr_map _ _
     simp only [resolve,hb,e1,Sem.run_bind,Sem.run_pure,Result.andThen_ok,invoke]
     exact innates_ok h hok _ _ w
    ·cases h
   ·cases h
  ·cases h
 ·cases h
end
end Go.X

namespace Go.X
variable {P : Program}
abbrev Fr (r:Option Nat):Fence:={ Fence.wide with round:=r }
theorem callsIn_fr {r:Option Nat} {n:Nat} {f:FuncId} {args:Array Value} {w:World} {R:Ending→World→Prop} (h:CallsIn Fence.wide n P f args w R):CallsIn (Fr r) n P f args w R:=h
theorem roundIn_fr {r:Option Nat} {n l:Nat} {f:FuncId} {tmps:Array Value} {as body:Code} {w:World} {R:Ending→World→Prop} (h:RoundIn Fence.wide n P l f tmps as body w R):RoundIn (Fr r) n P l f tmps as body w R:=h
theorem depth_fr {r:Option Nat} {p:Prop}:(Fr r).depth.isSome=true→p:=fun h=>by cases h
theorem setCells_run {w:World} {b:Nat}:∀ (ls:List Lf) (L:List Lf) (o k:Nat) (_:Blk w b L) (_:o+k+ls.length≤L.length),
  ∃ w',(storeCells ⟨b,o,none⟩ (ls.map Lf.enc) k).run P w=.ok () w'∧Ext (at1 b) w w'∧Blk w' b (splice L (o+k) ls)∧w'.heap.size=w.heap.size:=by
 intro ls
 induction ls generalizing w with
 | nil=>intro L o k hb hl;exact ⟨w,rfl,Ext.refl _ _,by simpa [splice] using hb,rfl⟩
 | cons l ls ih =>
  intro L o k hb hl
  simp only [List.length_cons] at hl
  have hcell:=cell_of_blk hb (o+k)
  have hfr:=frozen_of_blk hb (o+k)
  have hlk:o+k < L.length:=by omega
  have hsome:w.cell? ⟨b,o+k,none⟩=some (L[o+k]).enc:=by rw [hcell,List.getElem?_eq_getElem hlk];rfl
  have hone:l.enc.oneCell'=true:=by
   cases l with
   | sl s=>obtain ⟨x,c,hx,_⟩:=s.enc_len;simp [Lf.enc,hx,Value.oneCell']
   | fn f=>cases f<;>simp [Lf.enc,Fv.enc,Value.oneCell']
   | _=>simp [Lf.enc,Value.oneCell']
  have hadd:(⟨b,o,none⟩:Addr).add k=⟨b,o+k,none⟩:=by
   unfold Addr.add;split
   ·rename_i h0;subst h0;simp
   ·rfl
  have hrun:(store (⟨b,o+k,none⟩:Addr) l.enc).run P w=.ok () (w.setCell ⟨b,o+k,none⟩ l.enc):=by
   rw [run_store P w _ _ _ hone,hsome]
   simp [hfr]
  have hblk:Blk (w.setCell ⟨b,o+k,none⟩ l.enc) b (L.set (o+k) l):=by
   obtain ⟨T,hT⟩:=hb
   refine ⟨T,?_⟩
   simp [World.setCell,Array.getElem?_modify,hT,List.map_set]
  have hext:Ext (at1 b) w (w.setCell ⟨b,o+k,none⟩ l.enc):=by
   refine ⟨rfl,rfl,rfl,by simp [World.setCell],fun i hi hn=>RowKit.Below.heap_setCell _ _ _ _ hn,fun i hi=>?_⟩
   by_cases hib:i=b
   ·subst hib
    obtain ⟨T,hT⟩:=hb
    rw [hT] at hi
    cases hi
   ·rw [RowKit.Below.heap_setCell _ _ _ _ hib];exact hi
  have hsz:(w.setCell ⟨b,o+k,none⟩ l.enc).heap.size=w.heap.size:=by simp [World.setCell]
  obtain ⟨w',h1,h2,h3,h4⟩:=ih (L.set (o+k) l) o (k+1) hblk (by simp;omega)
  refine ⟨w',?_,hext.trans h2,?_,by rw [h4,hsz]⟩
  ·simp only [List.map_cons,storeCells,Sem.run_bind,hadd,hrun,Result.andThen_ok]
   exact h1
  ·rw [show o+(k+1)=o+k+1 by omega,set_splice _ _ _ _ (by simp;omega)] at h3
   exact h3
theorem ext_alloc (w:World) (o:Obj):Ext no1 w { w with heap:=w.heap.push o } :=
 ⟨rfl,rfl,rfl,by simp,fun k hk _=>RowKit.Below.heap_alloc w o k hk,fun k hk=>(RowKit.Below.heap_alloc w o k (Array.getElem?_eq_some_iff.1 hk).1).trans hk⟩
theorem blk_alloc (w:World) (ls:List Lf) (T:TypeId):Blk { w with heap:=w.heap.push (.cells (ls.map Lf.enc).toArray T) } w.heap.size ls:=⟨T,by simp⟩
theorem add_eq (b o k:Nat):(⟨b,o,none⟩:Addr).add k=⟨b,o+k,none⟩:=by
 unfold Addr.add;split
 ·rename_i h0;subst h0;simp
 ·rfl
theorem reads_cells {w:World} {b:Nat}:∀ {ls:List Lf} {o:Nat},Reads w b o ls→∀ j v,(ls.map Lf.enc)[j]?=some v→w.cell? ((⟨b,o,none⟩:Addr).add j)=some v
 | l :: ls,o,h,0,v,hv=>by
  simp at hv;subst hv
  rw [add_eq];exact h.1
 | l :: ls,o,h,j+1,v,hv=>by
  have:=reads_cells h.2 j v (by simpa using hv)
  rw [add_eq] at *
  rw [show o+(j+1)=o+1+j by omega]
  exact this
 | [],o,h,j,v,hv=>by simp at hv
theorem load_run {w:World} {b o:Nat} {ls:List Lf} (h:Reads w b o ls):(loadCells ⟨b,o,none⟩ ls.length).run P w=.ok (ls.map Lf.enc).toArray w:=by
 have:=run_loadCells_list (P:=P) w ⟨b,o,none⟩ (ls.map Lf.enc) (fun j v hj=>reads_cells h j v hj)
 simpa using this
theorem loadVar_lf {t:TypeId} {d:TypeDesc} (hd:P.underlying t=some d) (hg:isAggT P t=false) {w:World} {b o:Nat} {l:Lf} (h:Reads w b o [l]) :
  (loadVar t ⟨b,o,none⟩).run P w=.ok l.enc w:=by
 unfold loadVar
 simp only [Sem.run_bind,isAgg_run P t hd,Result.andThen_ok,hg,Bool.false_eq_true,if_false]
 simp [h.1]
theorem loadVar_agg {t:TypeId} {d:TypeDesc} (hd:P.underlying t=some d) (hg:isAggT P t=true) {w:World} {b o:Nat} {ls:List Lf} (hl:ls.length=P.cellsOf t) (h:Reads w b o ls) :
  (loadVar t ⟨b,o,none⟩).run P w=.ok (.agg (ls.map Lf.enc).toArray) w:=by
 unfold loadVar
 simp only [Sem.run_bind,isAgg_run P t hd,Result.andThen_ok,hg,if_true,sizeOf_run hd,← hl,load_run h,Sem.run_pure]
theorem Ks.len:∀ (cs:List CK) (x:Ks.T cs),(Ks.mk cs x).length=cs.length
 | [],_=>rfl
 | [_],_=>rfl
 | _ :: d :: r,x=>by simp only [Ks.mk,List.length_cons];rw [Ks.len (d :: r) x.2];rfl
theorem shT_lf {t:TypeId} {c:CK} (h:shT P t=some (.lf c)):isAggT P t=false∧∃ d,P.underlying t=some d:=by
 unfold shT at h
 split at h
 ·split at h
  ·split at h<;>cases h
  ·cases h
 ·rename_i hg
  refine ⟨by simpa using hg,?_⟩
  split at h
  ·rename_i c hc
   unfold kind1 at hc
   split at hc<;>first | exact ⟨_,by assumption⟩ | cases hc
  ·cases h
theorem shT_agg {t:TypeId} {cs:List CK} (h:shT P t=some (.agg cs)):isAggT P t=true∧(∃ d,P.underlying t=some d)∧cs.length=P.cellsOf t:=by
 unfold shT at h
 split at h
 ·rename_i hg
  split at h
  ·split at h
   ·cases h
    refine ⟨hg,?_,by assumption⟩
    unfold isAggT at hg
    split at hg<;>first | exact ⟨_,by assumption⟩ | cases hg
   ·cases h
  ·cases h
 ·split at h<;>cases h
section
variable {e : Env} {a : Act} {c : Ctx} {w : World} {r : Option Nat} {n0 : Nat} {K' : Act → World → Prop} {Q : Exit → Act → World → Prop}
def Goes (P:Program) (r:Option Nat) (a:Act) (o:Oper) (w:World) (K:TV→WP):Prop :=
 ∀ (K':Act→World→Prop) (Q:Exit→Act→World→Prop),(∀ v w',Dfr w w'→K v w'→K' (a.put o.dst v.enc) w')→o.wpIn (Fr r) 0 P a w K' Q
theorem goes_val {o:Oper} {K:TV→WP} {v:TV} {w':World} (hnd:∀ x,o.op≠.defer x) (h:(execOp a.eval o).run P w=.ok (.value v.enc) w') (hd:Dfr w w') (hk:K v w'):Goes P r a o w K:=by
 intro K' Q hK
 refine ⟨fun f _=>trivial,?_⟩
 rw [Oper.semAt_eq _ _ _ hnd,h]
 exact hK v w' hd hk
theorem goes_skip {o:Oper} {K:TV→WP} {w':World} (hnd:∀ x,o.op≠.defer x) (h:(execOp a.eval o).run P w=.ok .skip w') (hd:Dfr w w') (hk:K und w'):Goes P r a o w K:=by
 intro K' Q hK
 refine ⟨fun f _=>trivial,?_⟩
 rw [Oper.semAt_eq _ _ _ hnd,h]
 exact hK und w' hd hk
theorem callFunc_run {f:FuncId} (h:ent P f=true) (args:Array Value) (w:World):(callFunc f args).run P w=.ok (.enter f args) w:=by
 unfold ent at h
 unfold callFunc
 simp only [Sem.run_bind,run_program,Result.andThen_ok]
 split at h
 ·rename_i fn hf
  simp only [Bool.and_eq_true,bne_iff_ne,ne_eq] at h
  have hb:fn.body.isNone=false:=by cases hh:fn.body<;>simp [hh] at h ⊢
  simp [hf,h.1,hb]
 ·cases h
theorem goes_call {o:Oper} {K:TV→WP} {f:FuncId} {args:List Value} (hnd:∀ x,o.op≠.defer x) (h:(execOp a.eval o).run P w=(callFunc f args.toArray).run P w)
  (hk:CallX P f args w fun v w'=>∃ u:TV,v=u.enc∧Dfr w w'∧K u w'):Goes P r a o w K:=by
 rcases hk with hk | ⟨v,w',hv,u,rfl,hd,hku⟩
 ·rw [callFunc_run hk.1] at h
  intro K' Q hK
  refine ⟨fun f _=>trivial,?_⟩
  rw [Oper.semAt_eq _ _ _ hnd,h]
  refine ⟨depth_fr,callsIn_fr (hk.2.mono ?_)⟩
  rintro e w' ⟨v,rfl,u,rfl,hd,hku⟩
  exact hK u w' hd hku
 ·exact goes_val hnd (h.trans hv) hd hku
end
end Go.X

namespace Go.X
variable {P : Program}
section
variable {e : Env} {a : Act} {c : Ctx} {w : World} {r : Option Nat}
theorem resS_ok {o:Oper} {K:TV→WP} {f:FuncId} {vs:List V1} {t:TypeId} (hnd:∀ x,o.op≠.defer x) (hrun:(execOp a.eval o).run P w=(callFunc f (vs.map V1.enc).toArray).run P w)
  (h:resS P f vs t K w):Goes P r a o w K:=by
 unfold resS at h
 cases hrs:shsT P t with
 | none=>rw [hrs] at h;exact h.elim
 | some rs =>
  rw [hrs] at h
  exact goes_call hnd hrun (CallX.mono h fun v w' ⟨x,hv,hd,hk⟩=>⟨_,hv,hd,hk⟩)
theorem resVS_ok {o:Oper} {K:TV→WP} {f:Fv} {vs:List V1} {t:TypeId} {x:Operand} {ts:Array TypeId} {as:Array Operand} (ho:o.op=.call ⟨.value x,as,ts⟩) (hx:a.eval x=f.enc)
  (has:as.map a.eval=(vs.map V1.enc).toArray) (h:resVS P f vs t K w):Goes P r a o w K:=by
 have hnd:∀ x,o.op≠.defer x:=by rw [ho];intro x;simp
 unfold resVS at h
 cases hrs:shsT P t with
 | none=>rw [hrs] at h;exact h.elim
 | some rs =>
  rw [hrs] at h
  cases f with
  | nil=>exact h.elim
  | mk fn first cap =>
   cases fn with
   | func g =>
    refine goes_call (args:=first++vs.map V1.enc++cap) hnd ?_ (CallX.mono (.enters h) fun v w' ⟨x,hv,hd,hk⟩=>⟨_,hv,hd,hk⟩)
    simp [execOp,ho,resolve,hx,has,Fv.enc,Deferred.ofValue,invoke]
   | yield l =>
    cases first with
    | cons z zs=>exact h.elim
    | nil =>
     obtain ⟨fn,tmps,asg,body,hy,hr⟩:=h
     intro K' Q hK
     refine ⟨fun f _=>trivial,?_⟩
     rw [Oper.semAt_eq _ _ _ hnd]
     have:(execOp a.eval o).run P w=.ok (.round l fn tmps asg body) w:=by
      simp [execOp,ho,resolve,hx,has,Fv.enc,Deferred.ofValue,invoke,hy]
     rw [this]
     refine ⟨depth_fr,roundIn_fr (hr.mono ?_)⟩
     rintro e w' ⟨v,rfl,u,rfl,hd,hku⟩
     exact hK _ w' hd hku
   | method n=>exact h.elim
   | methodOf t n=>exact h.elim
   | via t p f q=>exact h.elim
theorem div_run {op:BinOp} {k:IntKind} {x y:Int} {t:TypeId} (hy:y≠0) (w:World) :
  (op=.quo→(binOp op t (.int k x) (.int k y)).run P w=.ok (.int k (k.wrap (x.tdiv y))) w)∧(op=.rem→(binOp op t (.int k x) (.int k y)).run P w=.ok (.int k (x.tmod y)) w):=by
 constructor<;>intro h<;>subst h<;>simp [binOp,Op.intDiv,hy]
theorem shift_run {op:BinOp} {k k':IntKind} {x y:Int} {t:TypeId} (hy:0≤y) (w:World) :
  (op=.shl→(binOp op t (.int k x) (.int k' y)).run P w=.ok (.int k (k.wrap (x * 2^min y.toNat k.bits))) w)∧(op=.shr→(binOp op t (.int k x) (.int k' y)).run P w=.ok (.int k (x.fdiv (2^min y.toNat k.bits))) w):=by
 have:¬ y < 0:=by omega
 constructor<;>intro h<;>subst h<;>simp [binOp,Op.shift,this]
theorem nonZero_ok {x:Operand} {k:IntKind} {n:Int} (h:nonZero x=true) (hx:a.eval x=.int k n):n≠0:=by
 unfold nonZero at h
 split at h
 ·rename_i k' m
  simp only [Act.eval,Value.int.injEq] at hx
  obtain ⟨_,rfl⟩:=hx
  split at h
  ·cases h
  ·rename_i hd;exact of_decide_eq_false hd
 ·cases h
theorem divS_ok {o:Oper} {K:TV→WP} {op:BinOp} {t u:TypeId} {x y:Operand} {k k':IntKind} {p q:Int} (ho:o.op=.binOp op t x y u) (hx:a.eval x=.int k p) (hy:a.eval y=.int k' q)
  (hk:op=.shl∨op=.shr∨k=k') (h:divS op y k p q K w):Goes P r a o w K:=by
 have hnd:∀ x,o.op≠.defer x:=by rw [ho];intro x;simp
 have hrun:∀ v,(binOp op t (.int k p) (.int k' q)).run P w=.ok v w→(execOp a.eval o).run P w=.ok (.value v) w:=by
  intro v hv
  have hg:=eqGuard_leaf (P:=P) op t x y (.int k p) (.int k' q) w
  simp only [Lf.enc] at hg
  simp only [execOp,ho,hx,hy]
  rw [Sem.run_bind,Sem.run_bind,hg]
  simp [hv]
 cases op with
 | quo =>
  have e:k=k':=by rcases hk with hk | hk | hk;cases hk;cases hk;exact hk
  subst e
  simp only [divS] at h
  cases hz:nonZero y with
  | true=>rw [hz] at h;exact goes_val (v:=.one (.lf (.int k _))) hnd (hrun _ ((div_run (nonZero_ok hz hy) w).1 rfl)) (Dfr.refl w) h
  | false=>rw [hz] at h;exact goes_val (v:=.one (.lf (.int k _))) hnd (hrun _ ((div_run h.1 w).1 rfl)) (Dfr.refl w) h.2
 | rem =>
  have e:k=k':=by rcases hk with hk | hk | hk;cases hk;cases hk;exact hk
  subst e
  simp only [divS] at h
  cases hz:nonZero y with
  | true=>rw [hz] at h;exact goes_val (v:=.one (.lf (.int k _))) hnd (hrun _ ((div_run (nonZero_ok hz hy) w).2 rfl)) (Dfr.refl w) h
  | false=>rw [hz] at h;exact goes_val (v:=.one (.lf (.int k _))) hnd (hrun _ ((div_run h.1 w).2 rfl)) (Dfr.refl w) h.2
 | shl=>exact goes_val (v:=.one (.lf (.int k _))) hnd (hrun _ ((shift_run h.1 w).1 rfl)) (Dfr.refl w) h.2
 | shr=>exact goes_val (v:=.one (.lf (.int k _))) hnd (hrun _ ((shift_run h.1 w).2 rfl)) (Dfr.refl w) h.2
 | _=>exact h.elim
theorem arrT_ok {t el:TypeId} {n:Nat} (h:arrT P t=some (n,el)):P.underlying t=some (.array n el):=by
 unfold arrT at h
 split at h
 ·rename_i hu;cases h;exact hu
 ·cases h
theorem elemT_ok {t el:TypeId} (h:elemT P t=some el):P.underlying t=some (.slice el):=by
 unfold elemT at h
 split at h
 ·rename_i e hu;cases h;exact hu
 ·cases h
end
end Go.X

namespace Go.X
variable {P : Program}
theorem rep_range {z:List Value} {m:Nat} (hm:z.length=m) (h0:0 < m):∀ n,(List.range (n * m)).map (fun i=>z.toArray[i % m]!)=(List.replicate n z).flatten
 | 0=>by simp
 | n+1=>by
  have e:(n+1) * m=m+n * m:=by rw [Nat.add_mul,Nat.one_mul,Nat.add_comm]
  rw [e,List.range_add,List.map_append,List.map_map]
  have h1:(List.range m).map (fun i=>z.toArray[i % m]!)=z:=by
   apply List.ext_getElem (by simp [hm])
   intro i h1 h2
   simp only [List.getElem_map,List.getElem_range]
   have hi:i < m:=by simpa using h1
   rw [Nat.mod_eq_of_lt hi]
   simp [hm,hi]
  have h2:(fun i=>z.toArray[i % m]!) ∘ (fun x=>m+x)=fun i=>z.toArray[i % m]!:=by
   funext i;simp
  rw [h1,h2,rep_range hm h0 n]
  simp [List.replicate_succ]
theorem rep_map (n:Nat) (z:List Lf):(rep n z).map Lf.enc=(List.replicate n (z.map Lf.enc)).flatten:=by
 unfold rep
 rw [List.map_flatten,List.map_replicate]
theorem rep_length (n:Nat) (z:List Lf):(rep n z).length=n * z.length:=by
 unfold rep;simp
theorem zeroCells_eq {z:List Lf} {m:Nat} (hm:z.length=m) (h0:0 < m) (n:Nat):(Array.range (n * m)).map (fun i=>((z.map Lf.enc).toArray)[i % m]!)=((rep n z).map Lf.enc).toArray:=by
 rw [rep_map,← rep_range (z:=z.map Lf.enc) (m:=m) (by simpa using hm) h0 n]
 rw [arr_map]
 simp
theorem zeroCells_eq' {z:List Lf} {m:Nat} (hm:z.length=m) (h0:0 < m) (n:Nat):Builtin.zeroCells (z.map Lf.enc).toArray n=((rep n z).map Lf.enc).toArray:=by
 unfold Builtin.zeroCells
 simp only [List.size_toArray,List.length_map,hm]
 exact zeroCells_eq hm h0 n
theorem growBy_le (n:Nat):∀ r c,Builtin.growBy n r c≤2^r * (c+768)
 | 0,c=>by simp [Builtin.growBy]
 | r+1,c=>by
  simp only [Builtin.growBy]
  split
  ·have:1≤2^(r+1):=Nat.one_le_two_pow
   calc c≤1 * (c+768):=by omega
    _≤2^(r+1) * (c+768):=Nat.mul_le_mul_right _ this
  ·have:=growBy_le n r (c+(c+768) / 4)
   have h2:c+(c+768) / 4+768≤2 * (c+768):=by omega
   calc Builtin.growBy n r (c+(c+768) / 4)≤2^r * (c+(c+768) / 4+768):=this
    _≤2^r * (2 * (c+768)):=Nat.mul_le_mul_left _ h2
    _=2^(r+1) * (c+768):=by rw [Nat.pow_succ,Nat.mul_assoc]
theorem nextcap_le {need cap:Nat} (h:cap < need) (hn:need≤4294967296):Builtin.nextslicecap need cap≤68719493120:=by
 have hc:cap≤4294967296:=by omega
 have hg:Builtin.growBy need 4 cap≤68719493120 :=
  Nat.le_trans (growBy_le need 4 cap) (Nat.le_trans (Nat.mul_le_mul_left (2^4) (Nat.add_le_add_right hc 768)) (by decide))
 unfold Builtin.nextslicecap
 split
 ·exact Nat.le_trans hn (by decide)
 ·split
  ·exact Nat.le_trans (Nat.mul_le_mul_left 2 hc) (by decide)
  ·exact hg
theorem firstCells_rd {w:World} {s:Sl} {sz:Nat} {M:List Lf} (h:SlRd w s sz M):(Builtin.firstCells sz s.len (Lf.sl s).enc).run P w=.ok (M.map Lf.enc).toArray w:=by
 obtain ⟨hl,hn,hr⟩:=h
 simp only [Lf.enc]
 cases hp:s.p with
 | none =>
  have:M=[]:=by
   rw [hn hp] at hl
   simp at hl;exact hl
  obtain ⟨a,c,hx,_⟩:=s.enc_len
  rw [hx,hn hp]
  cases a with
  | none=>simp [Builtin.firstCells,this]
  | some a=>simp [Builtin.firstCells,this];rfl
 | some q =>
  rw [Sl.enc_p hp]
  simp only [Builtin.firstCells,← hl]
  exact load_run (hr q hp)
theorem SlOwn.rd {w:World} {s:Sl} {sz:Nat} {L:List Lf} (h:SlOwn w s sz L) (hz:s.p=none→s.len=0):SlRd w s sz L:=by
 rcases h with ⟨h1,h2,rfl⟩ | ⟨q,C,hp,hb,hle,hc,hC,hL,hi⟩
 ·exact ⟨by simp [h1],fun _=>h1,fun q _=>trivial⟩
 ·refine ⟨hL,hz,fun q' hq=>?_⟩
  rw [hp] at hq;cases hq
  exact hb.reads L q.o hi
theorem SlOwn.nil_len {w:World} {s:Sl} {sz:Nat} {L:List Lf} (h:SlOwn w s sz L):s.p=none→s.len=0:=by
 intro hp
 rcases h with ⟨h1,_,_⟩ | ⟨q,C,hq,_⟩
 ·exact h1
 ·rw [hp] at hq;cases hq
theorem SlOwn.norm {w:World} {s:Sl} {sz:Nat} {L:List Lf} (h:SlOwn w s sz L):s.enc=.slice (s.p.map Pt.addr) s.len s.cap:=by
 rcases h with ⟨_,h2,_⟩ | ⟨q,C,hp,_⟩
 ·exact Sl.enc_n (Sl.norm_c h2)
 ·exact Sl.enc_n (Sl.norm_p hp)
theorem SlOwn.read {w:World} {s:Sl} {sz:Nat} {L:List Lf} (h:SlOwn w s sz L):SlRd w s sz L:=h.rd h.nil_len
theorem splice_get {C M:List Lf} {o:Nat} (h:o+M.length≤C.length) (i:Nat):(splice C o M)[i]?=if i < o then C[i]? else if i < o+M.length then M[i - o]? else C[i]?:=by
 unfold splice
 rw [List.append_assoc,List.getElem?_append]
 simp only [List.length_take]
 rw [show min o C.length=o by omega]
 split
 ·rename_i h1;rw [List.getElem?_take,if_pos h1]
 ·rename_i h1
  rw [List.getElem?_append]
  split
  ·rename_i h2;rw [if_pos (by omega)]
  ·rename_i h2
   rw [if_neg (by omega),List.getElem?_drop]
   congr 1;omega
theorem append_run {w:World} {s x:Sl} {sz:Nat} {L M:List Lf} {ts:Array TypeId} {t ty el:TypeId} {ty2 el2:TypeId} {z:List Lf} (h0:ts[0]?=some ty) (h1:ts[1]?=some ty2)
  (hu:P.underlying ty=some (.slice el)) (hu2:P.underlying ty2=some (.slice el2)) (hz:zeroLs P el=some z) (hzl:z.length=sz) (hsz:P.cellsOf el=sz) (hpos:0 < sz) (hby:P.bytesOf el≤2048) (hby0:P.bytesOf el≠0)
  (hs:SlOwn w s sz L) (hx:SlRd w x sz M) (hlen:s.len+x.len≤4294967296) :
  ∃ w' s',(Builtin.append_ ts t #[(Lf.sl s).enc,(Lf.sl x).enc]).run P w=.ok (Lf.sl s').enc w'∧Ext s.own w w'∧SlOwn w' s' sz (L++M)∧s'.len=s.len+x.len∧(∀ k,s'.own k→s.own k∨w.heap.size≤k) ∧
   (s.cap < s.len+x.len→Ext no1 w w'∧∀ k,s'.own k→w.heap.size≤k)∧(s.len+x.len≤s.cap→s'=⟨s.p,s.len+x.len,s.cap⟩∧w'.heap.size=w.heap.size):=by
 have hi:(P.info? el).isSome=true:=by
  unfold Program.cellsOf at hsz
  cases hh:P.info? el with
  | none=>rw [hh] at hsz;simp at hsz;omega
  | some i=>rfl
 obtain ⟨i,hi⟩:=Option.isSome_iff_exists.1 hi
 have hbi:i.bytes=P.bytesOf el:=by simp [Program.bytesOf,hi]
 obtain ⟨ax,cx,hxe,_⟩:=x.enc_len
 have hse:=hs.norm
 have hxr:=firstCells_rd (P:=P) hx
 have hsr:=firstCells_rd (P:=P) hs.read
 have hsize:=cells_info (P:=P) (t:=el) (by omega) 
 by_cases hneed:s.len+x.len≤s.cap
 · -- in place
  have hplace:∃ w',((Option.map Pt.addr s.p).elim (pure ():Sem Unit) (fun a=>storeCells (a.add (s.len * sz)) (M.map Lf.enc))).run P w=.ok () w'∧Ext s.own w w'∧SlOwn w' ⟨s.p,s.len+x.len,s.cap⟩ sz (L++M)∧w'.heap.size=w.heap.size:=by
   rcases hs with ⟨e1,e2,rfl⟩ | ⟨q,C,hp,hb,hle,hc,hC,hL,hgi⟩
   ·have e3:x.len=0:=by omega
    have:M=[]:=by
     have:=hx.1
     rw [e3] at this
     simp at this;exact this
    subst this
    refine ⟨w,?_,Ext.refl _ _,.inl ⟨by simp;omega,e2,rfl⟩,rfl⟩
    cases s.p<;>simp [storeCells]
   ·have hlm:M.length=x.len * sz:=hx.1
    have hbound:q.o+s.len * sz+M.length≤C.length:=by
     have:(s.len+x.len) * sz≤s.cap * sz:=Nat.mul_le_mul_right _ hneed
     rw [Nat.add_mul] at this
     omega
    obtain ⟨w',r1,r2,r3,r4⟩:=setCells_run (P:=P) M C (q.o+s.len * sz) 0 hb (by simpa using hbound)
    refine ⟨w',?_,r2.mono (fun k _ hk=>⟨q,hp,hk,hc⟩),.inr ⟨q,_,hp,r3,hneed,hc,?_,?_,?_⟩,r4⟩
    ·simp only [hp,Option.map_some,Option.elim_some,add_eq]
     exact r1
    ·rw [Nat.add_zero,splice_length hbound];exact hC
    ·simp only [List.length_append,hL,hlm,Nat.add_mul]
    ·intro j hj
     simp only [List.length_append] at hj
     rw [Nat.add_zero,splice_get hbound,List.getElem?_append]
     by_cases hjl:j < L.length
     ·rw [if_pos (by omega),if_pos hjl];exact hgi j hjl
     ·rw [if_neg (by omega),if_pos (by omega),if_neg hjl]
      congr 1;omega
  obtain ⟨w',r1,r2,r3,r4⟩:=hplace
  refine ⟨w',⟨s.p,s.len+x.len,s.cap⟩,?_,r2,r3,rfl,fun k ⟨q,h1,h2,h3⟩=>.inl ⟨q,h1,h2,h3⟩,fun h=>by omega,fun _=>⟨rfl,r4⟩⟩
  have hst:(Builtin.append_ ts t #[(Lf.sl s).enc,(Lf.sl x).enc]).run P w=(((Option.map Pt.addr s.p).elim (pure ():Sem Unit) (fun a=>storeCells (a.add (s.len * sz)) (M.map Lf.enc))).run P w).andThen fun _ w'=>.ok (.slice (Option.map Pt.addr s.p) (s.len+x.len) s.cap) w':=by
   simp only [Lf.enc,hse,hxe] at hxr ⊢
   simp only [Builtin.append_,h0,h1,Sem.run_bind,run_underlying hu,run_underlying hu2,hsize,Result.andThen_ok,List.getElem?_toArray,List.getElem?_cons_zero,List.getElem?_cons_succ,Sem.run_pure,Builtin.lenOf,
    Bool.false_eq_true,if_false,Sem.run_ite,Bool.not_false,if_true,hneed,hsz,hxr]
   cases s.p<;>simp
  rw [hst,r1]
  show Result.ok _ _=Result.ok (Sl.enc _) _
  rw [r3.norm]
 · -- a new array
  have hlt:s.cap < s.len+x.len:=by omega
  have h63:¬ (((s.len+x.len:Nat):Int) > IntKind.i64.max∧(false=true∨i.bytes=0)):=fun hh=>by
   rcases hh.2 with h | h
   ·cases h
   ·exact hby0 (by rw [← hbi];exact h)
  have h48:¬ (Builtin.nextslicecap (s.len+x.len) s.cap * i.bytes > 2^48):=by
   have h1:=nextcap_le hlt hlen
   have h2:i.bytes≤2048:=by omega
   have h3:Builtin.nextslicecap (s.len+x.len) s.cap * i.bytes≤68719493120 * 2048:=Nat.mul_le_mul h1 h2
   have h4:(68719493120 * 2048:Nat)≤2^48:=by decide
   omega
  obtain ⟨nc,hnc,hge⟩:∃ nc,(Question.appendCap (s.len+x.len) s.cap el).cut (w.tape w.drawn (.appendCap (s.len+x.len) s.cap el))=nc∧s.len+x.len≤nc:=⟨_,rfl,by simp [Question.cut]⟩
  obtain ⟨w1,hw1⟩:∃ w1:World,w1={ w with drawn:=w.drawn+1 }:=⟨_,rfl⟩
  have hheap:w1.heap=w.heap:=by rw [hw1]
  have ext1:Ext no1 w w1:=by rw [hw1];exact ⟨rfl,rfl,rfl,Nat.le_refl _,fun _ _ _=>rfl,fun _ h=>h⟩
  have hx1:SlRd w1 x sz M:=⟨hx.1,hx.2.1,fun q hq=>by
   have:=hx.2.2 q hq
   clear hxr
   generalize q.o=o at this ⊢
   clear hx
   induction M generalizing o with
   | nil=>trivial
   | cons m M ih=>exact ⟨by rw [← this.1];simp [World.cell?,hheap],ih _ this.2⟩⟩
  have hs1:SlOwn w1 s sz L:=by
   rcases hs with h | ⟨q,C,a,⟨T,hb⟩,r⟩
   ·exact .inl h
   ·exact .inr ⟨q,C,a,⟨T,by rw [hheap];exact hb⟩,r⟩
  have hxr1:=firstCells_rd (P:=P) hx1
  have hsr1:=firstCells_rd (P:=P) hs1.read
  obtain ⟨zv,hzv,hzc⟩:=zero_run hz w1
  obtain ⟨cells,hcells⟩:∃ cells,cells=L++M++rep (nc - (s.len+x.len)) z:=⟨_,rfl⟩
  refine ⟨{ w1 with heap:=w1.heap.push (.cells (cells.map Lf.enc).toArray el) },⟨some ⟨w1.heap.size,0⟩,s.len+x.len,nc⟩,?_,ext1.trans' (ext_alloc w1 _) (fun k _ h=>h.elim) |>.mono (fun k _ h=>h.elim),.inr ⟨⟨w1.heap.size,0⟩,cells,rfl,blk_alloc w1 cells el,hge,?_,?_,?_,?_⟩,rfl,?_,fun _=>⟨ext1.trans (ext_alloc w1 _),?_⟩,fun h=>by omega⟩
  ·simp only [Lf.enc,hse,hxe] at hxr1 hsr1 ⊢
   simp only [Builtin.append_,h0,h1,Sem.run_bind,run_underlying hu,run_underlying hu2,hsize,Result.andThen_ok,List.getElem?_toArray,List.getElem?_cons_zero,List.getElem?_cons_succ,Sem.run_pure,Builtin.lenOf,
    Bool.false_eq_true,if_false,Sem.run_ite,Bool.not_false,if_true,hneed]
   simp only [typeInfo,Sem.run_bind,run_program,hi,Result.andThen_ok,Sem.run_pure,false_or]
   simp only [Bool.false_eq_true,false_or] at h63
   rw [if_neg h63,if_neg h48]
   simp only [Sem.run_bind,run_choose,Question.forced,Bool.false_eq_true,if_false,Result.andThen_ok,hnc,← hw1,run_askRoom,hsr1,hxr1,hsz,hzv,hzc,newRow,run_newObj,Sem.run_pure]
   rw [zeroCells_eq' hzl hpos,Sl.enc_p (s:=⟨some ⟨w1.heap.size,0⟩,_,_⟩) rfl]
   simp [hcells]
  ·show nc≠0
   omega
  ·simp only [hcells,List.length_append,rep_length,hs.read.1,hx.1,hzl,Nat.zero_add]
   have:nc * sz=s.len * sz+x.len * sz+(nc - (s.len+x.len)) * sz:=by
    rw [← Nat.add_mul,← Nat.add_mul]
    congr 1;omega
   omega
  ·simp only [List.length_append,hs.read.1,hx.1,Nat.add_mul]
  ·intro j hj
   rw [Nat.zero_add,hcells,List.getElem?_append,if_pos hj]
  ·rintro k ⟨q,h1,h2,_⟩
   cases h1
   exact .inr (by rw [h2,hheap];exact Nat.le_refl _)
  ·rintro k ⟨q,h1,h2,_⟩
   cases h1
   rw [h2,hheap];exact Nat.le_refl _
set_option linter.unusedSimpArgs false in
set_option linter.unusedVariables false in
theorem appendz_run {w:World} {s:Sl} {kx:IntKind} {nx:Int} {sz:Nat} {L:List Lf} {ts:Array TypeId} {t ty el:TypeId} {ty2:TypeId} {k2:IntKind} {z:List Lf} (h0:ts[0]?=some ty) (h1:ts[1]?=some ty2)
  (hu:P.underlying ty=some (.slice el)) (hu2:P.underlying ty2=some (.int k2)) (hz:zeroLs P el=some z) (hzl:z.length=sz) (hsz:P.cellsOf el=sz) (hpos:0 < sz) (hby:P.bytesOf el≤2048) (hby0:P.bytesOf el≠0)
  (hs:SlOwn w s sz L) (hx0:0≤nx) (hlen0:(s.len:Int)+nx≤4294967296) :
  ∃ w' s',(Builtin.append_ ts t #[(Lf.sl s).enc,Value.int kx nx]).run P w=.ok (Lf.sl s').enc w'∧Ext s.own w w'∧SlOwn w' s' sz (L++rep nx.toNat z)∧s'.len=s.len+nx.toNat∧(∀ k,s'.own k→s.own k∨w.heap.size≤k) ∧
   (s.cap < s.len+nx.toNat→Ext no1 w w'∧∀ k,s'.own k→w.heap.size≤k)∧(s.len+nx.toNat≤s.cap→s'=⟨s.p,s.len+nx.toNat,s.cap⟩∧w'.heap.size=w.heap.size):=by
 obtain ⟨xl,hxl⟩:∃ xl,xl=nx.toNat:=⟨_,rfl⟩
 obtain ⟨M,hM⟩:∃ M,M=rep xl z:=⟨_,rfl⟩
 have hMl:M.length=xl * sz:=by rw [hM,rep_length,hzl]
 have hlen:s.len+xl≤4294967296:=by omega
 rw [← hxl,← hM]
 have hw1':IntKind.i64.wrap nx=nx:=by simp [IntKind.wrap,IntKind.bits,IntKind.signed];omega
 have hi:(P.info? el).isSome=true:=by
  unfold Program.cellsOf at hsz
  cases hh:P.info? el with
  | none=>rw [hh] at hsz;simp at hsz;omega
  | some i=>rfl
 obtain ⟨i,hi⟩:=Option.isSome_iff_exists.1 hi
 have hbi:i.bytes=P.bytesOf el:=by simp [Program.bytesOf,hi]
 have hsr:=firstCells_rd (P:=P) hs.read
 have hsize:=cells_info (P:=P) (t:=el) (by omega) 
 have hbig:¬ nx * (i.bytes:Int) > 2^48:=by
  have h1:(i.bytes:Int)≤2048:=by omega
  have h2:nx * (i.bytes:Int)≤4294967296 * 2048:=Int.mul_le_mul (by omega) h1 (by omega) (by omega)
  have h3:(4294967296 * 2048:Int)≤2^48:=by decide
  omega
 obtain ⟨zv0,hzv0,hzc0⟩:=zero_run hz w
 by_cases hneed:s.len+xl≤s.cap
 · -- in place
  have hplace:∃ w',((Option.map Pt.addr s.p).elim (pure ():Sem Unit) (fun a=>storeCells (a.add (s.len * sz)) (M.map Lf.enc))).run P w=.ok () w'∧Ext s.own w w'∧SlOwn w' ⟨s.p,s.len+xl,s.cap⟩ sz (L++M)∧w'.heap.size=w.heap.size:=by
   rcases hs with ⟨e1,e2,rfl⟩ | ⟨q,C,hp,hb,hle,hc,hC,hL,hgi⟩
   ·have e3:xl=0:=by omega
    have:M=[]:=by
     have:=hMl
     rw [e3] at this
     simp at this;exact this
    subst this
    refine ⟨w,?_,Ext.refl _ _,.inl ⟨by simp;omega,e2,rfl⟩,rfl⟩
    cases s.p<;>simp [storeCells]
   ·have hlm:M.length=xl * sz:=hMl
    have hbound:q.o+s.len * sz+M.length≤C.length:=by
     have:(s.len+xl) * sz≤s.cap * sz:=Nat.mul_le_mul_right _ hneed
     rw [Nat.add_mul] at this
     omega
    obtain ⟨w',r1,r2,r3,r4⟩:=setCells_run (P:=P) M C (q.o+s.len * sz) 0 hb (by simpa using hbound)
    refine ⟨w',?_,r2.mono (fun k _ hk=>⟨q,hp,hk,hc⟩),.inr ⟨q,_,hp,r3,hneed,hc,?_,?_,?_⟩,r4⟩
    ·simp only [hp,Option.map_some,Option.elim_some,add_eq]
     exact r1
    ·rw [Nat.add_zero,splice_length hbound];exact hC
    ·simp only [List.length_append,hL,hlm,Nat.add_mul]
    ·intro j hj
     simp only [List.length_append] at hj
     rw [Nat.add_zero,splice_get hbound,List.getElem?_append]
     by_cases hjl:j < L.length
     ·rw [if_pos (by omega),if_pos hjl];exact hgi j hjl
     ·rw [if_neg (by omega),if_pos (by omega),if_neg hjl]
      congr 1;omega
  obtain ⟨w',r1,r2,r3,r4⟩:=hplace
  refine ⟨w',⟨s.p,s.len+xl,s.cap⟩,?_,r2,r3,rfl,fun k ⟨q,h1,h2,h3⟩=>.inl ⟨q,h1,h2,h3⟩,fun h=>by omega,fun _=>⟨rfl,r4⟩⟩
  have hst:(Builtin.append_ ts t #[(Lf.sl s).enc,Value.int kx nx]).run P w=(((Option.map Pt.addr s.p).elim (pure ():Sem Unit) (fun a=>storeCells (a.add (s.len * sz)) (M.map Lf.enc))).run P w).andThen fun _ w'=>.ok (.slice (Option.map Pt.addr s.p) (s.len+xl) s.cap) w':=by
   simp only [Lf.enc,hs.norm]
   simp only [Builtin.append_,h0,h1,Sem.run_bind,run_underlying hu,run_underlying hu2,hsize,Result.andThen_ok,List.getElem?_toArray,List.getElem?_cons_zero,List.getElem?_cons_succ,Sem.run_pure,if_true,asInt,asIntOf,hw1',Sem.run_ite,
    if_neg (show ¬ nx < 0 by omega),typeInfo,run_program,hi,if_neg hbig,← hxl,Bool.not_true,Bool.false_eq_true,if_false,hneed,hsz]
   by_cases h00:xl * sz=0
   ·have hM0:M=[]:=List.eq_nil_of_length_eq_zero (by rw [hMl];exact h00)
    simp only [if_pos h00,Sem.run_pure,Result.andThen_ok,hM0]
    cases s.p<;>simp
   ·simp only [if_neg h00,Sem.run_bind,hzv0,hzc0,Result.andThen_ok,Sem.run_pure]
    rw [zeroCells_eq' hzl hpos,← hM]
    cases s.p<;>simp
  rw [hst,r1]
  show Result.ok _ _=Result.ok (Sl.enc _) _
  rw [r3.norm]
 · -- a new array
  have hlt:s.cap < s.len+xl:=by omega
  have h48:¬ (Builtin.nextslicecap (s.len+xl) s.cap * i.bytes > 2^48):=by
   have h1:=nextcap_le hlt hlen
   have h2:i.bytes≤2048:=by omega
   have h3:Builtin.nextslicecap (s.len+xl) s.cap * i.bytes≤68719493120 * 2048:=Nat.mul_le_mul h1 h2
   have h4:(68719493120 * 2048:Nat)≤2^48:=by decide
   omega
  obtain ⟨nc,hnc,hge⟩:∃ nc,(Question.appendCap (s.len+xl) s.cap el).cut (w.tape w.drawn (.appendCap (s.len+xl) s.cap el))=nc∧s.len+xl≤nc:=⟨_,rfl,by simp [Question.cut]⟩
  obtain ⟨w1,hw1⟩:∃ w1:World,w1={ w with drawn:=w.drawn+1 }:=⟨_,rfl⟩
  have hheap:w1.heap=w.heap:=by rw [hw1]
  have ext1:Ext no1 w w1:=by rw [hw1];exact ⟨rfl,rfl,rfl,Nat.le_refl _,fun _ _ _=>rfl,fun _ h=>h⟩
  have hs1:SlOwn w1 s sz L:=by
   rcases hs with h | ⟨q,C,a,⟨T,hb⟩,r⟩
   ·exact .inl h
   ·exact .inr ⟨q,C,a,⟨T,by rw [hheap];exact hb⟩,r⟩
  have hsr1:=firstCells_rd (P:=P) hs1.read
  obtain ⟨zv,hzv,hzc⟩:=zero_run hz w1
  obtain ⟨cells,hcells⟩:∃ cells,cells=L++M++rep (nc - (s.len+xl)) z:=⟨_,rfl⟩
  refine ⟨{ w1 with heap:=w1.heap.push (.cells (cells.map Lf.enc).toArray el) },⟨some ⟨w1.heap.size,0⟩,s.len+xl,nc⟩,?_,ext1.trans' (ext_alloc w1 _) (fun k _ h=>h.elim) |>.mono (fun k _ h=>h.elim),.inr ⟨⟨w1.heap.size,0⟩,cells,rfl,blk_alloc w1 cells el,hge,?_,?_,?_,?_⟩,rfl,?_,fun _=>⟨ext1.trans (ext_alloc w1 _),?_⟩,fun h=>by omega⟩
  ·simp only [Lf.enc,hs.norm] at hsr1 ⊢
   have h63:¬ (((s.len+xl:Nat):Int) > IntKind.i64.max):=by
    have:IntKind.i64.max=9223372036854775807:=rfl
    rw [this];omega
   simp only [Builtin.append_,h0,h1,Sem.run_bind,run_underlying hu,run_underlying hu2,hsize,Result.andThen_ok,List.getElem?_toArray,List.getElem?_cons_zero,List.getElem?_cons_succ,Sem.run_pure,if_true,asInt,asIntOf,hw1',Sem.run_ite,
    if_neg (show ¬ nx < 0 by omega),typeInfo,run_program,hi,if_neg hbig,← hxl,Bool.not_true,Bool.false_eq_true,if_false,hneed,true_or,and_true,if_neg h63,if_neg h48]
   simp only [Sem.run_bind,run_choose,Question.forced,Bool.false_eq_true,if_false,Result.andThen_ok,hnc,← hw1,run_askRoom,hsr1,hsz,newRow,run_newObj,Sem.run_pure,Sem.run_ite]
   by_cases h00:xl * sz=0
   ·have hM0:M=[]:=List.eq_nil_of_length_eq_zero (by rw [hMl];exact h00)
    simp only [if_pos h00,Sem.run_pure,Result.andThen_ok,hzv,hzc]
    rw [zeroCells_eq' hzl hpos,Sl.enc_p (s:=⟨some ⟨w1.heap.size,0⟩,_,_⟩) rfl]
    simp [hcells,hM0]
   ·simp only [if_neg h00,Sem.run_bind,hzv,hzc,Result.andThen_ok,Sem.run_pure]
    rw [zeroCells_eq' hzl hpos,zeroCells_eq' hzl hpos,← hM,Sl.enc_p (s:=⟨some ⟨w1.heap.size,0⟩,_,_⟩) rfl]
    simp [hcells]
  ·show nc≠0
   omega
  ·simp only [hcells,List.length_append,rep_length,hs.read.1,hMl,hzl,Nat.zero_add]
   have:nc * sz=s.len * sz+xl * sz+(nc - (s.len+xl)) * sz:=by
    rw [← Nat.add_mul,← Nat.add_mul]
    congr 1;omega
   omega
  ·simp only [List.length_append,hs.read.1,hMl,Nat.add_mul]
  ·intro j hj
   rw [Nat.zero_add,hcells,List.getElem?_append,if_pos hj]
  ·rintro k ⟨q,h1,h2,_⟩
   cases h1
   exact .inr (by rw [h2,hheap];exact Nat.le_refl _)
  ·rintro k ⟨q,h1,h2,_⟩
   cases h1
   rw [h2,hheap];exact Nat.le_refl _
end Go.X

