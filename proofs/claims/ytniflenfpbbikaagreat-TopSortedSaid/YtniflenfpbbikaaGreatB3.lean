/- Contracts and plain facts: FqM FqC FqD FqE. -/
import Derived.Test.YtniflenfpbbikaaGreatB0
import Derived.Test.YtniflenfpbbikaaGreatB1
import Derived.Test.YtniflenfpbbikaaGreatB2
import Derived.Test.YtniflenfpbbikaaGreatK
import Derived.Test.YtniflenfpbbikaaGreatF0
import Derived.Test.YtniflenfpbbikaaGreatF1
import Derived.Test.YtniflenfpbbikaaGreatF2
set_option linter.unusedVariables false
set_option linter.unusedSimpArgs false
set_option linter.unusedSectionVars false
namespace Go.X
open Go.Proofs
namespace FqM
open Arith Lists _root_.Go.X.Tree TreeC TreeD
abbrev Sg:=Int × Int × Int × Int × Bool
abbrev Cf:=Int × Int × Int × Int × Int × Int × Bool × Int × Int
abbrev KC:Ks:=[.int .i64,.int .i64,.int .i64,.int .i64,.int .u64,.int .u64,.bool,.int .i64,.int .i64]
abbrev KS:Ks:=[.int .i64,.int .u64,.int .i64,.int .u64,.bool]
abbrev cQ (c:Cf):Int:=c.1
abbrev cF (c:Cf):Int:=c.2.1
abbrev cL (c:Cf):Int:=c.2.2.1
abbrev cW (c:Cf):Int:=c.2.2.2.1
abbrev cH (c:Cf):Int:=c.2.2.2.2.1
abbrev cR (c:Cf):Int:=c.2.2.2.2.2.1
abbrev cD (c:Cf):Bool:=c.2.2.2.2.2.2.1
abbrev cCap (c:Cf):Int:=c.2.2.2.2.2.2.2.1
abbrev cMss (c:Cf):Int:=c.2.2.2.2.2.2.2.2
abbrev sK (s:Sg):Int:=s.1
abbrev sFr (s:Sg):Int:=s.2.1
abbrev sLn (s:Sg):Int:=s.2.2.1
abbrev sSt (s:Sg):Int:=s.2.2.2.1
abbrev sAg (s:Sg):Bool:=s.2.2.2.2
def may (c:Cf):Bool:=decide (100≤cQ c∧cQ c≤65536) && (decide (100≤cF c∧cF c≤65536) && (decide (1≤cL c∧cL c≤512) && (decide (1≤cW c∧cW c≤512) && (decide (cH c≤4611686018427387904) && (decide (1≤cCap c∧cCap c≤1073741824) && decide (100≤cMss c∧cMss c≤9000))))))
structure OkC (c:Cf):Prop where
 q:100≤cQ c∧cQ c≤65536
 f:100≤cF c∧cF c≤65536
 l:1≤cL c∧cL c≤512
 w:1≤cW c∧cW c≤512
 h:0≤cH c∧cH c≤4611686018427387904
 r:U (cR c)
 cap:1≤cCap c∧cCap c≤1073741824
 mss:100≤cMss c∧cMss c≤9000
theorem may_ok {c:Cf} (h:may c=true) (h0:0≤cH c) (hr:U (cR c)):OkC c:=by
 simp only [may,Bool.and_eq_true,decide_eq_true_eq] at h
 exact ⟨h.1,h.2.1,h.2.2.1,h.2.2.2.1,⟨h0,h.2.2.2.2.1⟩,hr,h.2.2.2.2.2.1,h.2.2.2.2.2.2⟩
structure Fl where
 cr:Int
 nx:Int
 si:Int
 sg:List Sg
structure Qm where
 c:Cf
 fl:Nat→Option Fl
 lv:LV
 ks:List Key
 n:Int
structure OkS (s:Sg):Prop where
 fr:U (sFr s)
 ln:1≤sLn s∧sLn s≤65536
 st:U (sSt s)
structure OkF (i:Nat) (f:Fl):Prop where
 cr:-65536 < f.cr∧f.cr≤65536
 nx:U f.nx
 si:U f.si
 sg:∀ s∈f.sg,sK s=i∧OkS s
def timeF (f:Fl):Int:=match f.sg with
 | []=>f.nx
 | s :: _=>if sSt s > f.nx then sSt s else f.nx
def cnt (x:Option Fl):Int:=match x with
 | none=>0
 | some f=>f.sg.length
def tot (fl:Nat→Option Fl):Nat→Int
 | 0=>0
 | n+1=>tot fl n+cnt (fl n)
def inL (v:LV) (i:Nat):Prop:=(i:Int)∈v.1++v.2
structure OkQ (v:Qm):Prop where
 cf:OkC v.c
 lv:okL v.lv
 th:∀ i,inL v.lv i→∃ f,v.fl i=some f
 fl:∀ i f,v.fl i=some f→i < 8∧OkF i f
 ks:∀ k,k∈v.ks↔∃ (i:Nat) (f:Fl),v.fl i=some f∧f.sg≠[]∧¬ inL v.lv i∧k=(timeF f,(i:Int))
 srt:Srt v.ks
 n:v.n=tot v.fl 8
 le:v.n≤512
def upF (fl:Nat→Option Fl) (i:Nat) (x:Option Fl):Nat→Option Fl:=fun j=>if j=i then x else fl j
theorem upF_same (fl:Nat→Option Fl) (i:Nat) (x:Option Fl):upF fl i x i=x:=by simp [upF]
theorem upF_ne (fl:Nat→Option Fl) {i j:Nat} (x:Option Fl) (h:j≠i):upF fl i x j=fl j:=by simp [upF,h]
theorem cnt_nn (x:Option Fl):0≤cnt x:=by unfold cnt;split<;>omega
theorem tot_nn (fl:Nat→Option Fl):∀ n,0≤tot fl n
 | 0=>Int.le_refl 0
 | n+1=>by have:=tot_nn fl n;have:=cnt_nn (fl n);simp only [tot];omega
theorem tot_up (fl:Nat→Option Fl) (i:Nat) (x:Option Fl):∀ n,tot (upF fl i x) n=tot fl n+if i < n then cnt x - cnt (fl i) else 0
 | 0=>by simp [tot]
 | n+1=>by
  simp only [tot,tot_up fl i x n]
  by_cases h:n=i
  ·subst h;rw [upF_same];simp;omega
  ·rw [upF_ne _ _ h]
   by_cases h2:i < n
   ·rw [if_pos h2,if_pos (by omega)];omega
   ·rw [if_neg h2,if_neg (by omega)];omega
theorem tot_ge (fl:Nat→Option Fl):∀ {n i:Nat},i < n→cnt (fl i)≤tot fl n
 | n+1,i,h=>by
  have h1:=cnt_nn (fl n)
  have h2:=tot_nn fl n
  simp only [tot]
  by_cases e:i=n
  ·subst e;omega
  ·have:=tot_ge fl (n:=n) (i:=i) (by omega);omega
theorem OkQ.len {v:Qm} (h:OkQ v) {i:Nat} {f:Fl} (hf:v.fl i=some f):(f.sg.length:Int)≤v.n∧f.sg.length≤512:=by
 have h1:=tot_ge v.fl (h.fl i f hf).1
 have h2:=h.n
 have h3:=h.le
 rw [hf] at h1
 have h1:(f.sg.length:Int)≤tot v.fl 8:=h1
 omega
theorem OkQ.n0 {v:Qm} (h:OkQ v):0≤v.n:=by rw [h.n];exact tot_nn _ _
def plc (v:Qm) (i:Nat):Int:=if placeF v.lv i≠0 then placeF v.lv i else match v.fl i with
 | none=>0
 | some f=>if f.sg=[] then 0 else 3
theorem place_in {v:LV} {i:Nat}:placeF v i≠0↔inL v i:=by
 rw [ne_eq,placeF_0];unfold inL
 exact Decidable.not_not
theorem plc_0 {v:Qm} {i:Nat}:plc v i=0↔¬ inL v.lv i∧∀ f,v.fl i=some f→f.sg=[]:=by
 unfold plc
 split
 ·rename_i h
  have h2:=place_in.1 h
  exact ⟨fun e=>absurd e h,fun e=>absurd h2 e.1⟩
 ·rename_i h
  have h2:¬ inL v.lv i:=fun e=>h (place_in.2 e)
  cases hf:v.fl i with
  | none=>exact ⟨fun _=>⟨h2,fun f hh=>by cases hh⟩,fun _=>rfl⟩
  | some f =>
   simp only
   split
   ·rename_i h3;exact ⟨fun _=>⟨h2,fun g hg=>by cases hg;exact h3⟩,fun _=>rfl⟩
   ·rename_i h3;exact ⟨fun e=>(by cases e),fun e=>absurd (e.2 f rfl) h3⟩
theorem plc_3 {v:Qm} {i:Nat}:plc v i=3↔¬ inL v.lv i∧∃ f,v.fl i=some f∧f.sg≠[]:=by
 unfold plc
 split
 ·rename_i h
  have h2:=place_in.1 h
  refine ⟨fun e=>?_,fun e=>absurd h2 e.1⟩
  unfold placeF at e
  split at e
  ·cases e
  ·split at e<;>cases e
 ·rename_i h
  have h2:¬ inL v.lv i:=fun e=>h (place_in.2 e)
  cases hf:v.fl i with
  | none=>exact ⟨fun e=>(by cases e),fun ⟨_,f,hh,_⟩=>(by cases hh)⟩
  | some f =>
   simp only
   split
   ·rename_i h3;exact ⟨fun e=>(by cases e),fun ⟨_,g,hg,h4⟩=>by cases hg;exact absurd h3 h4⟩
   ·rename_i h3;exact ⟨fun _=>⟨h2,f,rfl,h3⟩,fun _=>rfl⟩
def idle (v:Qm) (i:Nat) (long now:Int):Bool:=match v.fl i with
 | none=>false
 | some f=>decide (plc v i=0) && decide (addI f.si long≤now)
abbrev collectF (v:Qm) (now:Int):Qm:={ v with fl:=fun i=>if idle v i 3000000000 now then none else v.fl i }
theorem idle_some {v:Qm} {i:Nat} {long now:Int} (h:idle v i long now=true):∃ f,v.fl i=some f∧f.sg=[]∧¬ inL v.lv i:=by
 unfold idle at h
 split at h
 ·cases h
 ·rename_i f hf
  rw [Bool.and_eq_true,decide_eq_true_eq] at h
  have:=plc_0.1 h.1
  exact ⟨f,hf,this.2 f hf,this.1⟩
theorem tot_ext {fl gl:Nat→Option Fl}:∀ n,(∀ i,i < n→cnt (fl i)=cnt (gl i))→tot fl n=tot gl n
 | 0,_=>rfl
 | n+1,h=>by simp only [tot,tot_ext n fun i hi=>h i (by omega),h n (by omega)]
theorem OkQ.collect {v:Qm} (h:OkQ v) (now:Int):OkQ (collectF v now) where
 cf:=h.cf
 lv:=h.lv
 th i hi:=by
  obtain ⟨f,hf⟩:=h.th i hi
  refine ⟨f,?_⟩
  show (if _ then _ else _)=_
  rw [if_neg,hf]
  intro e
  obtain ⟨_,_,_,h3⟩:=idle_some e
  exact h3 hi
 fl i f hf:=by
  have hf:(if idle v i 3000000000 now then none else v.fl i)=some f:=hf
  split at hf
  ·cases hf
  ·exact h.fl i f hf
 ks k:=by
  rw [show (collectF v now).ks=v.ks from rfl,h.ks]
  constructor
  ·rintro ⟨i,f,h1,h2,h3,h4⟩
   refine ⟨i,f,?_,h2,h3,h4⟩
   show (if _ then _ else _)=_
   rw [if_neg,h1]
   intro e
   obtain ⟨g,hg,h5,_⟩:=idle_some e
   rw [h1] at hg;cases hg
   exact h2 h5
  ·rintro ⟨i,f,h1,h2,h3,h4⟩
   have h1:(if idle v i 3000000000 now then none else v.fl i)=some f:=h1
   split at h1
   ·cases h1
   ·exact ⟨i,f,h1,h2,h3,h4⟩
 srt:=h.srt
 n:=by
  show v.n=_
  rw [h.n]
  refine tot_ext 8 fun i _=>?_
  show _=cnt (if _ then _ else _)
  split
  ·rename_i e
   obtain ⟨f,hf,h5,_⟩:=idle_some e
   rw [hf];simp [cnt,h5]
  ·rfl
 le:=h.le
def fateF (v:Qm) (s:Sg) (now:Int):Int :=
 if v.n ≥ cL v.c then 2
 else if (∃ f,v.fl (sK s).toNat=some f∧(f.sg.length:Int) ≥ cW v.c) then 3
 else if sSt s > addI now (cH v.c)∧cD v.c=true then 4 else 0
def drawn (v:Qm) (s:Sg) (now:Int):Sg:=(sK s,sFr s,sLn s,(if addI now (cH v.c) < sSt s then addI now (cH v.c) else sSt s),sAg s)
def woken (v:Qm) (i:Nat) (now:Int):Fl:=match v.fl i with
 | none=>⟨cF v.c,0,0,[]⟩
 | some f=>if plc v i≠0 then f else { f with cr:=if idle v i 40000000 now then (if cQ v.c > f.cr then cQ v.c else f.cr) else f.cr,si:=0 }
def wakeL (v:Qm) (i:Nat):LV:=if plc v i≠0 then v.lv else (pushF v.lv i true).2
abbrev wakeF (v:Qm) (i:Nat) (now:Int):Qm:={ v with fl:=upF v.fl i (some (woken v i now)),lv:=wakeL v i }
def addS (v:Qm) (i:Nat) (s:Sg):Qm:=match v.fl i with
 | none=>v
 | some f=>{ v with fl:=upF v.fl i (some { f with sg:=f.sg++[s] }),n:=v.n+1 }
def enqF (v:Qm) (s:Sg) (now:Int):(Int × Int) × Qm :=
 if ¬ (0≤sK s∧sK s≤7) then ((0,8),v)
 else if ¬ (1≤sLn s∧sLn s≤65536) then ((0,1),v)
 else if fateF (collectF v now) s now=0 then ((0,0),addS (wakeF (collectF v now) (sK s).toNat now) (sK s).toNat (drawn v s now))
 else ((fateF (collectF v now) s now,0),collectF v now)
theorem pushed {v:LV} {i:Nat} (hi:i < 8) (h:¬ inL v i):(pushF v i true)=(0,(v.1++[(i:Int)],v.2)):=by
 have hp:placeF v i=0:=by
  cases hh:decide (placeF v i=0) with
  | true=>exact of_decide_eq_true hh
  | false=>exact absurd (place_in.1 (of_decide_eq_false hh)) h
 rw [pushF,if_neg (by omega),if_neg (by rw [hp];simp),if_pos rfl]
theorem in_wake {v:Qm} {i j:Nat} (hi:i < 8):inL (wakeL v i) j↔inL v.lv j∨(j=i∧plc v i=0):=by
 unfold wakeL
 split
 ·rename_i h
  exact ⟨.inl,fun e=>e.elim id fun e=>absurd e.2 h⟩
 ·rename_i h
  have h0:plc v i=0:=by omega
  have hn:=(plc_0.1 h0).1
  rw [pushed hi hn]
  unfold inL
  simp only [List.mem_append,List.mem_singleton]
  constructor
  ·rintro ((h | h) | h)
   ·exact .inl (.inl h)
   ·exact .inr ⟨by omega,h0⟩
   ·exact .inl (.inr h)
  ·rintro ((h | h) | ⟨rfl,_⟩)
   ·exact .inl (.inl h)
   ·exact .inr h
   ·exact .inl (.inr rfl)
theorem okL_wake {v:Qm} {i:Nat} (h:okL v.lv):okL (wakeL v i):=by
 unfold wakeL;split
 ·exact h
 ·exact h.push _ _
theorem woken_sg (v:Qm) (i:Nat) (now:Int):(woken v i now).sg=match v.fl i with | none=>[] | some f=>f.sg:=by
 unfold woken
 cases v.fl i with
 | none=>rfl
 | some f=>simp only;split<;>rfl
theorem woken_ok {v:Qm} (h:OkQ v) (i:Nat) (now:Int):OkF i (woken v i now):=by
 unfold woken
 have hc:=h.cf
 cases hf:v.fl i with
 | none=>exact ⟨by have:=hc.f;simp only;omega,U_lit 0,U_lit 0,fun s hs=>by cases hs⟩
 | some f =>
  have hk:=(h.fl i f hf).2
  simp only
  split
  ·exact hk
  ·refine ⟨?_,hk.nx,U_lit 0,hk.sg⟩
   have h1:=hk.cr
   have h2:=hc.q
   simp only
   (repeat' split)<;>omega
theorem add_eq (v:Qm) (i:Nat) (now:Int) (s:Sg):addS (wakeF v i now) i s={ v with fl:=upF v.fl i (some { woken v i now with sg:=(woken v i now).sg++[s] }),lv:=wakeL v i,n:=v.n+1 }:=by
 unfold addS wakeF
 simp only [upF_same]
 congr 1
 funext j
 by_cases h:j=i
 ·rw [h,upF_same,upF_same]
 ·rw [upF_ne _ _ h,upF_ne _ _ h,upF_ne _ _ h]
theorem time_app {f:Fl} {s:Sg} (h:f.sg≠[]):timeF { f with sg:=f.sg++[s] }=timeF f:=by
 unfold timeF
 cases hs:f.sg with
 | nil=>exact absurd hs h
 | cons x l=>rfl
theorem OkQ.upd {v:Qm} (h:OkQ v) {i:Nat} (hi:i < 8) (x:Option Fl) (lv':LV) (ks':List Key) (n':Int) (hlv:okL lv') (hin:∀ j,j≠i→(inL lv' j↔inL v.lv j)) (hxi:inL lv' i→∃ f,x=some f) (hx:∀ f,x=some f→OkF i f)
  (hks:∀ k,k∈ks'↔(k∈v.ks∧k.2≠(i:Int))∨∃ f,x=some f∧f.sg≠[]∧¬ inL lv' i∧k=(timeF f,(i:Int))) (hsrt:Srt ks') (hn:n'=v.n+cnt x - cnt (v.fl i)) (hle:n'≤512) :
  OkQ { v with fl:=upF v.fl i x,lv:=lv',ks:=ks',n:=n' }:=by
 refine ⟨h.cf,hlv,fun j hj=>?_,fun j f hf=>?_,fun k=>?_,hsrt,?_,hle⟩
 ·have hj:inL lv' j:=hj
  show ∃ f,upF v.fl i x j=some f
  by_cases e:j=i
  ·subst e
   obtain ⟨f,hf⟩:=hxi hj
   exact ⟨f,(upF_same _ _ _).trans hf⟩
  ·obtain ⟨f,hf⟩:=h.th j ((hin j e).1 hj)
   exact ⟨f,(upF_ne _ _ e).trans hf⟩
 ·have hf:upF v.fl i x j=some f:=hf
  by_cases e:j=i
  ·subst e
   rw [upF_same] at hf
   exact ⟨hi,hx f hf⟩
  ·rw [upF_ne _ _ e] at hf
   exact h.fl j f hf
 ·show k∈ks'↔∃ (j:Nat) (f:Fl),upF v.fl i x j=some f∧f.sg≠[]∧¬ inL lv' j∧k=(timeF f,(j:Int))
  rw [hks,h.ks]
  constructor
  ·rintro (⟨⟨j,f,h1,h2,h3,h4⟩,h5⟩ | ⟨f,h1,h2,h3,h4⟩)
   ·have e:j≠i:=fun e=>h5 (by rw [h4,e])
    exact ⟨j,f,(upF_ne _ _ e).trans h1,h2,fun hh=>h3 ((hin j e).1 hh),h4⟩
   ·exact ⟨i,f,(upF_same _ _ _).trans h1,h2,h3,h4⟩
  ·rintro ⟨j,f,h1,h2,h3,h4⟩
   by_cases e:j=i
   ·subst e
    rw [upF_same] at h1
    exact .inr ⟨f,h1,h2,h3,h4⟩
   ·rw [upF_ne _ _ e] at h1
    exact .inl ⟨⟨j,f,h1,h2,fun hh=>h3 ((hin j e).2 hh),h4⟩,by rw [h4];intro hh;exact e (by have hh:(j:Int)=i:=hh;omega)⟩
 ·show n'=tot (upF v.fl i x) 8
  rw [tot_up,if_pos hi,hn,h.n];omega
theorem OkQ.key {v:Qm} (h:OkQ v) {i:Nat} {k:Key} (hk:k∈v.ks) (e:k.2=(i:Int)):∃ f,v.fl i=some f∧f.sg≠[]∧¬ inL v.lv i∧k=(timeF f,(i:Int)):=by
 obtain ⟨j,f,h1,h2,h3,h4⟩:=(h.ks k).1 hk
 have:j=i:=by rw [h4] at e;have e:(j:Int)=i:=e;omega
 subst this
 exact ⟨f,h1,h2,h3,h4⟩
theorem OkQ.same {v:Qm} (h:OkQ v) {i:Nat} {x:Option Fl} {lv':LV} (hs:∀ t,(∃ f,v.fl i=some f∧f.sg≠[]∧¬ inL v.lv i∧t=timeF f)↔∃ f,x=some f∧f.sg≠[]∧¬ inL lv' i∧t=timeF f) (k:Key) :
  k∈v.ks↔(k∈v.ks∧k.2≠(i:Int))∨∃ f,x=some f∧f.sg≠[]∧¬ inL lv' i∧k=(timeF f,(i:Int)):=by
 constructor
 ·intro hk
  by_cases e:k.2=(i:Int)
  ·right
   obtain ⟨f,h1,h2,h3,h4⟩:=h.key hk e
   obtain ⟨g,g1,g2,g3,g4⟩:=(hs (timeF f)).1 ⟨f,h1,h2,h3,rfl⟩
   exact ⟨g,g1,g2,g3,by rw [h4,g4]⟩
  ·exact .inl ⟨hk,e⟩
 ·rintro (hk | ⟨f,h1,h2,h3,h4⟩)
  ·exact hk.1
  ·obtain ⟨g,g1,g2,g3,g4⟩:=(hs (timeF f)).2 ⟨f,h1,h2,h3,rfl⟩
   rw [h.ks]
   exact ⟨i,g,g1,g2,g3,by rw [h4,g4]⟩
theorem OkQ.accept {v:Qm} (h:OkQ v) {i:Nat} (hi:i < 8) {s:Sg} (hk:sK s=i) (hs:OkS s) (now:Int) (hn:v.n < 512):OkQ (addS (wakeF v i now) i s):=by
 rw [add_eq]
 have hw:=woken_ok h i now
 have hsg:=woken_sg v i now
 refine h.upd hi _ _ _ _ (okL_wake h.lv) (fun j e=>?_) (fun _=>⟨_,rfl⟩) (fun f hf=>?_) (h.same fun t=>?_) h.srt ?_ (by omega)
 ·rw [in_wake hi]
  exact ⟨fun hh=>hh.elim id fun hh=>absurd hh.1 e,.inl⟩
 ·cases hf
  refine ⟨hw.cr,hw.nx,hw.si,fun x hx=>?_⟩
  rw [List.mem_append,List.mem_singleton] at hx
  rcases hx with hx | rfl
  ·exact hw.sg x hx
  ·exact ⟨hk,hs⟩
 ·constructor
  ·rintro ⟨f,h1,h2,h3,h4⟩
   have hp:plc v i=3:=plc_3.2 ⟨h3,f,h1,h2⟩
   have hwf:woken v i now=f:=by unfold woken;rw [h1];simp [hp]
   refine ⟨{ f with sg:=f.sg++[s] },by rw [hwf],by simp,fun hh=>?_,by rw [time_app h2];exact h4⟩
   rcases (in_wake hi).1 hh with hh | hh
   ·exact h3 hh
   ·rw [hp] at hh;cases hh.2
  ·rintro ⟨f,h1,h2,h3,h4⟩
   have h3:¬ (inL v.lv i∨(i=i∧plc v i=0)):=fun hh=>h3 ((in_wake hi).2 hh)
   have h5:plc v i≠0:=fun e=>h3 (.inr ⟨rfl,e⟩)
   have h6:¬ inL v.lv i:=fun e=>h3 (.inl e)
   have h7:∃ g,v.fl i=some g∧g.sg≠[]:=Classical.byContradiction fun hh=>h5 (plc_0.2 ⟨h6,fun g hg=>Classical.byContradiction fun h8=>hh ⟨g,hg,h8⟩⟩)
   obtain ⟨g,hg,hg2⟩:=h7
   have hwf:woken v i now=g:=by unfold woken;rw [hg];simp [h5]
   rw [hwf] at h1
   cases h1
   exact ⟨g,hg,hg2,h6,by rw [h4,time_app hg2]⟩
 ·have:cnt (some { woken v i now with sg:=(woken v i now).sg++[s] })=cnt (v.fl i)+1:=by
   show (((woken v i now).sg++[s]).length:Int)=_
   rw [hsg]
   cases v.fl i with
   | none=>rfl
   | some f=>simp [cnt]
  rw [this];omega
theorem drawn_ok {v:Qm} (h:OkQ v) {s:Sg} {now:Int} (hs:U (sFr s)∧U (sSt s)) (hl:1≤sLn s∧sLn s≤65536) (hn:U now):OkS (drawn v s now):=by
 have hH:U (cH v.c):=by have:=h.cf.h;unfold U;omega
 exact ⟨hs.1,hl,by show U (if _ then _ else _);split;exact U_add hn hH;exact hs.2⟩
theorem OkQ.enq {v:Qm} (h:OkQ v) {s:Sg} {now:Int} (hs:U (sFr s)∧U (sSt s)) (hn:U now):OkQ (enqF v s now).2:=by
 unfold enqF
 split
 ·exact h
 ·split
  ·exact h
  ·rename_i h1 h2
   have h1:0≤sK s∧sK s≤7:=Decidable.not_not.1 h1
   have h2:1≤sLn s∧sLn s≤65536:=Decidable.not_not.1 h2
   split
   ·rename_i h3
    have hc:=h.collect now
    refine hc.accept (by omega) (by show sK s=_;omega) (drawn_ok h hs h2 hn) now ?_
    unfold fateF at h3
    split at h3
    ·cases h3
    ·rename_i h4
     have:=hc.cf.l
     omega
   ·exact h.collect now
def dueK (v:Qm) (now:Int):List Key:=v.ks.takeWhile fun k=>decide (k.1≤now)
abbrev dueF (v:Qm) (now:Int):Qm:={ v with ks:=v.ks.dropWhile (fun k=>decide (k.1≤now)),lv:=(v.lv.1,v.lv.2++(dueK v now).map Prod.snd) }
def delayI (size rate:Int):Int:=if size < 1∨rate=18446744073709551615 then 0 else if 1000000000 < mdI size 1000000000 rate then 1000000000 else mdI size 1000000000 rate
def lessI (a b:Int):Int:=if (if a=0 then 18446744073709551615 else a) > (if b=0 then 18446744073709551615 else b) then (if b=0 then 18446744073709551615 else b) else (if a=0 then 18446744073709551615 else a)
def rateA (rates:List Int) (i:Nat):Int:=match rates[i]? with
 | some r=>r
 | none=>18446744073709551615
abbrev sentF (v:Qm) (i:Nat) (f:Fl) (s:Sg) (now rate:Int):Qm :=
 { v with fl:=upF v.fl i (some { f with cr:=f.cr - sLn s,nx:=addI now (delayI (sLn s) (lessI rate (cR v.c))),sg:=f.sg.tail }),n:=v.n - 1 }
def heads (now:Int) (rates:List Int):Nat→Qm→Option Sg × Qm
 | 0,v=>(none,v)
 | k+1,v=>match v.lv.1++v.lv.2,v.fl (headF v.lv).1.toNat with
  | [],_=>(none,v)
  | _ :: _,none=>(none,v)
  | _ :: _,some f =>
   if f.cr≤0 then heads now rates k { v with fl:=upF v.fl (headF v.lv).1.toNat (some { f with cr:=f.cr+cQ v.c }),lv:=(backF v.lv).2 }
   else match f.sg with
    | []=>if (headF v.lv).2.1=true∧v.lv.2≠[] then heads now rates k { v with lv:=(backF v.lv).2 }
     else heads now rates k { v with lv:=(dropF v.lv).2,fl:=upF v.fl (headF v.lv).1.toNat (some { f with si:=now }) }
    | s :: _=>if timeF f > now then heads now rates k { v with lv:=(dropF v.lv).2,ks:=putK v.ks (timeF f,(headF v.lv).1) }
     else (some s,sentF v (headF v.lv).1.toNat f s now (rateA rates (headF v.lv).1.toNat))
def crw (x:Option Fl):Nat:=match x with
 | none=>0
 | some f=>(1 - f.cr).toNat
def mu (v:Qm):Nat:=((v.lv.1++v.lv.2).map fun x=>crw (v.fl x.toNat)+1).sum+v.lv.1.length
def deqF (v:Qm) (now:Int) (rates:List Int):Option Sg × Qm:=heads now rates (mu (dueF v now)+1) (dueF v now)
def closeF (v:Qm) (i:Int):List Sg × Qm :=
 if ¬ (0≤i∧i≤7) then ([],v) else match v.fl i.toNat with
  | none=>([],v)
  | some f=>(f.sg,{ v with fl:=upF v.fl i.toNat none,lv:=outF v.lv i,ks:=if plc v i.toNat=3 then v.ks.erase (timeF f,i) else v.ks,n:=v.n - f.sg.length })
def setF (v:Qm) (c:Cf):Int × Qm:=if may c then (0,{ v with c:=c }) else (13,v)
abbrev newF (c:Cf):Qm:=⟨c,fun _=>none,([],[]),[],0⟩
theorem OkQ.new {c:Cf} (h:OkC c):OkQ (newF c) where
 cf:=h
 lv:=⟨by simp [newF],by simp [newF]⟩
 th i hi:=by simp [newF,inL] at hi
 fl i f hf:=by cases hf
 ks k:=by
  constructor
  ·intro hk;cases hk
  ·rintro ⟨i,f,h1,_⟩;cases h1
 srt:=List.Pairwise.nil
 n:=rfl
 le:=by show (0:Int)≤512;omega
theorem OkQ.set {v:Qm} (h:OkQ v) {c:Cf} (hc:0≤cH c∧U (cR c)):OkQ (setF v c).2:=by
 unfold setF
 split
 ·rename_i hm
  have h2:=may_ok hm hc.1 hc.2
  exact { h with cf:=h2 }
 ·exact h
theorem takeW_mem {ks:List Key} {now:Int}:∀ {k:Key},k∈ks.takeWhile (fun k=>decide (k.1≤now))→k∈ks∧k.1≤now:=by
 intro k hk
 exact ⟨List.takeWhile_subset _ hk,by
  induction ks with
  | nil=>simp at hk
  | cons x l ih =>
   rw [List.takeWhile_cons] at hk
   split at hk
   ·rename_i hx
    rw [List.mem_cons] at hk
    rcases hk with rfl | hk
    ·simpa using hx
    ·exact ih hk
   ·simp at hk⟩
theorem key_inj {v:Qm} (h:OkQ v) {a b:Key} (ha:a∈v.ks) (hb:b∈v.ks) (e:a.2=b.2):a=b:=by
 obtain ⟨i,f,h1,_,_,h4⟩:=(h.ks a).1 ha
 obtain ⟨j,g,g1,_,_,g4⟩:=(h.ks b).1 hb
 rw [h4,g4] at e
 have e:(i:Int)=j:=e
 have e:i=j:=by omega
 subst e
 rw [h1] at g1
 cases g1
 rw [h4,g4]
theorem nodup_map {ks:List Key} (hs:ks.Nodup) (hi:∀ a∈ks,∀ b∈ks,a.2=b.2→a=b):(ks.map Prod.snd).Nodup:=by
 induction ks with
 | nil=>exact List.nodup_nil
 | cons x l ih =>
  rw [List.nodup_cons] at hs
  rw [List.map_cons,List.nodup_cons]
  refine ⟨fun hx=>?_,ih hs.2 fun a ha b hb=>hi a (by simp [ha]) b (by simp [hb])⟩
  obtain ⟨y,hy,hxy⟩:=List.mem_map.1 hx
  have:=hi y (by simp [hy]) x (by simp) hxy
  exact hs.1 (this ▸ hy)
theorem OkQ.keys {v:Qm} (h:OkQ v):(v.ks.map Prod.snd).Nodup∧∀ x∈v.ks.map Prod.snd,(0≤x∧x < 8)∧x ∉ v.lv.1++v.lv.2:=by
 refine ⟨nodup_map h.srt.nodup fun a ha b hb=>key_inj h ha hb,fun x hx=>?_⟩
 obtain ⟨k,hk,rfl⟩:=List.mem_map.1 hx
 obtain ⟨i,f,h1,_,h3,h4⟩:=(h.ks k).1 hk
 rw [h4]
 have:=(h.fl i f h1).1
 exact ⟨by show 0≤(i:Int)∧(i:Int) < 8;omega,h3⟩
theorem OkQ.due {v:Qm} (h:OkQ v) (now:Int):OkQ (dueF v now):=by
 have hk:=h.keys
 have hsplit:v.ks=dueK v now++v.ks.dropWhile (fun k=>decide (k.1≤now)):=List.takeWhile_append_dropWhile.symm
 have hkm:=hk.1
 rw [hsplit,List.map_append,List.nodup_append] at hkm
 have hin:∀ i:Nat,inL (dueF v now).lv i↔inL v.lv i∨(i:Int)∈(dueK v now).map Prod.snd:=fun i=>by
  show (i:Int)∈v.lv.1++(v.lv.2++_)↔_
  unfold inL
  rw [List.mem_append,List.mem_append,List.mem_append,or_assoc]
 refine ⟨h.cf,?_,fun i hi=>?_,h.fl,fun k=>?_,?_,h.n,h.le⟩
 ·obtain ⟨hd,hr⟩:=h.lv
  constructor
  ·show (v.lv.1++(v.lv.2++(dueK v now).map Prod.snd)).Nodup
   rw [← List.append_assoc,List.nodup_append]
   refine ⟨hd,hkm.1,fun a ha b hb e=>?_⟩
   have:=(hk.2 b (by rw [hsplit,List.map_append,List.mem_append];exact .inl hb)).2
   exact this (e ▸ ha)
  ·intro x hx
   have hx:x∈v.lv.1++(v.lv.2++(dueK v now).map Prod.snd):=hx
   rw [← List.append_assoc,List.mem_append] at hx
   rcases hx with hx | hx
   ·exact hr x hx
   ·exact (hk.2 x (by rw [hsplit,List.map_append,List.mem_append];exact .inl hx)).1
 ·rcases (hin i).1 hi with hi | hi
  ·exact h.th i hi
  ·obtain ⟨k,hk2,he⟩:=List.mem_map.1 hi
   obtain ⟨f,hf,_⟩:=h.key (takeW_mem hk2).1 he
   exact ⟨f,hf⟩
 ·show k∈v.ks.dropWhile _↔∃ (i:Nat) (f:Fl),v.fl i=some f∧_
  constructor
  ·intro hkd
   have hkk:k∈v.ks:=by rw [hsplit,List.mem_append];exact .inr hkd
   obtain ⟨i,f,h1,h2,h3,h4⟩:=(h.ks k).1 hkk
   refine ⟨i,f,h1,h2,fun hh=>?_,h4⟩
   rcases (hin i).1 hh with hh | hh
   ·exact h3 hh
   ·exact hkm.2.2 _ hh _ (List.mem_map.2 ⟨k,hkd,by rw [h4]⟩) rfl
  ·rintro ⟨i,f,h1,h2,h3,h4⟩
   have hkk:k∈v.ks:=(h.ks k).2 ⟨i,f,h1,h2,fun hh=>h3 ((hin i).2 (.inl hh)),h4⟩
   rw [hsplit,List.mem_append] at hkk
   rcases hkk with hkk | hkk
   ·exact absurd ((hin i).2 (.inr (List.mem_map.2 ⟨k,hkk,by rw [h4]⟩))) h3
   ·exact hkk
 ·have:=h.srt
  rw [hsplit] at this
  exact (List.pairwise_append.1 this).2.1
theorem in_back {v:LV} (hv:okL v) (hh:(headF v).2.2=true) (j:Nat):inL (backF v).2 j↔inL v j:=by
 unfold backF
 rw [if_pos hh]
 unfold inL outF
 simp only [List.mem_append,List.mem_filter,List.mem_singleton,decide_eq_true_eq]
 have hm:=headF_mem hh
 rw [List.mem_append] at hm
 constructor
 ·rintro (h | h | h)
  ·exact .inl h.1
  ·exact .inr h.1
  ·rw [h];exact hm
 ·intro h
  by_cases e:(j:Int)=(headF v).1
  ·exact .inr (.inr e)
  ·rcases h with h | h
   ·exact .inl ⟨h,e⟩
   ·exact .inr (.inl ⟨h,e⟩)
theorem in_drop {v:LV} (hh:(headF v).2.2=true) (j:Nat):inL (dropF v).2 j↔inL v j∧(j:Int)≠(headF v).1:=by
 unfold dropF
 rw [if_pos hh]
 unfold inL outF
 simp only [List.mem_append,List.mem_filter,decide_eq_true_eq]
 exact ⟨fun h=>h.elim (fun h=>⟨.inl h.1,h.2⟩) fun h=>⟨.inr h.1,h.2⟩,fun h=>h.1.elim (fun x=>.inl ⟨x,h.2⟩) fun x=>.inr ⟨x,h.2⟩⟩
section
variable {v : Qm} {i : Nat} {f : Fl}
structure AtH (v:Qm) (i:Nat) (f:Fl):Prop where
 ok:OkQ v
 hd:(headF v.lv).1=(i:Int)
 is:(headF v.lv).2.2=true
 fl:v.fl i=some f
theorem AtH.lt (h:AtH v i f):i < 8:=(h.ok.fl i f h.fl).1
theorem AtH.inl (h:AtH v i f):inL v.lv i:=by
 have:=headF_mem h.is
 rw [h.hd] at this;exact this
theorem AtH.no {k:Key} (h:AtH v i f) (hk:k∈v.ks):k.2≠(i:Int):=fun e=>by
 obtain ⟨_,_,_,h3,_⟩:=h.ok.key hk e
 exact h3 h.inl
theorem AtH.credit (h:AtH v i f) (hc:f.cr≤0):OkQ { v with fl:=upF v.fl i (some { f with cr:=f.cr+cQ v.c }),lv:=(backF v.lv).2 }:=by
 have hf:=(h.ok.fl i f h.fl).2
 have hq:=h.ok.cf.q
 have h1:=hf.cr
 refine h.ok.upd h.lt _ _ _ v.n h.ok.lv.back (fun j _=>in_back h.ok.lv h.is j) (fun _=>⟨_,rfl⟩) (fun g hg=>?_) (h.ok.same fun t=>?_) h.ok.srt (by rw [h.fl];simp [cnt]) h.ok.le
 ·cases hg
  exact ⟨by show -65536 < f.cr+cQ v.c∧f.cr+cQ v.c≤65536;omega,hf.nx,hf.si,hf.sg⟩
 ·have a1:¬ ∃ g,v.fl i=some g∧g.sg≠[]∧¬ inL v.lv i∧t=timeF g:=fun ⟨_,_,_,h3,_⟩=>h3 h.inl
  exact ⟨fun hh=>absurd hh a1,fun ⟨_,_,_,h3,_⟩=>absurd ((in_back h.ok.lv h.is i).2 h.inl) h3⟩
theorem AtH.back (h:AtH v i f):OkQ { v with lv:=(backF v.lv).2 }:=by
 have:=h.ok.upd h.lt (v.fl i) (backF v.lv).2 v.ks v.n h.ok.lv.back (fun j _=>in_back h.ok.lv h.is j) (fun _=>⟨_,h.fl⟩) (fun g hg=>(h.ok.fl i g hg).2) (h.ok.same fun t=>?_) h.ok.srt (by omega) h.ok.le
 ·have e:upF v.fl i (v.fl i)=v.fl:=by
   funext j
   by_cases e:j=i
   ·rw [e,upF_same]
   ·rw [upF_ne _ _ e]
  rw [e] at this
  exact this
 ·have a1:¬ ∃ g,v.fl i=some g∧g.sg≠[]∧¬ inL v.lv i∧t=timeF g:=fun ⟨_,_,_,h3,_⟩=>h3 h.inl
  exact ⟨fun hh=>absurd hh a1,fun ⟨_,_,_,h3,_⟩=>absurd ((in_back h.ok.lv h.is i).2 h.inl) h3⟩
theorem AtH.nowhere (h:AtH v i f) (hs:f.sg=[]) {now:Int} (hn:U now):OkQ { v with lv:=(dropF v.lv).2,fl:=upF v.fl i (some { f with si:=now }) }:=by
 have hf:=(h.ok.fl i f h.fl).2
 have hd:=in_drop (v:=v.lv) h.is
 refine h.ok.upd h.lt (some { f with si:=now }) (dropF v.lv).2 v.ks v.n h.ok.lv.drop (fun j e=>?_) (fun _=>⟨_,rfl⟩) (fun g hg=>?_) (h.ok.same fun t=>?_) h.ok.srt (by rw [h.fl];simp [cnt]) h.ok.le
 ·rw [hd j,h.hd]
  exact ⟨fun x=>x.1,fun x=>⟨x,fun e2=>e (by omega)⟩⟩
 ·cases hg
  exact ⟨hf.cr,hf.nx,hn,hf.sg⟩
 ·have a1:¬ ∃ g,v.fl i=some g∧g.sg≠[]∧¬ inL v.lv i∧t=timeF g:=fun ⟨_,_,_,h3,_⟩=>h3 h.inl
  exact ⟨fun hh=>absurd hh a1,fun ⟨g,hg,h3,_⟩=>by cases hg;exact absurd hs h3⟩
theorem putK_mem (ks:List Key) (k x:Key):x∈putK ks k↔x=k∨x∈ks:=by
 unfold putK
 have e:=List.takeWhile_append_dropWhile (p:=fun m=>klt m k) (l:=ks)
 have e2:x∈ks↔x∈ks.takeWhile (fun m=>klt m k)∨x∈ks.dropWhile (fun m=>klt m k):=by
  rw [← List.mem_append,e]
 rw [e2,List.mem_append,List.mem_cons]
 exact ⟨fun h=>h.elim (fun h=>.inr (.inl h)) fun h=>h.elim .inl fun h=>.inr (.inr h),fun h=>h.elim (fun h=>.inr (.inl h)) fun h=>h.elim .inl fun h=>.inr (.inr h)⟩
theorem srt_put {ks:List Key} (hs:Srt ks) {k:Key} (hk:k ∉ ks):Srt (putK ks k):=by
 obtain ⟨a,b,hab,h1,h2⟩:∃ a b,ks=a++b∧(∀ m∈a,klt m k=true)∧∀ m∈b,klt k m=true:=by
  refine ⟨ks.takeWhile (fun m=>klt m k),ks.dropWhile (fun m=>klt m k),List.takeWhile_append_dropWhile.symm,?_,?_⟩
  ·intro m hm
   clear hs hk
   induction ks with
   | nil=>simp at hm
   | cons x l ih =>
    rw [List.takeWhile_cons] at hm
    split at hm
    ·rw [List.mem_cons] at hm
     rcases hm with rfl | hm
     ·assumption
     ·exact ih hm
    ·simp at hm
  ·intro m hm
   have e:=List.takeWhile_append_dropWhile (p:=fun m=>klt m k) (l:=ks)
   cases hd:ks.dropWhile (fun m=>klt m k) with
   | nil=>rw [hd] at hm;cases hm
   | cons y l =>
    have hy:klt y k=false:=by
     have:=List.head?_dropWhile_not (fun m=>klt m k) ks
     rw [hd] at this
     simpa using this
    have hyk:y≠k:=fun e2=>hk (by rw [← e,List.mem_append,hd,← e2];simp)
    have hky:klt k y=true:=klt_tot hy hyk
    rw [hd] at hm
    rw [List.mem_cons] at hm
    rcases hm with rfl | hm
    ·exact hky
    ·have hs2:=hs
     rw [← e,hd] at hs2
     have:=(List.pairwise_cons.1 (List.pairwise_append.1 hs2).2.1).1 m hm
     exact klt_trans hky this
 rw [hab,put_mid h1 h2]
 rw [hab] at hs
 exact hs.put h1 h2
theorem AtH.wait (h:AtH v i f) (hs:f.sg≠[]):OkQ { v with lv:=(dropF v.lv).2,ks:=putK v.ks (timeF f,(i:Int)) }∧(timeF f,(i:Int)) ∉ v.ks∧v.ks.length < 8:=by
 have hd:=in_drop (v:=v.lv) h.is
 have hno:(timeF f,(i:Int)) ∉ v.ks:=fun hk=>h.no hk rfl
 refine ⟨?_,hno,?_⟩
 ·have hni:¬ inL (dropF v.lv).2 i:=fun e=>((hd i).1 e).2 h.hd.symm
  have:=h.ok.upd h.lt (v.fl i) (dropF v.lv).2 (putK v.ks (timeF f,(i:Int))) v.n h.ok.lv.drop (fun j e=>?_) (fun e=>absurd e hni) (fun g hg=>(h.ok.fl i g hg).2) (fun k=>?_) (srt_put h.ok.srt hno) (by omega) h.ok.le
  ·have e:upF v.fl i (v.fl i)=v.fl:=by
    funext j
    by_cases e:j=i
    ·rw [e,upF_same]
    ·rw [upF_ne _ _ e]
   rw [e] at this
   exact this
  ·rw [hd j,h.hd]
   exact ⟨fun x=>x.1,fun x=>⟨x,fun e2=>e (by omega)⟩⟩
  ·rw [putK_mem]
   constructor
   ·rintro (rfl | hk)
    ·exact .inr ⟨f,h.fl,hs,hni,rfl⟩
    ·exact .inl ⟨hk,h.no hk⟩
   ·rintro (hk | ⟨g,hg,_,_,e⟩)
    ·exact .inr hk.1
    ·rw [h.fl] at hg;cases hg;exact .inl e
 ·have hk:=h.ok.keys
  have h9:((i:Int) :: v.ks.map Prod.snd).Nodup:=List.nodup_cons.2 ⟨fun hx=>(hk.2 _ hx).2 h.inl,hk.1⟩
  have:=nodup_few 8 _ h9 fun x hx=>by
   rcases List.mem_cons.1 hx with rfl | hx
   ·have:=h.lt;exact ⟨by omega,by show (i:Int) < ((8:Nat):Int);omega⟩
   ·exact (hk.2 x hx).1
  simp at this;omega
theorem AtH.sent (h:AtH v i f) {s:Sg} {l:List Sg} (hs:f.sg=s :: l) (hc:f.cr > 0) {now rate:Int} (hn:U now) (hd:U (delayI (sLn s) (lessI rate (cR v.c)))):OkQ (sentF v i f s now rate):=by
 have hf:=(h.ok.fl i f h.fl).2
 have hsg:=hf.sg s (by rw [hs];simp)
 have h1:=hf.cr
 have h2:=hsg.2.ln
 refine h.ok.upd h.lt _ v.lv v.ks (v.n - 1) h.ok.lv (fun _ _=>Iff.rfl) (fun _=>⟨_,rfl⟩) (fun g hg=>?_) (h.ok.same fun t=>?_) h.ok.srt (by rw [h.fl,hs];simp [cnt,hs];omega) (by have:=h.ok.le;omega)
 ·cases hg
  refine ⟨by show -65536 < f.cr - sLn s∧f.cr - sLn s≤65536;omega,U_add hn hd,hf.si,fun x hx=>hf.sg x (by rw [hs];rw [hs] at hx;exact List.mem_cons_of_mem _ hx)⟩
 ·have a1:¬ ∃ g,v.fl i=some g∧g.sg≠[]∧¬ inL v.lv i∧t=timeF g:=fun ⟨_,_,_,h3,_⟩=>h3 h.inl
  exact ⟨fun hh=>absurd hh a1,fun ⟨_,_,_,h3,_⟩=>absurd h.inl h3⟩
end
theorem OkQ.close {v:Qm} (h:OkQ v) (i:Int):OkQ (closeF v i).2:=by
 unfold closeF
 split
 ·exact h
 ·rename_i hi
  have hi:0≤i∧i≤7:=Decidable.not_not.1 hi
  have hi8:i.toNat < 8:=by omega
  have hin:((i.toNat:Nat):Int)=i:=by omega
  split
  ·exact h
  ·rename_i f hf
   have hout:∀ j:Nat,inL (outF v.lv i) j↔inL v.lv j∧(j:Int)≠i:=fun j=>by
    unfold inL outF
    simp only [List.mem_append,List.mem_filter,decide_eq_true_eq]
    exact ⟨fun h=>h.elim (fun h=>⟨.inl h.1,h.2⟩) fun h=>⟨.inr h.1,h.2⟩,fun h=>h.1.elim (fun x=>.inl ⟨x,h.2⟩) fun x=>.inr ⟨x,h.2⟩⟩
   have hlen:=h.len hf
   refine h.upd hi8 none (outF v.lv i) _ _ (h.lv.out i) (fun j e=>?_) (fun e=>?_) (fun g hg=>by cases hg) (fun k=>?_) ?_ (by rw [hf];simp [cnt]) (by have:=h.le;omega)
   ·rw [hout j]
    exact ⟨fun x=>x.1,fun x=>⟨x,fun e2=>e (by omega)⟩⟩
   ·exact absurd hin (((hout _).1 e).2)
   ·rw [hin]
    by_cases hp:plc v i.toNat=3
    ·rw [if_pos hp]
     obtain ⟨h3,g,hg,hg2⟩:=plc_3.1 hp
     rw [hf] at hg
     cases hg
     rw [h.srt.nodup.mem_erase_iff]
     constructor
     ·rintro ⟨h4,h5⟩
      refine .inl ⟨h5,fun e=>?_⟩
      obtain ⟨g,hg,_,_,e2⟩:=h.key (i:=i.toNat) h5 (by rw [e,hin])
      rw [hf] at hg
      cases hg
      exact h4 (by rw [e2,hin])
     ·rintro (⟨h4,h5⟩ | ⟨g,hg,_⟩)
      ·exact ⟨fun e=>h5 (by rw [e]),h4⟩
      ·cases hg
    ·rw [if_neg hp]
     constructor
     ·intro hk
      refine .inl ⟨hk,fun e=>?_⟩
      obtain ⟨g,hg,h2,h3,_⟩:=h.key (i:=i.toNat) hk (by rw [e,hin])
      exact hp (plc_3.2 ⟨h3,g,hg,h2⟩)
     ·rintro (hk | ⟨g,hg,_⟩)
      ·exact hk.1
      ·cases hg
   ·split
    ·exact h.srt.sublist List.erase_sublist
    ·exact h.srt
end FqM

namespace FqC
open Arith ArithC Lists _root_.Go.X.Tree TreeC TreeD TreeE TreeF FqM
theorem delay_tri (n r:Int) (hn:n < 9223372036854775808) (hr:U r):Tri Tryz.prog N_delay_Of [.lf (.int .i64 n),.lf (.int .u64 r)] [.lf (.int .u64)] emp (fun x=>pur (x=delayI n r) emp) :=
 tri_0 (call_delay_Of n r) fun w0 S R h=>by
  unfold W_delay_Of delayI
  refine w_ite (fun c=>?_) fun c=>?_
  ·have c:n < 1∨r=18446744073709551615:=by simpa using c
   rw [if_pos c];exact Own.retP rfl h
  have c:¬ (n < 1∨r=18446744073709551615):=by simpa using c
  rw [if_neg c,wu (n:=n) (by omega) (by omega)]
  refine w_call (md_tri n 1000000000 r ⟨by omega,by omega⟩ (U_lit _) hr) h fun x w h=>?_
  obtain ⟨hx,h⟩:=h.purP;rw [hx]
  exact Own.retP rfl h.emp'
theorem U_delay {n r:Int} (hn:n < 9223372036854775808) (hr:U r):U (delayI n r):=by
 unfold delayI
 split
 ·exact U_lit 0
 ·rename_i c
  have h:=U_md (a:=n) (b:=1000000000) (c:=r) ⟨by omega,by omega⟩ (U_lit _) hr
  split
  ·exact U_lit _
  ·exact h
theorem U_less {a b:Int} (ha:U a) (hb:U b):U (lessI a b):=by unfold lessI U at *;(repeat' split)<;>omega
theorem less_tri (a b:Int) (ha:U a) (hb:U b):Tri Tryz.prog N_delay_Lesser [.lf (.int .u64 a),.lf (.int .u64 b)] [.lf (.int .u64)] emp (fun x=>pur (x=lessI a b) emp) :=
 tri_0 (call_delay_Lesser a b) fun w0 S R h=>by
  unfold W_delay_Lesser
  have e1:IntKind.i64.wrap ((0:Int)+1)=1:=rfl
  have e2:IntKind.i64.wrap ((1:Int)+1)=2:=rfl
  obtain ⟨a',ha'⟩:∃ a',a'=if a=0 then 18446744073709551615 else a:=⟨_,rfl⟩
  refine w_loop (fun _:Int × Int=>emp) (fun y:Int × Int=>y=(18446744073709551615,0)∨y=(a',1)∨y=(lessI a b,2)) (fun y:Int × Int=>(2 - y.2).toNat) h (.inl rfl) ?_
  rintro (y:Int × Int) w hy h
  rcases hy with rfl | rfl | rfl
  ·refine w_ite (fun _=>?_) fun c=>(by cases c)
   refine ⟨by decide,(a:Int),rfl,?_⟩
   dsimp only
   rw [e1]
   refine w_ite (fun c=>?_) fun c=>?_
   ·have c:a=0:=by simpa using c
    rw [if_pos c] at ha'
    exact ⟨⟨.inr (.inl (by rw [ha'])),h⟩,by show (2 - (1:Int)).toNat < (2 - (0:Int)).toNat;omega⟩
   ·have c:¬ a=0:=by simpa using c
    rw [if_neg c] at ha'
    refine ⟨⟨.inr (.inl ?_),h⟩,by show (2 - (1:Int)).toNat < (2 - (0:Int)).toNat;omega⟩
    unfold U at ha
    rw [ha']
    refine Prod.ext ?_ rfl
    show (if a < _ then a else _)=a
    split<;>omega
  ·refine w_ite (fun _=>?_) fun c=>(by cases c)
   refine ⟨⟨by show (0:Int)≤1;decide,by show (1:Int) < 2;decide⟩,(b:Int),rfl,?_⟩
   dsimp only
   rw [e2]
   unfold U at ha hb
   refine w_ite (fun c=>?_) fun c=>?_
   ·have c:b=0:=by simpa using c
    refine ⟨⟨.inr (.inr ?_),h⟩,by show (2 - (2:Int)).toNat < (2 - (1:Int)).toNat;omega⟩
    refine Prod.ext ?_ rfl
    show a'=lessI a b
    unfold lessI
    rw [← ha',if_pos c]
    have:a'≤18446744073709551615:=by rw [ha'];split<;>omega
    split<;>omega
   ·have c:¬ b=0:=by simpa using c
    refine ⟨⟨.inr (.inr ?_),h⟩,by show (2 - (2:Int)).toNat < (2 - (1:Int)).toNat;omega⟩
    refine Prod.ext ?_ rfl
    show (if b < a' then b else a')=lessI a b
    unfold lessI
    rw [← ha',if_neg c]
  ·refine w_ite (fun c=>(by cases c)) fun _=>?_
   exact Own.retP rfl h
theorem within_tri (v lo hi:Int):Tri Tryz.prog N_fq_within [.lf (.int .i64 v),.lf (.int .i64 lo),.lf (.int .i64 hi)] [.lf .bool] emp (fun r=>pur (r=decide (lo≤v∧v≤hi)) emp) :=
 tri_0 (call_fq_within v lo hi) fun w0 S R h=>by
  unfold W_fq_within
  refine Own.retP ?_ h
  rw [Bool.eq_iff_iff];simp
theorem may_tri (c:Cf):Tri Tryz.prog N_fq_May [.agg (Ks.mk KC c)] [.lf .bool] emp (fun r=>pur (r=may c) emp) :=
 tri_0 (call_fq_May c) fun w0 S R h=>by
  unfold W_fq_May may
  refine w_new h fun n1 w h=>w_ld h rfl (w_call (within_tri _ _ _) h fun r w h=>?_)
  obtain ⟨hr,h⟩:=h.purP;rw [hr]
  refine w_ite (fun c1=>?_) fun c1=>?_
  case _ =>
   refine w_ld h rfl (w_call (within_tri _ _ _) h fun r w h=>?_)
   obtain ⟨hr,h⟩:=h.purP;rw [hr]
   refine w_ite (fun c2=>?_) fun c2=>?_
   case _ =>
    refine w_ld h rfl (w_call (within_tri _ _ _) h fun r w h=>?_)
    obtain ⟨hr,h⟩:=h.purP;rw [hr]
    refine w_ite (fun c3=>?_) fun c3=>?_
    case _ =>
     refine w_ld h rfl (w_call (within_tri _ _ _) h fun r w h=>?_)
     obtain ⟨hr,h⟩:=h.purP;rw [hr]
     refine w_ite (fun c4=>?_) fun c4=>?_
     case _ =>
      refine w_ld h rfl (w_ite (fun c5=>?_) fun c5=>?_)
      case _ =>
       refine w_ld h rfl (w_call (within_tri _ _ _) h fun r w h=>?_)
       obtain ⟨hr,h⟩:=h.purP;rw [hr]
       refine w_ite (fun c6=>?_) fun c6=>?_
       case _ =>
        refine w_ld h rfl (w_call (within_tri _ _ _) h fun r w h=>?_)
        obtain ⟨hr,h⟩:=h.purP;rw [hr]
        refine Own.retP ?_ h.emp'
        rw [c1,c2,c3,c4,c5,c6];rfl
       case _=>exact Own.retP (by rw [c1,c2,c3,c4,c5,c6];rfl) h.emp'
      case _=>exact Own.retP (by rw [c1,c2,c3,c4,c5];rfl) h.emp'
     case _=>exact Own.retP (by rw [c1,c2,c3,c4];rfl) h.emp'
    case _=>exact Own.retP (by rw [c1,c2,c3];rfl) h.emp'
   case _=>exact Own.retP (by rw [c1,c2];rfl) h.emp'
  case _=>exact Own.retP (by rw [c1];rfl) h.emp'
theorem nil' {w0 w:World} {S0 R0:Nat→Prop} {F:SP} (h:Own w0 S0 R0 w F) (s:Sl) (K:Ks) (hl:s.len=0) (hc:s.cap=0):Own w0 S0 R0 w (arr s K []^F):=by
 have h:=h.le ((star_emp F).trans (star_comm _ _))
 obtain ⟨S,R,_,_,h2⟩:=h.part
 exact h2 w (arr s K []) (fun _=>False) (fun _=>False) (Ext.refl _ _) ⟨⟨.inl ⟨hl,hc,rfl⟩,hl⟩,fun k=>⟨fun h=>h.elim,fun ⟨q,_,_,hq⟩=>absurd hc hq⟩,fun _ h=>h⟩ (fun _ h=>h.elim) (fun _ h=>h.elim)
theorem clone_tri (s:Sl) (xs:List Sg) (hl:xs.length≤4294967296):Tri Tryz.prog N_slices_Clone_sapiSegapiSeg [.lf (.sl s)] [.lf .sl] (emp^rarr s KS xs) (fun r=>arr r KS xs) :=
 tri_0 (call_slices_Clone_sapiSegapiSeg s) fun w0 S R h=>by
  unfold W_slices_Clone_sapiSegapiSeg
  have h:Own w0 S R w0 (rarr s KS xs^emp):=h.fin
  have hs:=(h.rd (s:=s)).2
  have hn:=(h.rd (s:=s)).1.2.1
  refine w_ite (fun c=>?_) fun _=>?_
  ·have hp:s.p=none:=by
    simp only [Sl.isNil,Bool.and_eq_true,Option.isNone_iff_eq_none] at c
    exact c.1
   have hx:xs=[]:=List.eq_nil_of_length_eq_zero (by rw [← hs];exact hn hp)
   rw [hx]
   exact (h.nil KS).keep
  ·refine w_new h fun n1 w h=>?_
   have h:=nil' h ⟨some ⟨n1,0⟩,0,0⟩ KS rfl rfl
   refine w_app (s:=⟨some ⟨n1,0⟩,0,0⟩) (x:=s) h rfl (by simpa using hl) fun s2 w _ h=>?_
   exact h.keep
def bigS (f:Nat→SP):Nat→SP
 | 0=>emp
 | n+1=>f n^bigS f n
def but (f:Nat→SP) (i:Nat):Nat→SP:=fun j=>if j=i then emp else f j
theorem bigS_congr {f g:Nat→SP}:∀ n,(∀ j,j < n→f j=g j)→bigS f n=bigS g n
 | 0,_=>rfl
 | n+1,h=>by rw [bigS,bigS,h n (by omega),bigS_congr n fun j hj=>h j (by omega)]
theorem emp_star (p:SP):Le (emp^p) p:=by
 rintro w S R ⟨S1,R1,S2,R2,h1,h2,hS,hR,_⟩
 have e1:S=S2:=funext fun k=>propext ((hS k).trans ⟨fun h=>h.elim (fun h=>absurd h (h1.1 k)) id,.inr⟩)
 have e2:R=R2:=funext fun k=>propext ((hR k).trans ⟨fun h=>h.elim (fun h=>absurd h (h1.2 k)) id,.inr⟩)
 rw [e1,e2];exact h2
theorem big_out (f:Nat→SP):∀ {n i:Nat},i < n→Le (bigS f n) (f i^bigS (but f i) n)
 | n+1,i,h=>by
  by_cases e:i=n
  ·subst e
   have e1:bigS (but f i) (i+1)=emp^bigS f i:=by
    rw [bigS,bigS_congr (f:=but f i) (g:=f) i fun j hj=>by simp [but,show j≠i by omega]]
    simp [but]
   rw [e1]
   exact star_mono Le.rfl ((star_emp _).trans (star_comm _ _))
  ·have:=big_out f (n:=n) (i:=i) (by omega)
   have e1:bigS (but f i) (n+1)=f n^bigS (but f i) n:=by rw [bigS];simp [but,Ne.symm e]
   rw [e1]
   exact (star_mono Le.rfl this).trans (star_swap _ _ _)
theorem big_in (f:Nat→SP):∀ {n i:Nat},i < n→Le (f i^bigS (but f i) n) (bigS f n)
 | n+1,i,h=>by
  by_cases e:i=n
  ·subst e
   have e1:bigS (but f i) (i+1)=emp^bigS f i:=by
    rw [bigS,bigS_congr (f:=but f i) (g:=f) i fun j hj=>by simp [but,show j≠i by omega]]
    simp [but]
   rw [e1]
   exact star_mono Le.rfl (emp_star _)
  ·have:=big_in f (n:=n) (i:=i) (by omega)
   have e1:bigS (but f i) (n+1)=f n^bigS (but f i) n:=by rw [bigS];simp [but,Ne.symm e]
   rw [e1]
   exact (star_swap _ _ _).trans (star_mono Le.rfl this)
abbrev qL (c:Cf) (p:Nat→Option Pt) (l w:Nat) (n:Int):List Lf:=[.int .i64 (cQ c),.int .i64 (cF c),.int .i64 (cL c),.int .i64 (cW c),.int .u64 (cH c),.int .u64 (cR c),.bool (cD c),.int .i64 (cCap c),.int .i64 (cMss c),.ptr (p 0),.ptr (p 1),.ptr (p 2),.ptr (p 3),.ptr (p 4),.ptr (p 5),.ptr (p 6),.ptr (p 7),.ptr (some ⟨l,0⟩),.ptr (some ⟨w,0⟩),.int .i64 n]
theorem qL_at (c:Cf) (p:Nat→Option Pt) (l w:Nat) (n:Int) (i:Nat) (hi:i < 8):Ks.un [.ptr] (((qL c p l w n).drop (0+9+i * 1)).take 1)=some (p i):=by
 have:i=0∨i=1∨i=2∨i=3∨i=4∨i=5∨i=6∨i=7:=by omega
 rcases this with rfl | rfl | rfl | rfl | rfl | rfl | rfl | rfl<;>rfl
def upP (p:Nat→Option Pt) (i:Nat) (x:Option Pt):Nat→Option Pt:=fun j=>if j=i then x else p j
theorem upP_same (p:Nat→Option Pt) (i:Nat) (x:Option Pt):upP p i x i=x:=by simp [upP]
theorem upP_ne (p:Nat→Option Pt) {i j:Nat} (x:Option Pt) (h:j≠i):upP p i x j=p j:=by simp [upP,h]
theorem qL_up (c:Cf) (p:Nat→Option Pt) (l w:Nat) (n:Int) (i:Nat) (hi:i < 8) (x:Option Pt):upd (qL c p l w n) (0+9+i * 1) [.ptr x]=qL c (upP p i x) l w n:=by
 have:i=0∨i=1∨i=2∨i=3∨i=4∨i=5∨i=6∨i=7:=by omega
 rcases this with rfl | rfl | rfl | rfl | rfl | rfl | rfl | rfl<;>rfl
def flow (a:Nat) (f:Fl):SP:=ex fun s:Sl=>blk a [.int .i64 f.cr,.int .u64 f.nx,.int .u64 f.si,.sl s]^arr s KS f.sg
instance (a:Nat) (f:Fl):NoR (flow a f):=by unfold flow;infer_instance
def flowP (p:Option Pt) (x:Option Fl):SP:=match x with
 | none=>pur (p=none) emp
 | some f=>ex fun a:Nat=>pur (p=some ⟨a,0⟩) (flow a f)
instance (p:Option Pt) (x:Option Fl):NoR (flowP p x):=by unfold flowP;split<;>infer_instance
theorem bigNoR (f:Nat→SP) (h:∀ j,NoR (f j)):∀ n,NoR (bigS f n)
 | 0=>by unfold bigS;infer_instance
 | n+1=>by have:=bigNoR f h n;unfold bigS;infer_instance
instance (f:Nat→SP) [h:∀ j,NoR (f j)] (n:Nat):NoR (bigS f n):=bigNoR f h n
abbrev fls (p:Nat→Option Pt) (fl:Nat→Option Fl):Nat→SP:=fun j=>flowP (p j) (fl j)
abbrev All8 (p:Nat→Option Pt) (fl:Nat→Option Fl):SP:=bigS (fls p fl) 8
abbrev But8 (p:Nat→Option Pt) (fl:Nat→Option Fl) (i:Nat):SP:=bigS (but (fls p fl) i) 8
def que (b:Nat) (v:Qm):SP:=ex fun x:(Nat→Option Pt) × Nat × Nat=>blk b (qL v.c x.1 x.2.1 x.2.2 v.n)^lst x.2.1 v.lv^tree 8 x.2.2 v.ks^All8 x.1 v.fl
instance (b:Nat) (v:Qm):NoR (que b v):=by unfold que;infer_instance
section
variable {w0 w : World} {S0 R0 : Nat → Prop} {F G : SP}
theorem _root_.Go.X.Own.flow (h:Own w0 S0 R0 w F) (a:Nat) {f:Fl} [tk:TakeK FqC.flow a F f G]:∃ s:Sl,Own w0 S0 R0 w (blk a [.int .i64 f.cr,.int .u64 f.nx,.int .u64 f.si,.sl s]^arr s KS f.sg^G):=by
 obtain ⟨s,h⟩:=(h.le tk.le).exP
 exact ⟨s,h.fin⟩
theorem _root_.Go.X.Own.mkFlow (h:Own w0 S0 R0 w F) (a:Nat) (s:Sl) (f:Fl) [tk:Take (blk a [.int .i64 f.cr,.int .u64 f.nx,.int .u64 f.si,.sl s]^arr s KS f.sg) F G]:Own w0 S0 R0 w (FqC.flow a f^G) :=
 Own.toEx (f:=fun s:Sl=>blk a [.int .i64 f.cr,.int .u64 f.nx,.int .u64 f.si,.sl s]^arr s KS f.sg) s (h.le tk.le)
theorem _root_.Go.X.Own.mkFl (h:Own w0 S0 R0 w F) (a:Nat) (s:Sl) (cr nx si:Int) (sg:List Sg) (f:Fl) (hf:f=⟨cr,nx,si,sg⟩) [tk:Take (blk a [.int .i64 cr,.int .u64 nx,.int .u64 si,.sl s]^arr s KS sg) F G]:Own w0 S0 R0 w (FqC.flow a f^G):=by
 rw [hf]
 exact h.mkFlow a s ⟨cr,nx,si,sg⟩ (tk:=tk)
theorem _root_.Go.X.Own.que (h:Own w0 S0 R0 w F) (b:Nat) {v:Qm} [tk:TakeK FqC.que b F v G]:∃ (p:Nat→Option Pt) (l t:Nat),Own w0 S0 R0 w (blk b (qL v.c p l t v.n)^lst l v.lv^tree 8 t v.ks^All8 p v.fl^G):=by
 obtain ⟨s,h⟩:=(h.le tk.le).exP
 exact ⟨s.1,s.2.1,s.2.2,h.fin⟩
theorem _root_.Go.X.Own.mkQue (h:Own w0 S0 R0 w F) (b:Nat) (p:Nat→Option Pt) (l t:Nat) (v:Qm) [tk:Take (blk b (qL v.c p l t v.n)^lst l v.lv^tree 8 t v.ks^All8 p v.fl) F G]:Own w0 S0 R0 w (FqC.que b v^G) :=
 Own.toEx (f:=fun x:(Nat→Option Pt) × Nat × Nat=>blk b (qL v.c x.1 x.2.1 x.2.2 v.n)^lst x.2.1 v.lv^tree 8 x.2.2 v.ks^All8 x.1 v.fl) (p,l,t) (h.le tk.le)
theorem _root_.Go.X.Own.outF (h:Own w0 S0 R0 w F) (p:Nat→Option Pt) (fl:Nat→Option Fl) {i:Nat} (hi:i < 8) {f:Fl} (hf:fl i=some f) [tk:Take (All8 p fl) F G]:∃ a,p i=some ⟨a,0⟩∧Own w0 S0 R0 w (FqC.flow a f^But8 p fl i^G):=by
 have h:Own w0 S0 R0 w ((flowP (p i) (fl i)^But8 p fl i)^G):=(h.le tk.le).le (star_mono (big_out _ hi) Le.rfl)
 have h:=h.le (star_assoc _ _ _)
 rw [hf] at h
 obtain ⟨a,h⟩:=Own.exP (f:=fun a:Nat=>pur (p i=some ⟨a,0⟩) (FqC.flow a f)) h
 obtain ⟨hp,h⟩:=h.purP
 exact ⟨a,hp,h⟩
theorem _root_.Go.X.Own.noF (h:Own w0 S0 R0 w F) (p:Nat→Option Pt) (fl:Nat→Option Fl) {i:Nat} (hi:i < 8) (hf:fl i=none) [tk:Take (All8 p fl) F G]:p i=none∧Own w0 S0 R0 w (But8 p fl i^G):=by
 have h:Own w0 S0 R0 w ((flowP (p i) (fl i)^But8 p fl i)^G):=(h.le tk.le).le (star_mono (big_out _ hi) Le.rfl)
 have h:=h.le (star_assoc _ _ _)
 rw [hf] at h
 obtain ⟨hp,h⟩:=Own.purP (p:=p i=none) (A:=emp) h
 exact ⟨hp,h.drop⟩
theorem but_eq (p q:Nat→Option Pt) (fl gl:Nat→Option Fl) (i:Nat) (hp:∀ j,j≠i→q j=p j) (hf:∀ j,j≠i→gl j=fl j):But8 q gl i=But8 p fl i:=bigS_congr 8 fun j _=>by
 unfold but
 split
 ·rfl
 ·rename_i e;show flowP _ _=flowP _ _;rw [hp j e,hf j e]
theorem _root_.Go.X.Own.inF (h:Own w0 S0 R0 w F) (p:Nat→Option Pt) (fl:Nat→Option Fl) {i:Nat} (hi:i < 8) (q:Nat→Option Pt) (gl:Nat→Option Fl) (a:Nat) (f:Fl) (hp:∀ j,j≠i→q j=p j) (hf:∀ j,j≠i→gl j=fl j) (hq:q i=some ⟨a,0⟩) (hg:gl i=some f) [tk:Take (FqC.flow a f^But8 p fl i) F G]:Own w0 S0 R0 w (All8 q gl^G):=by
 have h:=(h.le tk.le).le (star_assoc _ _ _)
 have h:Own w0 S0 R0 w (flowP (q i) (gl i)^But8 p fl i^G):=by
  rw [hg]
  exact Own.toEx (f:=fun a:Nat=>pur (q i=some ⟨a,0⟩) (FqC.flow a f)) a (Own.toPur hq h)
 rw [← but_eq p q fl gl i hp hf] at h
 exact (h.le (star_assoc' _ _ _)).le (star_mono (big_in (fls q gl) hi) Le.rfl)
theorem _root_.Go.X.Own.inN (h:Own w0 S0 R0 w F) (p:Nat→Option Pt) (fl:Nat→Option Fl) {i:Nat} (hi:i < 8) (q:Nat→Option Pt) (gl:Nat→Option Fl) (hp:∀ j,j≠i→q j=p j) (hf:∀ j,j≠i→gl j=fl j) (hq:q i=none) (hg:gl i=none) [tk:Take (But8 p fl i) F G]:Own w0 S0 R0 w (All8 q gl^G):=by
 have h:=(h.le tk.le)
 have h:Own w0 S0 R0 w (flowP (q i) (gl i)^But8 p fl i^G):=by
  rw [hg]
  exact Own.toPur (p:=q i=none) (A:=emp) hq (h.le ((star_emp _).trans (star_comm _ _)))
 rw [← but_eq p q fl gl i hp hf] at h
 exact (h.le (star_assoc' _ _ _)).le (star_mono (big_in (fls q gl) hi) Le.rfl)
theorem isN (h:Own w0 S0 R0 w F) (p:Nat→Option Pt) (fl:Nat→Option Fl) {i:Nat} (hi:i < 8) [tk:Take (All8 p fl) F G]:(p i).isNone=(fl i).isNone:=by
 cases hf:fl i with
 | none=>rw [(h.noF p fl hi hf).1];rfl
 | some f=>obtain ⟨a,ha,_⟩:=h.outF p fl hi hf;rw [ha];rfl
end
end FqC

namespace FqD
open Arith ArithC Lists _root_.Go.X.Tree TreeC TreeD TreeE TreeF FqM FqC
theorem placeI_tri (b:Nat) (p:Nat→Option Pt) (l t:Nat) (v:Qm) (hv:okL v.lv) (i:Int) (hi:0≤i∧i < 8):Tri Tryz.prog N_fq_Queue_place [.lf (.ptr (some ⟨b,0⟩)),.lf (.int .i64 i)] [.lf (.int .i64)] (blk b (qL v.c p l t v.n)^lst l v.lv^tree 8 t v.ks^All8 p v.fl) (fun r=>pur (r=plc v i.toNat) (blk b (qL v.c p l t v.n)^lst l v.lv^tree 8 t v.ks^All8 p v.fl)) :=
 tri_0 (call_fq_Queue_place (some ⟨b,0⟩) i) fun w0 S R h=>by
  unfold W_fq_Queue_place
  have hl:=hv.few
  refine w_deref (w_ld h rfl (w_call (Lists.place_tri l v.lv i (by omega)) h fun r w h=>?_))
  obtain ⟨hr,h⟩:=h.purP;rw [hr]
  have hi':((i.toNat:Nat):Int)=i:=by omega
  refine w_ite (fun c=>?_) fun c=>?_
  ·have c:placeF v.lv i≠0:=by simpa using c
   refine Own.retP ?_ h.fin
   unfold plc;rw [hi',if_pos c]
  have c:¬ placeF v.lv i≠0:=by simpa using c
  refine w_deref ⟨hi,w_ld h (qL_at _ _ _ _ _ i.toNat (by omega)) ?_⟩
  cases hf:v.fl i.toNat with
  | none =>
   rw [(h.noF p v.fl (by omega) hf).1]
   refine w_ite (fun c=>(by simp at c)) fun _=>?_
   refine Own.retP ?_ h.fin
   unfold plc;rw [hi',if_neg c,hf]
  | some f =>
   obtain ⟨a,hp,h⟩:=h.outF p v.fl (by omega) hf
   rw [hp]
   refine w_ite (fun _=>?_) fun c=>(by simp at c)
   obtain ⟨s,h⟩:=h.flow a
   refine w_deref (w_ld h rfl ?_)
   have hs:=(h.rd (s:=s)).2
   have h:=h.mkFlow a s f
   have h:=h.inF p v.fl (by omega) p v.fl a f (fun _ _=>rfl) (fun _ _=>rfl) hp hf
   refine w_ite (fun c2=>?_) fun c2=>?_
   ·have c2:(s.len:Int) > 0:=by simpa using c2
    refine Own.retP ?_ h.fin
    unfold plc;rw [hi',if_neg c,hf]
    exact (if_neg (fun e=>by rw [e] at hs;simp only [List.length_nil] at hs;omega)).symm
   ·have c2:¬ (s.len:Int) > 0:=by simpa using c2
    refine Own.retP ?_ h.fin
    unfold plc;rw [hi',if_neg c,hf]
    exact (if_pos (List.eq_nil_of_length_eq_zero (by omega))).symm
theorem placeO_tri (b:Nat) (p:Nat→Option Pt) (l t:Nat) (v:Qm) (hv:okL v.lv) (i:Int) (hi:0≤i∧i < 8) (a:Nat) (s:Sl) (f:Fl) (hf:v.fl i.toNat=some f) (hp:p i.toNat=some ⟨a,0⟩):Tri Tryz.prog N_fq_Queue_place [.lf (.ptr (some ⟨b,0⟩)),.lf (.int .i64 i)] [.lf (.int .i64)]
  (blk b (qL v.c p l t v.n)^lst l v.lv^blk a [.int .i64 f.cr,.int .u64 f.nx,.int .u64 f.si,.sl s]^arr s KS f.sg) (fun r=>pur (r=plc v i.toNat) (blk b (qL v.c p l t v.n)^lst l v.lv^blk a [.int .i64 f.cr,.int .u64 f.nx,.int .u64 f.si,.sl s]^arr s KS f.sg)) :=
 tri_0 (call_fq_Queue_place (some ⟨b,0⟩) i) fun w0 S R h=>by
  unfold W_fq_Queue_place
  have hl:=hv.few
  refine w_deref (w_ld h rfl (w_call (Lists.place_tri l v.lv i (by omega)) h fun r w h=>?_))
  obtain ⟨hr,h⟩:=h.purP;rw [hr]
  have hi':((i.toNat:Nat):Int)=i:=by omega
  refine w_ite (fun c=>?_) fun c=>?_
  ·have c:placeF v.lv i≠0:=by simpa using c
   refine Own.retP ?_ h.fin
   unfold plc;rw [hi',if_pos c]
  have c:¬ placeF v.lv i≠0:=by simpa using c
  refine w_deref ⟨hi,w_ld h (qL_at _ _ _ _ _ i.toNat (by omega)) ?_⟩
  rw [hp]
  refine w_ite (fun _=>?_) fun c=>(by simp at c)
  refine w_deref (w_ld h rfl ?_)
  have hs:=(h.rd (s:=s)).2
  refine w_ite (fun c2=>?_) fun c2=>?_
  ·have c2:(s.len:Int) > 0:=by simpa using c2
   refine Own.retP ?_ h.fin
   unfold plc;rw [hi',if_neg c,hf]
   exact (if_neg (fun e=>by rw [e] at hs;simp only [List.length_nil] at hs;omega)).symm
  ·have c2:¬ (s.len:Int) > 0:=by simpa using c2
   refine Own.retP ?_ h.fin
   unfold plc;rw [hi',if_neg c,hf]
   exact (if_pos (List.eq_nil_of_length_eq_zero (by omega))).symm
theorem idle_tri (b:Nat) (p:Nat→Option Pt) (l t:Nat) (v:Qm) (hv:okL v.lv) (i long now:Int) (hi:0≤i∧i < 8) (hl:U long) (hs:∀ f,v.fl i.toNat=some f→U f.si):Tri Tryz.prog N_fq_Queue_idle [.lf (.ptr (some ⟨b,0⟩)),.lf (.int .i64 i),.lf (.int .u64 long),.lf (.int .u64 now)] [.lf .bool] (blk b (qL v.c p l t v.n)^lst l v.lv^tree 8 t v.ks^All8 p v.fl) (fun r=>pur (r=idle v i.toNat long now) (blk b (qL v.c p l t v.n)^lst l v.lv^tree 8 t v.ks^All8 p v.fl)) :=
 tri_0 (call_fq_Queue_idle (some ⟨b,0⟩) i long now) fun w0 S R h=>by
  unfold W_fq_Queue_idle
  refine w_deref ⟨hi,w_ld h (qL_at _ _ _ _ _ i.toNat (by omega)) ?_⟩
  cases hf:v.fl i.toNat with
  | none =>
   rw [(h.noF p v.fl (by omega) hf).1]
   refine w_ite (fun c=>(by simp at c)) fun _=>?_
   refine Own.retP ?_ h.fin
   unfold idle;rw [hf]
  | some f =>
   rw [isN h p v.fl (i:=i.toNat) (by omega),hf]
   refine w_ite (fun _=>?_) fun c=>(by simp at c)
   refine w_call (placeI_tri b p l t v hv i hi) h fun r w h=>?_
   obtain ⟨hr,h⟩:=h.purP;rw [hr]
   obtain ⟨a,hp,h⟩:=h.outF p v.fl (by omega) hf
   rw [hp]
   refine w_ite (fun c=>?_) fun c=>?_
   ·have c:plc v i.toNat=0:=by simpa using c
    obtain ⟨s,h⟩:=h.flow a
    refine w_deref (w_ld h rfl (w_call (satadd_tri _ _ (hs f hf) hl) h fun r w h=>?_))
    obtain ⟨hr,h⟩:=h.purP;rw [hr]
    have h:=h.mkFlow a s f
    have h:=h.inF p v.fl (by omega) p v.fl a f (fun _ _=>rfl) (fun _ _=>rfl) hp hf
    refine Own.retP ?_ h.fin
    unfold idle;rw [hf];simp [c]
   ·have c:¬ plc v i.toNat=0:=by simpa using c
    have h:=h.inF p v.fl (by omega) p v.fl a f (fun _ _=>rfl) (fun _ _=>rfl) hp hf
    refine Own.retP ?_ h.fin
    unfold idle;rw [hf];simp [c]
theorem all_congr (p q:Nat→Option Pt) (fl gl:Nat→Option Fl) (hp:∀ j,j < 8→q j=p j) (hf:∀ j,j < 8→gl j=fl j):All8 q gl=All8 p fl:=bigS_congr 8 fun j hj=>by
 show flowP _ _=flowP _ _;rw [hp j hj,hf j hj]
abbrev collN (v:Qm) (now:Int) (k:Nat):Qm:={ v with fl:=fun i=>if i < k∧idle v i 3000000000 now=true then none else v.fl i }
theorem collN_idle (v:Qm) (now:Int) (k:Nat):idle (collN v now k) k 3000000000 now=idle v k 3000000000 now:=by
 have e:(collN v now k).fl k=v.fl k:=by unfold collN;simp
 have e2:plc (collN v now k) k=plc v k:=by unfold plc;rw [e]
 unfold idle
 rw [e,e2]
theorem collect_tri (b:Nat) (p:Nat→Option Pt) (l t:Nat) (v:Qm) (hv:OkQ v) (now:Int):Tri Tryz.prog N_fq_Queue_collect [.lf (.ptr (some ⟨b,0⟩)),.lf (.int .u64 now)] [] (blk b (qL v.c p l t v.n)^lst l v.lv^tree 8 t v.ks^All8 p v.fl) (fun _=>ex fun p:Nat→Option Pt=>blk b (qL ((collectF v now)).c p l t ((collectF v now)).n)^lst l ((collectF v now)).lv^tree 8 t ((collectF v now)).ks^All8 p ((collectF v now)).fl) :=
 tri_0 (call_fq_Queue_collect (some ⟨b,0⟩) now) fun w0 S R h=>by
  unfold W_fq_Queue_collect
  have h:Own w0 S R w0 ((ex fun p:Nat→Option Pt=>blk b (qL ((collN v now (0:Int).toNat)).c p l t ((collN v now (0:Int).toNat)).n)^lst l ((collN v now (0:Int).toNat)).lv^tree 8 t ((collN v now (0:Int).toNat)).ks^All8 p ((collN v now (0:Int).toNat)).fl)^emp):=by
   have e:collN v now (0:Int).toNat=v:=by unfold collN;simp
   rw [e]
   exact Own.toEx (f:=fun p:Nat→Option Pt=>blk b (qL v.c p l t v.n)^lst l v.lv^tree 8 t v.ks^All8 p v.fl) p h.fin
  refine w_loop (fun y:Int=>ex fun p:Nat→Option Pt=>blk b (qL ((collN v now y.toNat)).c p l t ((collN v now y.toNat)).n)^lst l ((collN v now y.toNat)).lv^tree 8 t ((collN v now y.toNat)).ks^All8 p ((collN v now y.toNat)).fl) (fun y:Int=>0≤y∧y≤8) (fun y:Int=>(8 - y).toNat) h.keep ⟨by decide,by decide⟩ ?_
  rintro (y:Int) w hy h
  obtain ⟨p,h⟩:=(h.le (star_emp _)).exP
  have hw:IntKind.i64.wrap (y+1)=y+1:=wi (by omega) (by omega)
  refine w_ite (fun c=>?_) fun c=>?_
  ·have c:y < 8:=by simpa using c
   have hfy:(collN v now y.toNat).fl y.toNat=v.fl y.toNat:=by unfold collN;simp
   refine w_call (idle_tri b p l t (collN v now y.toNat) hv.lv y 3000000000 now ⟨hy.1,c⟩ (by unfold U;omega) (fun f hf=>(hv.fl _ f (hfy ▸ hf)).2.si)) h fun r w h=>?_
   obtain ⟨hr,h⟩:=h.purP;rw [hr,collN_idle]
   have hn:(y+1).toNat=y.toNat+1:=by omega
   dsimp only
   rw [hw]
   have key:∀ (q:Nat→Option Pt) (w:World),Own w0 S R w (blk b (qL v.c q l t v.n)^lst l v.lv^tree 8 t v.ks^All8 q (collN v now (y+1).toNat).fl^emp)→(((0≤y+1∧y+1≤8)∧Own w0 S R w (ex fun p:Nat→Option Pt=>blk b (qL ((collN v now (y+1).toNat)).c p l t ((collN v now (y+1).toNat)).n)^lst l ((collN v now (y+1).toNat)).lv^tree 8 t ((collN v now (y+1).toNat)).ks^All8 p ((collN v now (y+1).toNat)).fl))∧(8 - (y+1)).toNat < (8 - y).toNat):=fun q w h=>by
    refine ⟨⟨by omega,?_⟩,by omega⟩
    have h:Own w0 S R w ((ex fun p:Nat→Option Pt=>blk b (qL ((collN v now (y+1).toNat)).c p l t ((collN v now (y+1).toNat)).n)^lst l ((collN v now (y+1).toNat)).lv^tree 8 t ((collN v now (y+1).toNat)).ks^All8 p ((collN v now (y+1).toNat)).fl)^emp):=Own.toEx (f:=fun p:Nat→Option Pt=>blk b (qL ((collN v now (y+1).toNat)).c p l t ((collN v now (y+1).toNat)).n)^lst l ((collN v now (y+1).toNat)).lv^tree 8 t ((collN v now (y+1).toNat)).ks^All8 p ((collN v now (y+1).toNat)).fl) q h.fin
    exact h.keep
   refine w_ite (fun c2=>?_) fun c2=>?_
   ·obtain ⟨f,hf,_⟩:=idle_some c2
    obtain ⟨a,hp,h⟩:=h.outF p (collN v now y.toNat).fl (i:=y.toNat) (by omega) (hfy.trans hf)
    refine w_deref ⟨⟨hy.1,c⟩,?_⟩
    refine w_setTo h b (qL v.c (upP p y.toNat none) l t v.n) rfl (Nat.ble_eq_true_of_le (by show 0+9+y.toNat * 1+1≤20;omega)) (qL_up _ _ _ _ _ y.toNat (by omega) none) fun w h=>?_
    have h:=h.inN p (collN v now y.toNat).fl (i:=y.toNat) (by omega) (upP p y.toNat none) (collN v now (y+1).toNat).fl (fun j e=>upP_ne _ _ e) (fun j e=>by
     unfold collN
     simp only
     have:(j < (y+1).toNat∧idle v j 3000000000 now=true)↔(j < y.toNat∧idle v j 3000000000 now=true):=⟨fun h=>⟨by omega,h.2⟩,fun h=>⟨by omega,h.2⟩⟩
     by_cases h:j < y.toNat∧idle v j 3000000000 now=true
     ·rw [if_pos h,if_pos (this.2 h)]
     ·rw [if_neg h,if_neg (fun x=>h (this.1 x))]) (upP_same _ _ _) (by unfold collN;exact if_pos ⟨by omega,c2⟩)
    exact key (upP p y.toNat none) w h.fin
   ·have e:(collN v now (y+1).toNat).fl=(collN v now y.toNat).fl:=funext fun j=>by
     unfold collN
     simp only
     have:(j < (y+1).toNat∧idle v j 3000000000 now=true)↔(j < y.toNat∧idle v j 3000000000 now=true):=⟨fun h=>⟨by
      have:j≠y.toNat:=fun e=>by have:=h.2;rw [e,c2] at this;cases this
      omega,h.2⟩,fun h=>⟨by omega,h.2⟩⟩
     by_cases h:j < y.toNat∧idle v j 3000000000 now=true
     ·rw [if_pos h,if_pos (this.2 h)]
     ·rw [if_neg h,if_neg (fun x=>h (this.1 x))]
    refine key p w ?_
    rw [e]
    exact h.fin
  ·have c:¬ y < 8:=by simpa using c
   have e:y=8:=by omega
   subst e
   have e:All8 p (collectF v now).fl=All8 p (collN v now (8:Int).toNat).fl:=all_congr _ _ _ _ (fun _ _=>rfl) fun j hj=>by
    show (if _ then _ else _)=(if _ then _ else _)
    by_cases h:idle v j 3000000000 now=true
    ·rw [if_pos h,if_pos ⟨hj,h⟩]
    ·rw [if_neg h,if_neg (fun x=>h x.2)]
   refine Own.retE p ?_
   rw [e]
   exact h.fin
theorem fate_tri (b:Nat) (p:Nat→Option Pt) (l t:Nat) (v:Qm) (hv:OkQ v) (n:Nat) (s:Sg) (now:Int) (hs:0≤sK s∧sK s < 8) (hn:U now):Tri Tryz.prog N_fq_Queue_fate [.lf (.ptr (some ⟨b,0⟩)),.lf (.ptr (some ⟨n,0⟩)),.lf (.int .u64 now)] [.lf (.int .i64)]
  (blk n (Ks.mk KS s)^blk b (qL v.c p l t v.n)^lst l v.lv^tree 8 t v.ks^All8 p v.fl) (fun r=>pur (r=fateF v s now) (blk n (Ks.mk KS (if fateF v s now=0 then drawn v s now else s))^blk b (qL v.c p l t v.n)^lst l v.lv^tree 8 t v.ks^All8 p v.fl)) :=
 tri_0 (call_fq_Queue_fate (some ⟨b,0⟩) (some ⟨n,0⟩) now) fun w0 S R h=>by
  unfold W_fq_Queue_fate
  have hH:U (cH v.c):=by have:=hv.cf.h;unfold U;omega
  refine w_drw h fun w h=>w_deref (w_deref (w_ld h rfl ⟨hs,w_ld h (qL_at _ _ _ _ _ _ (by omega)) ?_⟩))
  refine w_deref (w_ld h rfl (w_call (satadd_tri _ _ hn hH) h fun r w h=>?_))
  obtain ⟨hr,h⟩:=h.purP;rw [hr]
  refine w_join h (fun _=>blk n (Ks.mk KS s)^blk b (qL v.c p l t v.n)^lst l v.lv^tree 8 t v.ks^All8 p v.fl) (fun _=>fateF v s now=0) (fun _ w hx h=>?_) ?_
  ·refine w_deref (w_ld h rfl (w_deref ?_))
   refine w_setTo h n (Ks.mk KS (drawn v s now)) rfl rfl rfl fun w h=>?_
   refine Own.retP hx.symm ?_
   rw [if_pos hx]
   exact h.fin
  refine w_drw h fun w h=>w_deref (w_deref (w_ld h rfl (w_ld h rfl ?_)))
  refine w_ite (fun c=>?_) fun c1=>?_
  ·have c:v.n ≥ cL v.c:=by simpa using c
   have e:fateF v s now=2:=by unfold fateF;rw [if_pos c]
   refine Own.retP e.symm ?_
   rw [e,if_neg (by decide)];exact h.fin
  have c1:¬ v.n ≥ cL v.c:=by simpa using c1
  refine w_join h (fun _=>blk n (Ks.mk KS s)^blk b (qL v.c p l t v.n)^lst l v.lv^tree 8 t v.ks^All8 p v.fl) (fun y:Bool=>y=true↔∃ f,v.fl (sK s).toNat=some f∧(f.sg.length:Int) ≥ cW v.c) (fun y w hx h=>?_) ?_
  ·refine w_ite (fun c=>?_) fun c2=>?_
   ·have e:fateF v s now=3:=by unfold fateF;rw [if_neg c1,if_pos (hx.1 c)]
    refine Own.retP e.symm ?_
    rw [e,if_neg (by decide)];exact h.fin
   have c2:¬ ∃ f,v.fl (sK s).toNat=some f∧(f.sg.length:Int) ≥ cW v.c:=fun x=>by have:=hx.2 x;rw [c2] at this;cases this
   refine w_deref (w_ld h rfl ?_)
   refine w_ite (fun c=>?_) fun c3=>?_
   ·have c:sSt s > addI now (cH v.c):=by simpa using c
    refine w_deref (w_ld h rfl ?_)
    refine w_ite (fun c4=>?_) fun c4=>?_
    ·have e:fateF v s now=4:=by unfold fateF;rw [if_neg c1,if_neg c2,if_pos ⟨c,c4⟩]
     refine Own.retP e.symm ?_
     rw [e,if_neg (by decide)];exact h.fin
    ·exact ⟨by unfold fateF;rw [if_neg c1,if_neg c2,if_neg (fun x=>by rw [c4] at x;cases x.2)],h.fin⟩
   ·have c3:¬ sSt s > addI now (cH v.c):=by simpa using c3
    exact ⟨by unfold fateF;rw [if_neg c1,if_neg c2,if_neg (fun x=>c3 x.1)],h.fin⟩
  refine w_drw h fun w h=>?_
  cases hf:v.fl (sK s).toNat with
  | none =>
   rw [(h.noF p v.fl (i:=(sK s).toNat) (by omega) hf).1]
   refine w_ite (fun c=>(by simp at c)) fun _=>?_
   exact ⟨⟨fun e=>(by cases e),fun ⟨_,e,_⟩=>(by cases e)⟩,h.fin⟩
  | some f =>
   obtain ⟨a,hp,h⟩:=h.outF p v.fl (i:=(sK s).toNat) (by omega) hf
   rw [hp]
   refine w_ite (fun _=>?_) fun c=>(by simp at c)
   obtain ⟨s',h⟩:=h.flow a
   have hs':=(h.rd (s:=s')).2
   refine w_deref (w_deref (w_ld h rfl (w_ld h rfl ?_)))
   have h:=h.mkFlow a s' f
   have h:=h.inF p v.fl (i:=(sK s).toNat) (by omega) p v.fl a f (fun _ _=>rfl) (fun _ _=>rfl) hp hf
   refine ⟨?_,h.fin⟩
   show decide ((s'.len:Int) ≥ cW v.c)=true↔_
   rw [decide_eq_true_eq,hs']
   exact ⟨fun x=>⟨f,rfl,x⟩,fun ⟨g,hg,x⟩=>by cases hg;exact x⟩
theorem wake_eq {v:Qm} (hv:OkQ v) {i:Nat} (now:Int) (hi:plc v i≠0):(wakeF v i now).fl=v.fl∧(wakeF v i now).lv=v.lv:=by
 refine ⟨funext fun j=>?_,?_⟩
 ·by_cases e:j=i
  ·subst e
   show upF v.fl j _ j=_
   rw [upF_same]
   cases hf:v.fl j with
   | none =>
    refine absurd (plc_0.2 ⟨fun h=>?_,fun f h=>by rw [hf] at h;cases h⟩) hi
    obtain ⟨f,h2⟩:=hv.th j h
    rw [hf] at h2;cases h2
   | some f=>unfold woken;rw [hf];simp [hi]
  ·exact upF_ne _ _ e
 ·show wakeL v i=_
  unfold wakeL;rw [if_pos hi]
theorem wake_tri (b:Nat) (p:Nat→Option Pt) (l t:Nat) (v:Qm) (hv:OkQ v) (i now:Int) (hi:0≤i∧i < 8):Tri Tryz.prog N_fq_Queue_wake [.lf (.ptr (some ⟨b,0⟩)),.lf (.int .i64 i),.lf (.int .u64 now)] [] (blk b (qL v.c p l t v.n)^lst l v.lv^tree 8 t v.ks^All8 p v.fl) (fun _=>ex fun p:Nat→Option Pt=>blk b (qL ((wakeF v i.toNat now)).c p l t ((wakeF v i.toNat now)).n)^lst l ((wakeF v i.toNat now)).lv^tree 8 t ((wakeF v i.toNat now)).ks^All8 p ((wakeF v i.toNat now)).fl) :=
 tri_0 (call_fq_Queue_wake (some ⟨b,0⟩) i now) fun w0 S R h=>by
  unfold W_fq_Queue_wake
  have h8:i.toNat < 8:=by omega
  have hi':((i.toNat:Nat):Int)=i:=by omega
  have hl:=hv.lv.few
  have hb:∀ x:Option Pt,Nat.ble (0+9+i.toNat * 1+[Lf.ptr x].length) (qL v.c p l t v.n).length=true:=fun x=>Nat.ble_eq_true_of_le (by show 0+9+i.toNat * 1+1≤20;omega)
  refine w_deref ⟨hi,w_ld h (qL_at _ _ _ _ _ i.toNat h8) ?_⟩
  refine w_join h (fun _=>exq (fun x:(Nat→Option Pt) × Nat × Fl=>(x.1 i.toNat=some ⟨x.2.1,0⟩∧∀ j,j≠i.toNat→x.1 j=p j)∧{ x.2.2 with si:=0 }=woken v i.toNat now) (fun x=>blk b (qL v.c x.1 l t v.n)^lst l v.lv^tree 8 t v.ks^FqC.flow x.2.1 x.2.2^But8 p v.fl i.toNat)) (fun _=>plc v i.toNat=0) (fun _ w hx h=>?_) ?_
  ·obtain ⟨⟨q,a,g⟩,⟨⟨hq,hq2⟩,hg⟩,h⟩:=h.outq1
   dsimp only at hq hq2 hg h
   refine w_deref ⟨hi,w_ld h (qL_at _ _ _ _ _ i.toNat h8) ?_⟩
   dsimp only
   rw [hq]
   obtain ⟨s,h⟩:=h.flow a
   refine w_deref (w_setTo h a [.int .i64 g.cr,.int .u64 g.nx,.int .u64 0,.sl s] rfl rfl rfl fun w h=>?_)
   have h:=h.mkFl a s g.cr g.nx 0 g.sg { g with si:=0 } rfl
   refine w_deref (w_ld h rfl ?_)
   refine w_call (push_tri l v.lv i true (by omega)) h fun r w h=>?_
   obtain ⟨hr,h⟩:=h.purP
   have hw:wakeL v i.toNat=(pushF v.lv i true).2:=by unfold wakeL;rw [if_neg (by rw [hx];simp),hi']
   rw [← hw,hg] at h
   have h:=h.inF p v.fl (i:=i.toNat) h8 q (wakeF v i.toNat now).fl a (woken v i.toNat now) hq2 (fun j e=>upF_ne _ _ e) hq (upF_same _ _ _)
   exact Own.retE q h.fin
  cases hf:v.fl i.toNat with
  | none =>
   obtain ⟨hp,h⟩:=h.noF p v.fl h8 hf
   rw [hp]
   refine w_ite (fun _=>?_) fun c=>(by simp at c)
   refine w_drw h fun w h=>w_deref (w_deref (w_ld h rfl (w_new h fun n8 w h=>⟨hi,?_⟩)))
   refine w_setTo h b (qL v.c (upP p i.toNat (some ⟨n8,0⟩)) l t v.n) rfl (hb _) (qL_up _ _ _ _ _ i.toNat h8 _) fun w h=>?_
   have h:=h.nil KS
   have h:=h.mkFlow n8 ⟨none,0,0⟩ ⟨cF v.c,0,0,[]⟩
   have hp0:plc v i.toNat=0:=plc_0.2 ⟨fun h=>(by obtain ⟨f,h2⟩:=hv.th _ h;rw [hf] at h2;cases h2),fun f h=>(by rw [hf] at h;cases h)⟩
   refine ⟨hp0,(h.inq (f:=fun x:(Nat→Option Pt) × Nat × Fl=>blk b (qL v.c x.1 l t v.n)^lst l v.lv^tree 8 t v.ks^FqC.flow x.2.1 x.2.2^But8 p v.fl i.toNat) (upP p i.toNat (some ⟨n8,0⟩),n8,⟨cF v.c,0,0,[]⟩) ⟨⟨upP_same _ _ _,fun j e=>upP_ne _ _ e⟩,?_⟩).keep⟩
   unfold woken;rw [hf]
  | some f =>
   have hpn:(p i.toNat).isNone=false:=by rw [isN h p v.fl h8,hf];rfl
   refine w_ite (fun c=>(by rw [hpn] at c;cases c)) fun _=>?_
   refine w_call (placeI_tri b p l t v hv.lv i hi) h fun r w h=>?_
   obtain ⟨hr,h⟩:=h.purP;rw [hr]
   refine w_ite (fun c=>?_) fun c=>?_
   ·have c:plc v i.toNat≠0:=by simpa using c
    obtain ⟨e1,e2⟩:=wake_eq hv now c
    refine Own.retE p ?_
    rw [e1,e2]
    exact h.fin
   have c:plc v i.toNat=0:=by simpa using c
   refine w_call (idle_tri b p l t v hv.lv i 40000000 now hi (by unfold U;omega) (fun f hf=>(hv.fl _ f hf).2.si)) h fun r w h=>?_
   obtain ⟨hr,h⟩:=h.purP;rw [hr]
   obtain ⟨a,hp,h⟩:=h.outF p v.fl h8 hf
   rw [hp]
   refine w_ite (fun c2=>?_) fun c2=>?_
   ·obtain ⟨s,h⟩:=h.flow a
    refine w_drw h fun w h=>w_deref (w_deref (w_ld h rfl (w_ld h rfl (w_deref (w_setTo h a [.int .i64 (if cQ v.c > f.cr then cQ v.c else f.cr),.int .u64 f.nx,.int .u64 f.si,.sl s] rfl rfl rfl fun w h=>?_)))))
    have h:=h.mkFl a s (if cQ v.c > f.cr then cQ v.c else f.cr) f.nx f.si f.sg { f with cr:=if cQ v.c > f.cr then cQ v.c else f.cr } rfl
    refine ⟨c,(h.inq (f:=fun x:(Nat→Option Pt) × Nat × Fl=>blk b (qL v.c x.1 l t v.n)^lst l v.lv^tree 8 t v.ks^FqC.flow x.2.1 x.2.2^But8 p v.fl i.toNat) (p,a,{ f with cr:=if cQ v.c > f.cr then cQ v.c else f.cr }) ⟨⟨hp,fun j e=>rfl⟩,?_⟩).keep⟩
    unfold woken;rw [hf];simp [c,c2]
   ·refine ⟨c,(h.inq (f:=fun x:(Nat→Option Pt) × Nat × Fl=>blk b (qL v.c x.1 l t v.n)^lst l v.lv^tree 8 t v.ks^FqC.flow x.2.1 x.2.2^But8 p v.fl i.toNat) (p,a,f) ⟨⟨hp,fun j e=>rfl⟩,?_⟩).keep⟩
    unfold woken;rw [hf];simp [c,c2]
theorem enq_tri (b:Nat) (v:Qm) (hv:OkQ v) (s:Sg) (now:Int) (hs:U (sFr s)∧U (sSt s)) (hn:U now):Tri Tryz.prog N_fq_Queue_Enqueue [.lf (.ptr (some ⟨b,0⟩)),.agg (Ks.mk KS s),.lf (.int .u64 now)] [.lf (.int .i64),.lf (.int .i64)] (que b v) (fun r=>pur (r=(enqF v s now).1) (que b (enqF v s now).2)) :=
 tri_0 (call_fq_Queue_Enqueue (some ⟨b,0⟩) s now) fun w0 S R h=>by
  unfold W_fq_Queue_Enqueue
  refine w_new h fun n w h=>w_ite (fun c=>(by simp at c)) fun _=>w_ld h rfl (w_call (within_tri _ _ _) h fun r w h=>?_)
  obtain ⟨hr,h⟩:=h.purP;rw [hr]
  refine w_ite (fun c=>?_) fun c=>?_
  ·have c:¬ (0≤sK s∧sK s≤7):=by simpa only [Bool.not_eq_true',decide_eq_false_iff_not] using c
   have e:enqF v s now=((0,8),v):=by unfold enqF;rw [if_pos c]
   rw [e]
   exact Own.retP rfl h.fin
  have c1:0≤sK s∧sK s≤7:=by simpa using c
  refine w_ld h rfl (w_call (within_tri _ _ _) h fun r w h=>?_)
  obtain ⟨hr,h⟩:=h.purP;rw [hr]
  refine w_ite (fun c=>?_) fun c=>?_
  ·have c:¬ (1≤sLn s∧sLn s≤65536):=by simpa only [Bool.not_eq_true',decide_eq_false_iff_not] using c
   have e:enqF v s now=((0,1),v):=by unfold enqF;rw [if_neg (by simpa using c1),if_pos c]
   rw [e]
   exact Own.retP rfl h.fin
  have c2:1≤sLn s∧sLn s≤65536:=by simpa using c
  obtain ⟨p,l,t,h⟩:=h.que b
  refine w_call (collect_tri b p l t v hv now) h fun _ w h=>?_
  obtain ⟨p,h⟩:=h.exP
  have hc:=hv.collect now
  refine w_call (fate_tri b p l t (collectF v now) hc n s now (by omega) hn) h fun r w h=>?_
  obtain ⟨hr,h⟩:=h.purP;rw [hr]
  refine w_ite (fun c=>?_) fun c=>?_
  ·have c:fateF (collectF v now) s now=0:=by simpa using c
   have e:enqF v s now=((0,0),addS (wakeF (collectF v now) (sK s).toNat now) (sK s).toNat (drawn v s now)):=by unfold enqF;rw [if_neg (by simpa using c1),if_neg (by simpa using c2),if_pos c]
   rw [if_pos c] at h
   rw [e,c]
   have ed:drawn (collectF v now) s now=drawn v s now:=rfl
   rw [ed] at h
   have hnn:v.n < 512:=by
    unfold fateF at c
    split at c
    ·cases c
    ·rename_i h4
     have h5:=hc.cf.l
     have:¬ v.n ≥ cL v.c:=h4
     have h5:1≤cL v.c∧cL v.c≤512:=h5
     omega
   have hd:OkS (drawn v s now):=drawn_ok hv hs c2 hn
   refine w_ld h rfl (w_call (wake_tri b p l t (collectF v now) hc (sK s) now (by omega)) h fun _ w h=>?_)
   obtain ⟨p,h⟩:=h.exP
   have hw:(wakeF (collectF v now) (sK s).toNat now).fl (sK s).toNat=some (woken (collectF v now) (sK s).toNat now):=upF_same _ _ _
   have hlen:(woken (collectF v now) (sK s).toNat now).sg.length≤512:=by
    rw [woken_sg]
    cases hh:(collectF v now).fl (sK s).toNat with
    | none=>simp
    | some f=>exact (hc.len hh).2
   refine w_drw h fun w h=>w_ld h rfl (w_deref ⟨by show 0≤sK s∧sK s < 8;omega,w_ld h (qL_at _ _ _ _ _ (sK s).toNat (by omega)) ?_⟩)
   refine w_drw h fun w h=>w_ldAll (b:=n) (x:=drawn v s now) h rfl ?_
   obtain ⟨a,hp,h⟩:=h.outF p (wakeF (collectF v now) (sK s).toNat now).fl (i:=(sK s).toNat) (by omega) hw
   rw [hp]
   obtain ⟨g,hg⟩:∃ g,g=woken (collectF v now) (sK s).toNat now:=⟨_,rfl⟩
   rw [← hg] at h hlen
   obtain ⟨sl,h⟩:=h.flow a
   refine w_deref (w_ld h rfl (w_new h fun n16 w h=>w_chk h rfl ?_))
   have h:=h.blkArr n16 KS [drawn v s now] rfl (by simp)
   refine w_app (s:=sl) (x:=⟨some ⟨n16,0⟩,1,1⟩) (ys:=[drawn v s now]) h rfl (by show g.sg.length+1≤_;omega) fun s17 w _ h=>?_
   refine w_deref (w_setTo h a [.int .i64 g.cr,.int .u64 g.nx,.int .u64 g.si,.sl s17] rfl rfl rfl fun w h=>w_deref (w_ld h rfl (w_deref ?_)))
   have h:=h.mkFl a s17 g.cr g.nx g.si (g.sg++[drawn v s now]) { g with sg:=g.sg++[drawn v s now] } rfl
   have h:=h.inF p (wakeF (collectF v now) (sK s).toNat now).fl (i:=(sK s).toNat) (by omega) p (addS (wakeF (collectF v now) (sK s).toNat now) (sK s).toNat (drawn v s now)).fl a { g with sg:=g.sg++[drawn v s now] } (fun _ _=>rfl) (fun j e=>by
    rw [FqM.add_eq]
    exact (upF_ne _ _ e).trans (upF_ne (collectF v now).fl (some (woken (collectF v now) (sK s).toNat now)) e).symm) hp (by rw [FqM.add_eq,hg];exact upF_same _ _ _)
   have hnw:IntKind.i64.wrap (v.n+1)=v.n+1:=wi (by have:=hv.n0;omega) (by omega)
   refine w_set h rfl fun w h=>?_
   refine Own.retP rfl ?_
   have h:=h.blkEq (b:=b) (L':=qL v.c p l t (v.n+1)) (by rw [show qL v.c p l t (v.n+1)=qL v.c p l t (IntKind.i64.wrap (v.n+1)) by rw [hnw]];rfl)
   have h:Own w0 S R w (blk b (qL (addS (wakeF (collectF v now) (sK s).toNat now) (sK s).toNat (drawn v s now)).c p l t (addS (wakeF (collectF v now) (sK s).toNat now) (sK s).toNat (drawn v s now)).n)^lst l (addS (wakeF (collectF v now) (sK s).toNat now) (sK s).toNat (drawn v s now)).lv^tree 8 t (addS (wakeF (collectF v now) (sK s).toNat now) (sK s).toNat (drawn v s now)).ks^All8 p (addS (wakeF (collectF v now) (sK s).toNat now) (sK s).toNat (drawn v s now)).fl^emp):=by
    rw [FqM.add_eq] at h ⊢
    exact h.fin
   exact (h.mkQue b p l t (addS (wakeF (collectF v now) (sK s).toNat now) (sK s).toNat (drawn v s now))).keep
  ·have c:¬ fateF (collectF v now) s now=0:=by simpa using c
   have e:enqF v s now=((fateF (collectF v now) s now,0),collectF v now):=by unfold enqF;rw [if_neg (by simpa using c1),if_neg (by simpa using c2),if_neg c]
   rw [e]
   refine Own.retP rfl ?_
   exact (h.mkQue b p l t (collectF v now)).keep
end FqD

namespace FqE
open Arith ArithC Lists _root_.Go.X.Tree TreeC TreeD TreeE TreeF FqM FqC FqD
theorem time_tri (a:Nat) (f:Fl) (hf:f.sg≠[]):Tri Tryz.prog N_fq_flow_time [.lf (.ptr (some ⟨a,0⟩))] [.lf (.int .u64)] (FqC.flow a f) (fun r=>pur (r=timeF f) (FqC.flow a f)) :=
 tri_0 (call_fq_flow_time (some ⟨a,0⟩)) fun w0 S R h=>by
  unfold W_fq_flow_time
  obtain ⟨s,h⟩:=h.flow a
  cases hs:f.sg with
  | nil=>exact absurd hs hf
  | cons x l =>
   rw [hs] at h
   refine w_drw h fun w h=>w_deref (w_deref (w_ld h rfl (w_ld h rfl (w_idx (s:=s) h (by decide) (by simp) ?_))))
   refine w_ldA h s 0 3 x rfl rfl (by decide) rfl ?_
   have h:=h.mkFl a s f.cr f.nx f.si (x :: l) f (by rw [← hs])
   refine Own.retP ?_ h.fin
   unfold timeF;rw [hs]
theorem key_tri (a:Nat) (f:Fl) (hf:f.sg≠[]) (i:Int) (hi:0≤i∧i < 8):Tri Tryz.prog N_fq_key [.lf (.ptr (some ⟨a,0⟩)),.lf (.int .i64 i)] [.agg [.int .u64,.int .u64]] (FqC.flow a f) (fun r=>pur (r=(timeF f,i)) (FqC.flow a f)) :=
 tri_0 (call_fq_key (some ⟨a,0⟩) i) fun w0 S R h=>by
  unfold W_fq_key
  refine w_new h fun n w h=>w_call (time_tri a f hf) h fun r w h=>?_
  obtain ⟨hr,h⟩:=h.purP;rw [hr]
  refine w_setAll h (by rfl) fun w h=>w_ldAll (b:=n) (x:=(timeF f,IntKind.u64.wrap i)) h rfl ?_
  rw [wu (n:=i) (by omega) (by omega)]
  exact Own.retP rfl h.fin
theorem send_tri (b:Nat) (p:Nat→Option Pt) (l t:Nat) (v:Qm) (hc:OkC v.c) (hn:1≤v.n∧v.n≤512) (a:Nat) (f:Fl) (i:Nat) (hf:OkF i f) (s:Sg) (ss:List Sg) (hs:f.sg=s :: ss) (hl:f.sg.length≤512) (now rate:Int) (hw:U now) (hr:U rate) :
  Tri Tryz.prog N_fq_Queue_send [.lf (.ptr (some ⟨b,0⟩)),.lf (.ptr (some ⟨a,0⟩)),.lf (.int .u64 now),.lf (.int .u64 rate)] [.agg KS] (blk b (qL v.c p l t v.n)^FqC.flow a f)
   (fun r=>pur (r=s) (blk b (qL v.c p l t (v.n - 1))^FqC.flow a { f with cr:=f.cr - sLn s,nx:=addI now (delayI (sLn s) (lessI rate (cR v.c))),sg:=f.sg.tail })) :=
 tri_0 (call_fq_Queue_send (some ⟨b,0⟩) (some ⟨a,0⟩) now rate) fun w0 S R h=>by
  unfold W_fq_Queue_send
  obtain ⟨hok,hok2⟩:=hf.sg s (by rw [hs];simp)
  have hok3:=hok2.ln
  have hcr:=hf.cr
  have hL:U (lessI rate (cR v.c)):=U_less hr hc.r
  have hD:U (delayI (sLn s) (lessI rate (cR v.c))):=U_delay (by omega) hL
  obtain ⟨sl,h⟩:=h.flow a
  have hsl:=(h.rd (s:=sl)).2
  have hcap:=own_cap (s:=sl) (K:=KS) (xs:=f.sg) h
  have hsl':sl.len=ss.length+1:=by rw [hsl,hs];rfl
  refine w_new h fun n1 w h=>w_deref (w_ld h rfl (w_idx (s:=sl) h (by decide) (by rw [hs];simp) ?_))
  refine w_ldE h sl 0 (y:=s) (by rw [hs];rfl) rfl (w_new h fun n6 w h=>w_setAll h (by rfl) fun w h=>w_deref (w_ld h rfl ?_))
  refine w_slc (s:=sl) h 1 sl.len sl.cap rfl rfl rfl rfl (by omega) (by omega) (by omega) (by omega) fun s9 h1 h2 h=>?_
  have ht:(f.sg.take sl.len).drop 1=f.sg.tail:=by rw [List.take_of_length_le (by omega),List.drop_one]
  rw [ht] at h
  refine w_deref (w_setTo h a [.int .i64 f.cr,.int .u64 f.nx,.int .u64 f.si,.sl s9] rfl rfl rfl fun w h=>?_)
  have hnw:IntKind.i64.wrap (v.n - 1)=v.n - 1:=wi (by omega) (by omega)
  refine w_deref (w_ld h rfl (w_deref (w_setTo h b (qL v.c p l t (v.n - 1)) rfl rfl (by rw [show qL v.c p l t (v.n - 1)=qL v.c p l t (IntKind.i64.wrap (v.n - 1)) by rw [hnw]];rfl) fun w h=>?_)))
  have hcw:IntKind.i64.wrap (f.cr - sLn s)=f.cr - sLn s:=wi (by omega) (by omega)
  refine w_drw h fun w h=>w_deref (w_ld h rfl (w_ld h rfl (w_deref (w_setTo h a [.int .i64 (f.cr - sLn s),.int .u64 f.nx,.int .u64 f.si,.sl s9] rfl rfl (by rw [show ([.int .i64 (f.cr - sLn s),.int .u64 f.nx,.int .u64 f.si,.sl s9]:List Lf)=[.int .i64 (IntKind.i64.wrap (f.cr - sLn s)),.int .u64 f.nx,.int .u64 f.si,.sl s9] by rw [hcw]];rfl) fun w h=>?_))))
  refine w_drw h fun w h=>w_ld h rfl (w_deref (w_ld h rfl (w_call (less_tri rate (cR v.c) hr hc.r) h fun r w h=>?_)))
  obtain ⟨he,h⟩:=h.purP;rw [he]
  refine w_chk h rfl (w_call (delay_tri (sLn s) _ (by omega) hL) h fun r w h=>?_)
  obtain ⟨he,h⟩:=h.purP;rw [he]
  refine w_call (satadd_tri _ _ hw hD) h fun r w h=>?_
  obtain ⟨he,h⟩:=h.purP;rw [he]
  refine w_deref (w_setTo h a [.int .i64 (f.cr - sLn s),.int .u64 (addI now (delayI (sLn s) (lessI rate (cR v.c)))),.int .u64 f.si,.sl s9] rfl rfl rfl fun w h=>?_)
  have h:=h.mkFl a s9 (f.cr - sLn s) (addI now (delayI (sLn s) (lessI rate (cR v.c)))) f.si f.sg.tail { f with cr:=f.cr - sLn s,nx:=addI now (delayI (sLn s) (lessI rate (cR v.c))),sg:=f.sg.tail } rfl
  refine w_ldAll (b:=n6) (x:=s) h rfl (w_setAll h (by rfl) fun w h=>w_ldAll (b:=n1) (x:=s) h rfl ?_)
  exact Own.retP rfl h.fin
def hasF (v:Qm) (i:Int):Bool:=decide (0≤i∧i≤7) && (v.fl i.toNat).isSome
theorem has_tri (b:Nat) (p:Nat→Option Pt) (l t:Nat) (v:Qm) (i:Int):Tri Tryz.prog N_fq_Queue_has [.lf (.ptr (some ⟨b,0⟩)),.lf (.int .i64 i)] [.lf .bool] (blk b (qL v.c p l t v.n)^lst l v.lv^tree 8 t v.ks^All8 p v.fl) (fun r=>pur (r=hasF v i) (blk b (qL v.c p l t v.n)^lst l v.lv^tree 8 t v.ks^All8 p v.fl)) :=
 tri_0 (call_fq_Queue_has (some ⟨b,0⟩) i) fun w0 S R h=>by
  unfold W_fq_Queue_has hasF
  refine w_ite (fun _=>?_) fun c=>(by simp at c)
  refine w_call (within_tri _ _ _) h fun r w h=>?_
  obtain ⟨hr,h⟩:=h.purP;rw [hr]
  refine w_ite (fun c=>?_) fun c=>?_
  ·have c':0≤i∧i≤7:=of_decide_eq_true c
   refine w_deref ⟨by omega,w_ld h (qL_at _ _ _ _ _ i.toNat (by omega)) ?_⟩
   refine Own.retP ?_ h.fin
   rw [isN h p v.fl (i:=i.toNat) (by omega),decide_eq_true c']
   cases v.fl i.toNat<;>rfl
  ·refine Own.retP ?_ h.fin
   rw [show decide (0≤i∧i≤7)=false from c];rfl
theorem set_tri (b:Nat) (v:Qm) (c:Cf):Tri Tryz.prog N_fq_Queue_Set [.lf (.ptr (some ⟨b,0⟩)),.agg (Ks.mk KC c)] [.lf (.int .i64)] (que b v) (fun r=>pur (r=(setF v c).1) (que b (setF v c).2)) :=
 tri_0 (call_fq_Queue_Set (some ⟨b,0⟩) c) fun w0 S R h=>by
  unfold W_fq_Queue_Set setF
  refine w_new h fun n1 w h=>w_ite (fun c=>(by simp at c)) fun _=>w_ldAll (b:=n1) (x:=c) h rfl (w_call (may_tri c) h fun r w h=>?_)
  obtain ⟨hr,h⟩:=h.purP;rw [hr]
  refine w_ite (fun c1=>?_) fun c1=>?_
  ·rw [if_neg (by simpa using c1)]
   exact Own.retP rfl h.fin
  ·rw [if_pos (by simpa using c1)]
   obtain ⟨p,l,t,h⟩:=h.que b
   refine w_ldAll (b:=n1) (x:=c) h rfl (w_deref (w_setTo h b (qL c p l t v.n) rfl rfl rfl fun w h=>?_))
   exact Own.retP rfl (h.mkQue b p l t { v with c:=c }).fin
theorem new_tri (c:Cf):Tri Tryz.prog N_fq_New [.agg (Ks.mk KC c)] [.lf .ptr,.lf (.int .i64)] emp (fun r=>ex fun b:Nat=>pur (r=if may c then (some ⟨b,0⟩,0) else (none,13)) (if may c then que b (newF c) else emp)) :=
 tri_0 (call_fq_New c) fun w0 S R h=>by
  unfold W_fq_New
  refine w_new h fun n1 w h=>w_ldAll (b:=n1) (x:=c) h rfl (w_call (may_tri c) h fun r w h=>?_)
  obtain ⟨hr,h⟩:=h.purP;rw [hr]
  refine w_ite (fun c1=>?_) fun c1=>?_
  ·have c1:¬ may c=true:=by simpa using c1
   refine Own.retE 0 (Own.retP ?_ ?_)
   ·rw [if_neg c1]
   ·rw [if_neg c1];exact h.emp'
  ·have c1:may c=true:=by simpa using c1
   refine w_drw h fun w h=>w_ldAll (b:=n1) (x:=c) h rfl (w_call Lists.new_tri h fun r w h=>?_)
   obtain ⟨l,h⟩:=h.exP
   obtain ⟨hr,h⟩:=h.purP;rw [hr]
   refine w_chkAll (b:=n1) h (w_call (TreeC.new_tri 8) h fun r w h=>?_)
   obtain ⟨t,h⟩:=h.exP
   obtain ⟨hr,h⟩:=h.purP;rw [hr]
   refine w_chkAll (b:=n1) h (w_new h fun b w h=>?_)
   have hA:Own w0 S R w (All8 (fun _=>none) (fun _=>none)^tree 8 t []^lst l ([],[])^blk b (qL c (fun _=>none) l t 0)^emp):=by
    have h:Own w0 S R w (emp^emp^emp^emp^emp^emp^emp^emp^emp^tree 8 t []^lst l ([],[])^blk b (qL c (fun _=>none) l t 0)^emp):=by
     have h:Own w0 S R w (tree (room 8) t []^lst l ([],[])^blk b (qL c (fun _=>none) l t 0)^emp):=h.fin
     have hE:∀ {F:SP},Own w0 S R w F→Own w0 S R w (emp^F):=fun h=>h.le ((star_emp _).trans (star_comm _ _))
     exact hE (hE (hE (hE (hE (hE (hE (hE (hE h))))))))
    have hp:∀ {F:SP},Le (emp^F) (flowP none none^F):=star_mono (fun _ _ _ h=>⟨rfl,h⟩) Le.rfl
    have e:All8 (fun _=>none) (fun _=>none)=flowP none none^flowP none none^flowP none none^flowP none none^flowP none none^flowP none none^flowP none none^flowP none none^emp:=rfl
    rw [e]
    refine h.le (Le.trans ?_ (star_assoc' _ _ _))
    refine hp.trans (star_mono Le.rfl (Le.trans ?_ (star_assoc' _ _ _)))
    refine hp.trans (star_mono Le.rfl (Le.trans ?_ (star_assoc' _ _ _)))
    refine hp.trans (star_mono Le.rfl (Le.trans ?_ (star_assoc' _ _ _)))
    refine hp.trans (star_mono Le.rfl (Le.trans ?_ (star_assoc' _ _ _)))
    refine hp.trans (star_mono Le.rfl (Le.trans ?_ (star_assoc' _ _ _)))
    refine hp.trans (star_mono Le.rfl (Le.trans ?_ (star_assoc' _ _ _)))
    refine hp.trans (star_mono Le.rfl (Le.trans ?_ (star_assoc' _ _ _)))
    exact hp.trans (star_mono Le.rfl Le.rfl)
   refine Own.retE b (Own.retP ?_ ?_)
   ·rw [if_pos c1]
   ·rw [if_pos c1]
    exact (hA.mkQue b (fun _=>none) l t (newF c)).keep
theorem min_tri (b:Nat) (v:Qm):Tri Tryz.prog N_fq_Queue_Watchdog [.lf (.ptr (some ⟨b,0⟩))] [.lf (.int .u64),.lf .bool] (que b v) (fun r=>pur (r=((minF v.ks).1.1,(minF v.ks).2)) (que b v)) :=
 tri_0 (call_fq_Queue_Watchdog (some ⟨b,0⟩)) fun w0 S R h=>by
  unfold W_fq_Queue_Watchdog
  refine w_ite (fun c=>(by simp at c)) fun _=>?_
  obtain ⟨p,l,t,h⟩:=h.que b
  refine w_deref (w_ld h rfl (w_call (TreeF.min_tri t 8 v.ks) h fun r w h=>?_))
  obtain ⟨hr,h⟩:=h.purP;rw [hr]
  refine w_new h fun n w h=>w_setAll h (by rfl) fun w h=>w_ld h rfl ?_
  exact Own.retP rfl (h.mkQue b p l t v).fin
abbrev noF:Int × Int × Int × Int × Int × Sl:=(0,0,0,0,0,⟨none,0,0⟩)
theorem close_tri (b:Nat) (v:Qm) (hv:OkQ v) (i:Int):Tri Tryz.prog N_fq_Queue_Close [.lf (.ptr (some ⟨b,0⟩)),.lf (.int .i64 i)] [.lf .sl] (que b v) (fun r=>arr r KS (closeF v i).1^que b (closeF v i).2) :=
 tri_0 (call_fq_Queue_Close (some ⟨b,0⟩) i) fun w0 S R h=>by
  unfold W_fq_Queue_Close
  obtain ⟨p,l,t,h⟩:=h.que b
  refine w_call (has_tri b p l t v i) h fun r w h=>?_
  obtain ⟨hr,h⟩:=h.purP;rw [hr]
  refine w_ite (fun c=>?_) fun c=>?_
  ·have c:hasF v i=false:=by simpa using c
   have h:=(h.mkQue b p l t v).nil KS
   have e:closeF v i=([],v):=by
    unfold closeF
    split
    ·rfl
    ·rename_i hi
     have hi:0≤i∧i≤7:=Decidable.not_not.1 hi
     unfold hasF at c
     rw [decide_eq_true hi] at c
     cases hf:v.fl i.toNat with
     | none=>rfl
     | some f=>rw [hf] at c;cases c
   rw [e]
   exact h.fin
  ·have c:hasF v i=true:=by simpa using c
   unfold hasF at c
   simp only [Bool.and_eq_true,decide_eq_true_eq,Option.isSome_iff_exists] at c
   obtain ⟨hi,f,hf⟩:=c
   have hlen:=hv.len hf
   have hi8:i.toNat < 8:=by omega
   have hi':((i.toNat:Nat):Int)=i:=by omega
   have hl:=hv.lv.few
   have hn:=hv.le
   have hn0:=hv.n0
   refine w_deref ⟨by omega,w_ld h (qL_at _ _ _ _ _ i.toNat hi8) ?_⟩
   obtain ⟨a,hp,h⟩:=h.outF p v.fl hi8 hf
   rw [hp]
   refine w_join h (fun _=>blk b (qL v.c p l t v.n)^lst l v.lv^tree 8 t (closeF v i).2.ks^FqC.flow a f^But8 p v.fl i.toNat) (fun _=>True) (fun _ w _ h=>?_) ?_
   ·refine w_deref (w_ld h rfl (w_call (remove_tri l v.lv i (by omega)) h fun r w h=>?_))
    obtain ⟨_,h⟩:=h.purP
    rw [show (removeF v.lv i).2=outF v.lv i from rfl] at h
    refine w_deref ⟨by omega,?_⟩
    refine w_setTo h b (qL v.c (upP p i.toNat none) l t v.n) rfl (Nat.ble_eq_true_of_le (by show 0+9+i.toNat * 1+1≤20;omega)) (qL_up _ _ _ _ _ i.toNat hi8 none) fun w h=>?_
    obtain ⟨s,h⟩:=h.flow a
    have hs:=(h.rd (s:=s)).2
    have hnw:IntKind.i64.wrap (v.n - ((s.len:Nat):Int))=v.n - f.sg.length:=by rw [hs];exact wi (by omega) (by omega)
    refine w_drw h fun w h=>w_deref (w_deref (w_ld h rfl (w_ld h rfl (w_deref ?_))))
    refine w_setTo h b (qL v.c (upP p i.toNat none) l t (v.n - f.sg.length)) rfl rfl (by rw [← hnw];rfl) fun w h=>?_
    refine w_deref (w_ld h rfl ?_)
    refine w_callL (clone_tri s f.sg (by omega)) h fun s2 w h=>?_
    have h:=h.inN p v.fl hi8 (upP p i.toNat none) (upF v.fl i.toNat none) (fun j e=>upP_ne _ _ e) (fun j e=>upF_ne _ _ e) (upP_same _ _ _) (upF_same _ _ _)
    have e:closeF v i=(f.sg,{ v with fl:=upF v.fl i.toNat none,lv:=outF v.lv i,ks:=(closeF v i).2.ks,n:=v.n - f.sg.length }):=by
     unfold closeF
     rw [if_neg (fun x=>x hi),hf]
    have h:=h.mkQue b (upP p i.toNat none) l t { v with fl:=upF v.fl i.toNat none,lv:=outF v.lv i,ks:=(closeF v i).2.ks,n:=v.n - f.sg.length }
    rw [← show (closeF v i).2={ v with fl:=upF v.fl i.toNat none,lv:=outF v.lv i,ks:=(closeF v i).2.ks,n:=v.n - f.sg.length } from congrArg Prod.snd e] at h
    have e1:(closeF v i).1=f.sg:=congrArg Prod.fst e
    rw [e1]
    exact h.fin
   ·obtain ⟨s,h⟩:=h.flow a
    refine w_call (placeO_tri b p l t v hv.lv i (by omega) a s f hf hp) h fun r w h=>?_
    obtain ⟨hr,h⟩:=h.purP;rw [hr]
    have h:=h.mkFlow a s f
    have ek:(closeF v i).2.ks=if plc v i.toNat=3 then v.ks.erase (timeF f,i) else v.ks:=by
     unfold closeF
     rw [if_neg (fun x=>x hi),hf]
    rw [ek]
    refine w_ite (fun c=>?_) fun c=>?_
    ·have c:plc v i.toNat=3:=by simpa using c
     obtain ⟨h3,g,hg,hg2⟩:=plc_3.1 c
     rw [hf] at hg
     cases hg
     have hk:(timeF f,i)∈v.ks:=(hv.ks _).2 ⟨i.toNat,f,hf,hg2,h3,by rw [hi']⟩
     refine w_drw h fun w h=>w_deref (w_ld h rfl (w_call (key_tri a f hg2 i (by omega)) h fun r w h=>?_))
     obtain ⟨hr,h⟩:=h.purP;rw [hr]
     refine w_chk h rfl (w_call (delete_tri t 8 v.ks (timeF f,i)) h fun r w h=>?_)
     obtain ⟨_,h⟩:=h.purP
     rw [if_pos c]
     have ed:delK v.ks (timeF f,i)=(0,v.ks.erase (timeF f,i)):=by unfold delK;rw [if_pos hk]
     rw [ed] at h
     exact ⟨trivial,h.fin⟩
    ·have c:¬ plc v i.toNat=3:=by simpa using c
     rw [if_neg c]
     exact ⟨trivial,h.fin⟩
end FqE

end Go.X
