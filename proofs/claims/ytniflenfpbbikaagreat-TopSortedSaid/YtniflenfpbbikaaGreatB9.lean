/- Contracts and plain facts: EgG EgH EgI EgJ EgK EgP EgQ EgT TsA MapW TsB ScR TsC TsD. -/
import Derived.Test.YtniflenfpbbikaaGreatB0
import Derived.Test.YtniflenfpbbikaaGreatB1
import Derived.Test.YtniflenfpbbikaaGreatB2
import Derived.Test.YtniflenfpbbikaaGreatB3
import Derived.Test.YtniflenfpbbikaaGreatB4
import Derived.Test.YtniflenfpbbikaaGreatB5
import Derived.Test.YtniflenfpbbikaaGreatB6
import Derived.Test.YtniflenfpbbikaaGreatB7
import Derived.Test.YtniflenfpbbikaaGreatB8
import Derived.Test.YtniflenfpbbikaaGreatK
import Derived.Test.YtniflenfpbbikaaGreatF0
import Derived.Test.YtniflenfpbbikaaGreatF1
import Derived.Test.YtniflenfpbbikaaGreatF2
set_option linter.unusedVariables false
set_option linter.unusedSimpArgs false
set_option linter.unusedSectionVars false
namespace Go.X
open Go.Proofs
namespace EgG
open Arith ArithC FqM EgM
class NoS (A:SP):Prop where
 nos:∀ w S R,A.h w S R→∀ k,¬ S k
instance (s:Sl) (K:Ks) (xs:List (Ks.T K)):NoS (rarr s K xs):=⟨fun _ _ _ h=>h.2.1⟩
instance:NoS emp:=⟨fun _ _ _ h=>h.1⟩
instance (A B:SP) [a:NoS A] [b:NoS B]:NoS (A^B):=⟨fun _ _ _ ⟨_,_,_,_,h1,h2,hS,_⟩ k hk=>((hS k).1 hk).elim (a.nos _ _ _ h1 k) (b.nos _ _ _ h2 k)⟩
theorem noS_rl {α:Type} (f:α→SP) (h:∀ x,NoS (f x)):∀ l:List α,NoS (rl f l)
 | []=>by unfold rl;infer_instance
 | x :: l=>by have:=noS_rl f h l;have:=h x;unfold rl;infer_instance
instance {α:Type} (f:α→SP) (l:List α) [h:∀ x,NoS (f x)]:NoS (rl f l):=noS_rl f h l
instance (priority:=300) lend_take (A F G:SP) [t:Take A F G] [n:NoS A]:Lend A F:=⟨fun w S R h=>by
 obtain ⟨S1,R1,S2,R2,h1,h2,hS,hR,_⟩:=t.le w S R h
 have e:S1=fun _=>False:=funext fun k=>eq_false (n.nos _ _ _ h1 k)
 rw [e] at h1
 exact ⟨R1,h1,fun k hk=>.inr ((hR k).2 (.inl hk))⟩⟩
abbrev KR:Ks:=[.int .u64,.int .u64]
abbrev OpE:=Dd × List (Ks.T KR)
abbrev opsE (s:Sl) (ps:List OpE):SP:=rarr s KD (ps.map Prod.fst)^rl (fun p:OpE=>rarr (dR p.1) KR p.2) ps
def deedF (d:Dd):Dd:=(dK d,dS d,(if dL d > 200000 then 200000 else dL d),dU d,dA d,(if (dR d).len > 6 then (dR d).sub 0 6 (dR d).cap 2 else dR d),dC d)
def deedsF (most:Int) (ps:List OpE):List OpE:=(ps.take most.toNat).map fun p=>(deedF p.1,p.2.take 6)
structure OkE (p:OpE):Prop where
 l:-9223372036854775808≤dL p.1∧dL p.1 < 9223372036854775808
 u:U (dU p.1)
 a:U (dA p.1)
 c:0≤cH (dC p.1)∧U (cR (dC p.1))
 n:p.2.length≤9223372036854775807
 cp:(dR p.1).len≤(dR p.1).cap
theorem okE_of {p:OpE} (h:∀ k n,Lf.int k n∈Ks.mk KD p.1→(Lit.int k n).wf=true) (hm:p.2.length≤maxLen) (hc:(dR p.1).len≤(dR p.1).cap):OkE p where
 l:=Wf.i (h .i64 (dL p.1) (List.mem_of_getElem? (i:=2) rfl))
 u:=Wf.u (h .u64 (dU p.1) (List.mem_of_getElem? (i:=3) rfl))
 a:=Wf.u (h .u64 (dA p.1) (List.mem_of_getElem? (i:=4) rfl))
 c:=⟨(Wf.u (h .u64 (cH (dC p.1)) (List.mem_of_getElem? (i:=10) rfl))).1,Wf.u (h .u64 (cR (dC p.1)) (List.mem_of_getElem? (i:=11) rfl))⟩
 n:=hm
 cp:=hc
theorem rd_dR {ps:List OpE} {i:Nat} {o:OpE} (h:ps[i]?=some o):Rd (dR o.1) (rl (fun p:OpE=>rarr (dR p.1) KR p.2) ps) KR o.2:=rd_rl h (rd_rarr _ _ _)
theorem rd_deed (p:OpE) (F:SP) (hc:(dR p.1).len≤(dR p.1).cap) (hl:(dR p.1).len=p.2.length) [t:Rd (dR p.1) F KR p.2]:Rd (dR (deedF p.1)) F KR (p.2.take 6):=by
 show Rd (if (dR p.1).len > 6 then (dR p.1).sub 0 6 (dR p.1).cap 2 else dR p.1) F KR (p.2.take 6)
 by_cases h:(dR p.1).len > 6
 ·rw [if_pos h]
  exact rd_sub (dR p.1) F KR p.2 0 6 (dR p.1).cap (by omega) (by omega) (by omega)
 ·rw [if_neg h,List.take_of_length_le (by omega)];exact t
abbrev zD:List Lf:=[.int .i64 0,.int .i64 0,.int .i64 0,.int .u64 0,.int .u64 0,.sl ⟨none,0,0⟩,.int .i64 0,.int .i64 0,.int .i64 0,.int .i64 0,.int .u64 0,.int .u64 0,.bool false,.int .i64 0,.int .i64 0]
theorem deed_tri (d:Dd) (xs:List (Ks.T KR)) (hc:(dR d).len≤(dR d).cap):Tri Tryz.prog N_canterplay_Deed [.agg (Ks.mk KD d)] [.agg KD] (emp^rarr (dR d) KR xs) (fun r=>pur (r=deedF d) emp) :=
 tri_0 (call_canterplay_Deed d) fun w0 S R h=>by
  unfold W_canterplay_Deed
  have hs:=(h.drop.rd (s:=dR d)).2
  obtain ⟨R',hR'⟩:∃ R',R'=(if (dR d).len > 6 then (dR d).sub 0 6 (dR d).cap 2 else dR d):=⟨_,rfl⟩
  obtain ⟨L',hL'⟩:∃ L',L'=(if dL d > 200000 then 200000 else dL d):=⟨_,rfl⟩
  have e:deedF d=(dK d,dS d,L',dU d,dA d,R',dC d):=by rw [hL',hR'];rfl
  refine w_new h fun n1 w h=>w_new h fun n2 w h=>?_
  have h:Own w0 S R w (blk n1 (Ks.mk KD d)^blk n2 zD^rarr (dR d) KR xs^emp):=h.fin
  refine w_join h (fun _=>blk n1 (Ks.mk KD (dK d,dS d,dL d,dU d,dA d,R',dC d))^blk n2 zD^emp) (fun _=>True) (fun _ w _ h=>?_) ?_
  ·refine w_join h (fun _=>blk n1 (Ks.mk KD (dK d,dS d,L',dU d,dA d,R',dC d))^blk n2 zD^emp) (fun _=>True) (fun _ w _ h=>?_) ?_
   ·refine w_ldAll (b:=n1) (x:=((dK d,dS d,L',dU d,dA d,R',dC d):Dd)) h rfl (w_setAll h (by rfl) fun w h=>w_ldAll (b:=n2) (x:=((dK d,dS d,L',dU d,dA d,R',dC d):Dd)) h rfl ?_)
    exact Own.retP e.symm h.emp'
   ·refine w_ld (x:=dL d) h rfl (w_ite (fun c=>?_) fun c=>?_)
    ·have c:dL d > 200000:=of_decide_eq_true c
     rw [if_pos c] at hL'
     refine w_setTo h n1 (Ks.mk KD (dK d,dS d,L',dU d,dA d,R',dC d)) rfl rfl (by rw [hL'];rfl) fun w h=>?_
     exact ⟨trivial,h.fin⟩
    ·have c:¬ dL d > 200000:=of_decide_eq_false c
     rw [if_neg c] at hL'
     rw [hL']
     exact ⟨trivial,h⟩
  ·refine w_ld (x:=dR d) h rfl (w_ite (fun c=>?_) fun c=>?_)
   ·have c:(((dR d).len:Nat):Int) > 6:=of_decide_eq_true c
    have c2:(dR d).len > 6:=by omega
    rw [if_pos c2] at hR'
    have hN:Nrm (dR d):=Nrm.long (h.rd (s:=dR d)).1 (by omega)
    refine w_ld (x:=dR d) h rfl (w_slcR (K:=KR) (xs:=xs) (s:=dR d) h hN 0 6 (dR d).cap rfl rfl rfl rfl (by omega) (by omega) (by omega) (Nat.le_refl _) fun _ _=>?_)
    rw [← hR']
    refine w_setTo h n1 (Ks.mk KD (dK d,dS d,dL d,dU d,dA d,R',dC d)) rfl rfl rfl fun w h=>?_
    exact ⟨trivial,h.fin⟩
   ·have c:¬ (((dR d).len:Nat):Int) > 6:=of_decide_eq_false c
    have c2:¬ (dR d).len > 6:=by omega
    rw [if_neg c2] at hR'
    rw [hR']
    exact ⟨trivial,h.fin⟩
theorem deeds_tri (s:Sl) (ps:List OpE) (most:Int) (hm:0≤most∧most≤1000) (hp:∀ p∈ps,OkE p):Tri Tryz.prog N_canterplay_Deeds [.lf (.sl s),.lf (.int .i64 most)] [.lf .sl] (emp^opsE s ps) (fun r=>arr r KD ((deedsF most ps).map Prod.fst)) :=
 tri_0 (call_canterplay_Deeds s most) fun w0 S R h=>by
  unfold W_canterplay_Deeds
  have h:Own w0 S R w0 (rarr s KD (ps.map Prod.fst)^rl (fun p:OpE=>rarr (dR p.1) KR p.2) ps^emp):=h.fin
  have hsl:=(h.rd (s:=s)).2
  rw [List.length_map] at hsl
  have h:=h.nil KD
  have h:Own w0 S R w0 (arr ⟨none,0,0⟩ KD ((deedsF 0 ps).map Prod.fst)^rarr s KD (ps.map Prod.fst)^rl (fun p:OpE=>rarr (dR p.1) KR p.2) ps^emp):=h
  refine w_loopE (fun (y:Sl × Int) (_:Unit)=>arr y.1 KD ((deedsF y.2 ps).map Prod.fst)^rarr s KD (ps.map Prod.fst)^rl (fun p:OpE=>rarr (dR p.1) KR p.2) ps^emp) (fun (y:Sl × Int) _=>0≤y.2∧y.2≤most) (fun (y:Sl × Int) _=>(most - y.2).toNat) () h ⟨by decide,hm.1⟩ ?_
  rintro K (y:Sl × Int) _ w ⟨h0,h1⟩ h next
  obtain ⟨r,i⟩:=y
  dsimp only at h0 h1 h ⊢
  refine w_ite (fun c=>?_) fun c=>?_
  ·have c:i < ps.length∧i < most:=by
    have c:(decide (i < ((s.len:Nat):Int)) && decide (i < most))=true:=c
    rw [Bool.and_eq_true,decide_eq_true_eq,decide_eq_true_eq] at c
    omega
   have hi:i.toNat < ps.length:=by omega
   have hwi:IntKind.i64.wrap (i+1)=i+1:=wi (by omega) (by omega)
   have hin:(i+1).toNat=i.toNat+1:=by omega
   obtain ⟨p,hpi⟩:∃ p,ps[i.toNat]?=some p:=⟨_,List.getElem?_eq_getElem hi⟩
   have hpm:(ps.map Prod.fst)[i.toNat]?=some p.1:=by rw [List.getElem?_map,hpi];rfl
   haveI:=rd_dR hpi
   have hO:=hp p (List.mem_of_getElem? hpi)
   refine w_idx (s:=s) h h0 (by rw [List.length_map];exact hi) (w_ldE h s i.toNat hpm rfl ?_)
   refine w_callL (A:=emp) (Q:=rarr (dR p.1) KR p.2) (deed_tri p.1 p.2 hO.cp) (h.le ((star_emp _).trans (star_comm _ _))) fun q w h=>?_
   obtain ⟨hq,h⟩:=h.purP;rw [hq]
   refine w_new h fun n6 w h=>?_
   have h:=h.blkArr n6 KD [deedF p.1] rfl (by simp)
   have h:Own w0 S R w (arr ⟨some ⟨n6,0⟩,1,1⟩ KD [deedF p.1]^_):=h
   have hlen:((deedsF i ps).map Prod.fst).length≤i.toNat:=by rw [List.length_map,deedsF,List.length_map,List.length_take];omega
   refine w_app (K:=KD) (s:=r) (xs:=(deedsF i ps).map Prod.fst) h rfl (by simp only [List.length_singleton];omega) fun s' w _ h=>?_
   have e:(deedsF i ps).map Prod.fst++[deedF p.1]=(deedsF (i+1) ps).map Prod.fst:=by
    unfold deedsF
    rw [hin,List.take_add_one,hpi,List.map_append,List.map_append];rfl
   rw [e] at h
   rw [hwi]
   exact next (s',i+1) () w ⟨by show 0≤i+1;omega,by show i+1≤most;omega⟩ h.fin (by show (most - (i+1)).toNat < (most - i).toNat;omega)
  ·have e:deedsF i ps=deedsF most ps:=by
    unfold deedsF
    have c:¬ (i < ps.length∧i < most):=fun hh=>by
     have c:(decide (i < ((s.len:Nat):Int)) && decide (i < most))=false:=c
     rw [decide_eq_true (by omega),decide_eq_true hh.2] at c;cases c
    by_cases h2:i < most
    ·rw [List.take_of_length_le (by omega:ps.length≤i.toNat),List.take_of_length_le (by omega:ps.length≤most.toNat)]
    ·rw [show i=most by omega]
   rw [e] at h
   exact h.fin
end EgG

namespace EgH
open Arith ArithC TreeF FqM FqC SockC EgM EgA EgB EgC EgD EgE EgF
open SockM (Sk emitS doneS writeS loseS newS skFl skTso mayS)
open SockO (IvS)
open SockV (IvB)
theorem pump_ok {k:Int} {v:Mc} (hv:OkMc k v) {i:Nat} (hi:i < 8) {x:Sk} (hx:IvB k x) (hid:x.id=(i:Int)) (o:Ou):OkMc k (pumpM v i x o).2:=by
 have h:=pumpN_ok hv.un (fresh x+1) ⟨x,v.q,v.l,o⟩ (⟨hx,hid,hv.q⟩:OkPm k i ⟨x,v.q,v.l,o⟩)
 have h2:=upS_ok hv hi (x:=(pumpF i v.now ⟨x,v.q,v.l,o⟩).v) h.v h.id
 exact { h2 with q:=h.q }
theorem shut_ok {k:Int} {v:Mc} (hv:OkMc k v) (i:Nat) (o:Ou):OkMc k (shutM v i o).2:=by
 have h:=upN_ok hv i
 exact { h with q:=hv.q.close _ }
theorem pull_ok {k:Int} {v:Mc} (hv:OkMc k v) (o:Ou):OkMc k (pullF v o).2:=by
 have h:=FqN.deq_ok hv.q hv.un (rates_U hv)
 unfold pullF
 split
 ·rename_i s q e;rw [e] at h;exact { hv with q:=h }
 ·rename_i q e;rw [e] at h;exact { hv with q:=h }
theorem set_ok {k:Int} {v:Mc} (hv:OkMc k v) {c:Cf} (hc:0≤cH c∧U (cR c)):OkMc k (setM v c).2:=by
 have h:=hv.q.set hc
 unfold setM
 split
 ·rename_i h0
  refine { hv with q:=h,c:=?_ }
  unfold setF at h0
  by_cases hm:may c=true
  ·exact may_ok hm hc.1 hc.2
  ·rw [if_neg hm] at h0;cases h0
 ·exact { hv with q:=h }
theorem one_ok {k:Int} {v:Mc} (hv:OkMc k v) (hk:k < 1000000) (d:Dd) (xs:List (Int × Int)) (o:Ou):OkMc (k+1) (oneM v d xs o).2.2:=by
 have h1:=OkMc_le hv (j:=k+1) (by omega) (by omega)
 have hc:=hv.c.cap
 unfold oneM
 split
 ·exact h1
 ·rename_i hi
  have hi:0≤dS d∧dS d < 8:=Classical.not_not.1 hi
  have hi8:(dS d).toNat < 8:=by omega
  split
  ·split
   ·have hn:=SockV.new_ivB (dS d) (cMss v.c) (cCap v.c) ⟨by omega,by omega⟩
    exact upS_ok h1 hi8 (ivB_le hn h1.kr.1 (by omega)) (by show dS d=_;omega)
   ·exact h1
  ·rename_i x hx
   obtain ⟨hxi,hxd,_⟩:=hv.so _ x hx
   split
   ·exact h1
   ·split
    ·exact shut_ok h1 _ _
    ·obtain ⟨a,b⟩:=told_ok hxi hk hv.un d xs
     split
     ·exact pump_ok h1 hi8 a (b.trans hxd) o
     ·exact upS_ok h1 hi8 a (b.trans hxd)
theorem do_ok {k:Int} {v:Mc} (hv:OkMc k v) (hk:k < 1000000) {d:Dd} (hd:OkD d) (xs:List (Int × Int)):OkMc (k+1) (doF v d xs).2:=by
 have h1:=OkMc_le hv (j:=k+1) (by omega) (by omega)
 have e:(doF v d xs).2=(stepM v d xs).2.2:=by unfold doF;split<;>rfl
 rw [e]
 unfold stepM
 split
 ·have hn:=hv.now
  have ha:=hd.a
  unfold U at ha
  refine { h1 with now:=?_ }
  show 0≤(moveF v.now (dA d)).2∧(moveF v.now (dA d)).2≤4611686018427387904
  unfold moveF
  split
  ·exact hn
  ·split
   ·exact hn
   ·exact ⟨ha.1,by show dA d≤_;omega⟩
 ·split
  ·exact pull_ok h1 _
  ·split
   ·exact set_ok h1 hd.c
   ·split
    ·exact one_ok hv hk d xs ou0
    ·exact h1
theorem new_ok {c:Cf} (hc:OkC c):OkMc 0 (newM c) where
 c:=hc
 now:=by show (0:Int)≤0∧(0:Int)≤4611686018427387904;decide
 q:=OkQ.new hc
 so:=fun i x h=>by cases h
 kr:=by decide
theorem _root_.Go.X.Own.outR {w0 w:World} {S0 R0:Nat→Prop} {F G:SP} (h:Own w0 S0 R0 w F) (r:Ks.T KOu) {o:Ou} [tk:TakeK EgF.outR r F o G]:r.2.2.2=o.wd∧Own w0 S0 R0 w (arr r.1 KS o.dep^arr r.2.1 KS o.dr^arr r.2.2.1 KI o.ft^G):=by
 have h:Own w0 S0 R0 w (pur (r.2.2.2=o.wd) (arr r.1 KS o.dep^arr r.2.1 KS o.dr^arr r.2.2.1 KI o.ft)^G):=h.le tk.le
 obtain ⟨hr,h⟩:=h.purP
 exact ⟨hr,h.fin⟩
abbrev plainC:Cf:=(3000,15000,100,50,10000000000,0,false,100000,1000)
abbrev dOpen (s:Int):Dd:=(1,s,0,0,0,⟨none,0,0⟩,0,0,0,0,0,0,false,0,0)
abbrev dSend (s n:Int):Dd:=(2,s,n,0,0,⟨none,0,0⟩,0,0,0,0,0,0,false,0,0)
abbrev dPull:Dd:=(6,0,0,0,0,⟨none,0,0⟩,0,0,0,0,0,0,false,0,0)
theorem dOpen_ok (s:Int):OkD (dOpen s):=⟨(by decide:(0:Int) < 9223372036854775808),U_lit 0,U_lit 0,(by decide:(0:Int)≤0),U_lit 0⟩
theorem dSend_ok (s n:Int) (h:n < 9223372036854775808):OkD (dSend s n):=⟨h,U_lit 0,U_lit 0,(by decide:(0:Int)≤0),U_lit 0⟩
theorem dPull_ok:OkD dPull:=⟨(by decide:(0:Int) < 9223372036854775808),U_lit 0,U_lit 0,(by decide:(0:Int)≤0),U_lit 0⟩
end EgH

namespace EgI
open Arith ArithC TreeF FqM FqC SockC EgM EgA EgB EgC EgD EgE EgF EgG EgH
open SockM (Sk emitS doneS writeS loseS newS skFl skTso mayS)
theorem deedF_ok {p:OpE} (h:OkE p):OkD (deedF p.1) where
 l:=by
  show (if dL p.1 > 200000 then 200000 else dL p.1) < 9223372036854775808
  split<;>omega
 u:=h.u
 a:=h.a
 c:=h.c
theorem do_step (v:Mc) (d:Dd) (xs:List (Int × Int)):(doF v d xs).2=(stepM v d xs).2.2:=by unfold doF;split<;>rfl
theorem do_err (v:Mc) (d:Dd) (xs:List (Int × Int)):(doF v d xs).1.2=(stepM v d xs).1:=by
 unfold doF
 by_cases h:(stepM v d xs).1≠0
 ·rw [if_pos h]
 ·rw [if_neg h];exact (Classical.not_not.1 h).symm
theorem move_r (now a:Int):((moveF now a).1=0↔now≤a∧a≤4611686018427387904)∧((moveF now a).1=0→(moveF now a).2=a)∧((moveF now a).1≠0→(moveF now a).2=now):=by
 unfold moveF
 split
 ·exact ⟨⟨fun h=>(by cases h),fun h=>(by omega)⟩,fun h=>(by cases h),fun _=>rfl⟩
 ·split
  ·exact ⟨⟨fun h=>(by cases h),fun h=>(by omega)⟩,fun h=>(by cases h),fun _=>rfl⟩
  ·exact ⟨⟨fun _=>(by omega),fun _=>rfl⟩,fun _=>rfl,fun h=>absurd rfl h⟩
end EgI

namespace EgJ
open Arith ArithC TreeF FqM FqC SockC EgM EgA EgB EgC EgD EgE EgF EgG EgH EgI
open SockM (Sk emitS doneS writeS loseS newS skFl skTso mayS)
open SockO (IvS)
open SockV (IvB)
def sgO (x:Option Fl):List Sg:=match x with
 | none=>[]
 | some f=>f.sg
theorem coll_sg (v:Qm) (t:Int) (j:Nat):sgO ((collectF v t).fl j)=sgO (v.fl j):=by
 show sgO (if _ then _ else _)=_
 split
 ·rename_i e
  obtain ⟨f,hf,hs,_⟩:=FqM.idle_some e
  rw [hf]
  exact hs.symm
 ·rfl
theorem enq_sg (v:Qm) (s:Sg) (t:Int) (hk:0≤sK s∧sK s≤7) (hl:1≤sLn s∧sLn s≤65536):((enqF v s t).1=(0,0)∧∀ j,sgO ((enqF v s t).2.fl j)=sgO (v.fl j)++if j=(sK s).toNat then [drawn v s t] else []) ∨
  (((enqF v s t).1=(2,0)∨(enqF v s t).1=(3,0)∨(enqF v s t).1=(4,0))∧∀ j,sgO ((enqF v s t).2.fl j)=sgO (v.fl j)):=by
 unfold enqF
 rw [if_neg (fun h=>h hk),if_neg (fun h=>h hl)]
 split
 ·refine .inl ⟨rfl,fun j=>?_⟩
  dsimp only
  rw [FqM.add_eq]
  show sgO (upF (collectF v t).fl (sK s).toNat _ j)=_
  by_cases e:j=(sK s).toNat
  ·rw [e,upF_same,if_pos rfl]
   show ((woken (collectF v t) (sK s).toNat t).sg++[drawn v s t])=_
   rw [woken_sg,← coll_sg v t]
   cases (collectF v t).fl (sK s).toNat<;>rfl
  ·rw [upF_ne _ _ e,if_neg e,coll_sg,List.append_nil]
 ·rename_i hf
  refine .inr ⟨?_,coll_sg v t⟩
  rcases FqT.fate_ne hf with h | h | h
  ·left;show (_,(0:Int))=_;rw [h]
  ·right;left;show (_,(0:Int))=_;rw [h]
  ·right;right;show (_,(0:Int))=_;rw [h]
theorem same_sg {u v:Qm} (h:FqQ.Same u v) (j:Nat):sgO (v.fl j)=sgO (u.fl j):=by
 have:=h j
 cases hu:u.fl j with
 | none =>
  rw [hu] at this
  cases hv:v.fl j with
  | none=>rfl
  | some g=>rw [hv] at this;cases this
 | some f =>
  obtain ⟨g,hg,_,hs,_⟩:=h.to hu
  rw [hg]
  exact hs
theorem deq_sg {v:Qm} (hv:OkQ v) {t:Int} (ut:U t) {rates:List Int} (hr:∀ x∈rates,U x) :
  ((deqF v t rates).1=none∧∀ j,sgO ((deqF v t rates).2.fl j)=sgO (v.fl j))∨∃ (i:Nat) (s:Sg),(deqF v t rates).1=some s∧(sK s=(i:Int)∧i < 8)∧∀ j,sgO (v.fl j)=(if j=i then [s] else [])++sgO ((deqF v t rates).2.fl j):=by
 obtain ⟨u,hu,hc⟩:=FqQ.ran hv ut hr
 rcases hc with ⟨_,he⟩ | ⟨i,f,s,l,hA,hcr,hs,htf,he⟩
 ·left
  rw [he]
  exact ⟨rfl,same_sg hu.same⟩
 ·right
  have hF:=(hu.ok.fl i f hA.fl).2
  obtain ⟨hsk,hso⟩:=hF.sg s (by rw [hs];simp)
  rw [he]
  refine ⟨i,s,rfl,⟨hsk,hA.lt⟩,fun j=>?_⟩
  rw [← same_sg hu.same j]
  show _=_++sgO (upF u.fl i _ j)
  by_cases e:j=i
  ·rw [e,upF_same,if_pos rfl,hA.fl]
   show f.sg=_
   rw [hs];rfl
  ·rw [upF_ne _ _ e,if_neg e]
   rfl
abbrev b0 (c:Ct):Int:=c.2.1
abbrev b1 (c:Ct):Int:=c.2.2.1
abbrev b2 (c:Ct):Int:=c.2.2.2.1
abbrev b3 (c:Ct):Int:=c.2.2.2.2.1
abbrev b4 (c:Ct):Int:=c.2.2.2.2.2.1
abbrev b5 (c:Ct):Int:=c.2.2.2.2.2.2.1
end EgJ

namespace EgK
open Arith ArithC TreeF FqM FqC SockC EgM EgA EgB EgC EgD EgE EgF EgG EgH EgI EgJ
open SockM (Sk emitS doneS writeS loseS newS skFl skTso mayS)
section
variable {w0 w : World} {S R : Nat → Prop}
end
abbrev c8 (c:Ct):List Int:=[c.1,b0 c,b1 c,b2 c,b3 c,b4 c,b5 c,cWt c]
end EgK

namespace EgP
open Arith ArithC TreeF FqM FqC SockC EgM EgA EgB EgC EgD EgE EgF EgG EgH EgI EgJ EgK
open SockM (Sk emitS doneS writeS loseS newS skFl skTso mayS)
section
variable {w0 w : World} {S R : Nat → Prop}
end
theorem told_same {x:Sk} {now:Int} {d:Dd} {xs:List (Int × Int)} (h:(toldF x now d xs).1≠0):(toldF x now d xs).2=x:=by
 unfold toldF at h ⊢
 split
 ·rename_i e
  rw [if_pos e] at h
  unfold writeS SockA.wrF at h ⊢
  split
  ·cases x;rfl
  ·split
   ·cases x;rfl
   ·rename_i h1 h2
    rw [if_neg h1,if_neg h2] at h
    exact absurd rfl h
 ·rename_i e
  rw [if_neg e] at h
  split
  ·rename_i e3
   rw [if_pos e3] at h
   unfold SockL.ackS at h ⊢
   split
   ·rename_i h1;rw [if_pos h1] at h;exact absurd rfl h
   ·rfl
  ·rename_i e3
   rw [if_neg e3] at h
   split
   ·rename_i e4;rw [if_pos e4] at h;exact absurd rfl h
   ·rename_i e4
    rw [if_neg e4] at h
    unfold doneS at h ⊢
    split
    ·rfl
    ·rename_i h1;rw [if_neg h1] at h;exact absurd rfl h
theorem upL_have {α:Type} {l:Nat→α} {i:Nat} {x:α} (h:l i=x):EgM.upL l i x=l:=by rw [← h];exact EgM.upL_id l i
theorem refused {v:Mc} {d:Dd} {xs:List (Int × Int)} (h:(doF v d xs).1.2≠0):(doF v d xs).2=v∧(doF v d xs).1.1=ou0:=by
 have h2:(stepM v d xs).1≠0:=by rw [← do_err];exact h
 refine ⟨?_,by unfold doF;rw [if_pos h2]⟩
 rw [do_step]
 unfold stepM at h2 ⊢
 split
 ·rename_i e
  rw [if_pos e] at h2
  have:=(move_r v.now (dA d)).2.2 h2
  show ({ v with now:=(moveF v.now (dA d)).2 }:Mc)=v
  rw [this]
 ·rename_i e
  rw [if_neg e] at h2
  split
  ·rename_i e6;rw [if_pos e6] at h2;exact absurd rfl h2
  ·rename_i e6
   rw [if_neg e6] at h2
   split
   ·rename_i e8
    rw [if_pos e8] at h2
    have h2:(setM v (dC d)).1≠0:=h2
    show (setM v (dC d)).2=v
    unfold setM setF at h2 ⊢
    by_cases hm:may (dC d)=true
    ·exfalso;apply h2;simp [hm]
    ·simp [hm]
   ·rename_i e8
    rw [if_neg e8] at h2
    split
    ·rename_i e1
     rw [if_pos e1] at h2
     unfold oneM at h2 ⊢
     split
     ·rfl
     ·rename_i hs
      rw [if_neg hs] at h2
      split
      ·rename_i hn
       rw [hn] at h2
       dsimp only at h2
       split
       ·rename_i e1;rw [if_pos e1] at h2;exact absurd rfl h2
       ·rfl
      ·rename_i x hx
       rw [hx] at h2
       dsimp only at h2
       split
       ·rfl
       ·rename_i e1
        rw [if_neg e1] at h2
        split
        ·rename_i e9;rw [if_pos e9] at h2;exact absurd rfl h2
        ·rename_i e9
         rw [if_neg e9] at h2
         split
         ·rename_i e0;rw [if_pos e0] at h2;exact absurd rfl h2
         ·rename_i e0
          show ({ v with so:=EgM.upL v.so (dS d).toNat (some (toldF x v.now d xs).2) }:Mc)=v
          rw [told_same e0,upL_have hx]
    ·rfl
def fill {α:Type} (f:Nat→α) (z:α) (y:Nat):List α:=[if 0 < y then f 0 else z,if 1 < y then f 1 else z,if 2 < y then f 2 else z,if 3 < y then f 3 else z,if 4 < y then f 4 else z,if 5 < y then f 5 else z,if 6 < y then f 6 else z,if 7 < y then f 7 else z]
abbrev fC (v:Mc) (j:Nat):Ks.T KCt:=countL v.l (j:Int)
end EgP

namespace EgQ
open Arith ArithC TreeF FqM FqC SockC EgM EgA EgB EgC EgD EgE EgF EgG EgH EgI EgJ EgK
open SockM (Sk emitS doneS writeS loseS newS skFl skTso mayS)
abbrev d0:Dd:=(0,0,0,0,0,⟨none,0,0⟩,0,0,0,0,0,0,false,0,0)
abbrev pAt (ps:List OpE) (j:Nat):OpE:=ps.getD j (d0,[])
def runM (v:Mc) (ps:List OpE):Nat→Mc
 | 0=>v
 | j+1=>(doF (runM v ps j) (pAt ps j).1 (pAt ps j).2).2
def errsM (v:Mc) (ps:List OpE):Nat→List Int
 | 0=>[]
 | j+1=>errsM v ps j++[(doF (runM v ps j) (pAt ps j).1 (pAt ps j).2).1.2]
def lastO (v:Mc) (ps:List OpE):Nat→Ou
 | 0=>ou0
 | j+1=>(doF (runM v ps j) (pAt ps j).1 (pAt ps j).2).1.1
def lastR (rows:List (Ks.T KOu)) (o:Ou):SP:=match rows.getLast? with
 | none=>emp
 | some r=>outR r o
instance (rows:List (Ks.T KOu)) (o:Ou):NoR (lastR rows o):=by unfold lastR;split<;>infer_instance
theorem lastR_app (rows:List (Ks.T KOu)) (r:Ks.T KOu) (o:Ou):lastR (rows++[r]) o=outR r o:=by
 unfold lastR
 rw [List.getLast?_concat]
theorem errs_len (v:Mc) (ps:List OpE):∀ j,(errsM v ps j).length=j
 | 0=>rfl
 | j+1=>by show (errsM v ps j++[_]).length=_;rw [List.length_append,errs_len v ps j];rfl
theorem runM_ok {c:Cf} (hc:OkC c) {ps:List OpE} (hd:∀ p∈ps,OkD p.1):∀ j:Nat,j≤1000→j≤ps.length→OkMc (j:Int) (runM (newM c) ps j)
 | 0,_,_=>new_ok hc
 | j+1,h1,h2=>by
  have hj:pAt ps j=ps[j]:=by unfold pAt;rw [List.getD_eq_getElem?_getD,List.getElem?_eq_getElem (by omega)];rfl
  have:=do_ok (runM_ok hc hd j (by omega) (by omega)) (by omega) (hd (pAt ps j) (by rw [hj];exact List.getElem_mem _)) (pAt ps j).2
  rw [show (j:Int)+1=((j+1:Nat):Int) by omega] at this
  exact this
theorem run_tri (c:Cf) (hm:may c=true) (hc:OkC c) (s:Sl) (ps:List OpE) (hl:ps.length≤1000) (hd:∀ p∈ps,OkD p.1) (hx:∀ p∈ps,p.2.length≤4294967296):Tri Tryz.prog N_script_Run [.agg (Ks.mk KC c),.lf (.sl s)] [.lf .sl,.lf .sl] (emp^opsE s ps)
  (fun r=>ex fun rows:List (Ks.T KOu)=>pur (rows.length=ps.length) (arr r.1 KOu rows^arr r.2 KI (errsM (newM c) ps ps.length)^lastR rows (lastO (newM c) ps ps.length))) :=
 tri_0 (call_script_Run c s) fun w0 S R h=>by
  unfold W_script_Run
  have hsl:=(h.rd (s:=s)).2
  rw [List.length_map] at hsl
  refine w_new h fun n1 w h=>w_ldAll (b:=n1) (x:=c) h rfl (w_call (EgE.new_tri c) (h.le ((star_emp _).trans (star_comm _ _))) fun r w h=>?_)
  obtain ⟨b,h⟩:=h.exP
  obtain ⟨hr,h⟩:=h.purP
  rw [if_pos hm] at hr h
  rw [hr]
  refine w_ite (fun c=>(by cases c)) fun _=>?_
  have h:=h.nil KOu
  have h:=h.nil KI
  have h:Own w0 S R w (mach b (runM (newM c) ps (0:Int).toNat)^arr ⟨none,0,0⟩ KOu []^arr ⟨none,0,0⟩ KI (errsM (newM c) ps (0:Int).toNat)^lastR [] (lastO (newM c) ps (0:Int).toNat)^opsE s ps):=Own.fin (A:=mach b (newM c)^arr ⟨none,0,0⟩ KOu []^arr ⟨none,0,0⟩ KI []^emp^opsE s ps) h
  refine w_loopE (fun (y:Sl × Sl × Int) (rows:List (Ks.T KOu))=>mach b (runM (newM c) ps y.2.2.toNat)^arr y.1 KOu rows^arr y.2.1 KI (errsM (newM c) ps y.2.2.toNat)^lastR rows (lastO (newM c) ps y.2.2.toNat)^opsE s ps) (fun (y:Sl × Sl × Int) rows=>(0≤y.2.2∧y.2.2≤ps.length)∧rows.length=y.2.2.toNat) (fun (y:Sl × Sl × Int) _=>((ps.length:Int) - y.2.2).toNat) [] h ⟨⟨Int.le_refl 0,by show (0:Int)≤_;omega⟩,rfl⟩ ?_
  rintro K (y:Sl × Sl × Int) rows w ⟨hyr,hrl⟩ h next
  obtain ⟨y1,y2,y3⟩:=y
  dsimp only at hyr hrl h next ⊢
  refine w_ite (fun c0=>?_) fun c0=>?_
  ·have c0:y3 < ((s.len:Nat):Int):=of_decide_eq_true c0
   have hlt:y3.toNat < ps.length:=by omega
   obtain ⟨p,hpi⟩:∃ p,ps[y3.toNat]?=some p:=⟨_,List.getElem?_eq_getElem hlt⟩
   have hpa:pAt ps y3.toNat=p:=by unfold pAt;rw [List.getD_eq_getElem?_getD,hpi];rfl
   have hdm:(ps.map Prod.fst)[y3.toNat]?=some p.1:=by rw [List.getElem?_map,hpi];rfl
   have hdl:y3.toNat < (ps.map Prod.fst).length:=by rw [List.length_map];exact hlt
   have hmem:=List.mem_of_getElem? hpi
   refine w_idx (s:=s) h hyr.1 hdl (w_ldE h s y3.toNat hdm rfl ?_)
   refine w_new h fun n9 w h=>w_setTo h n9 (Ks.mk KD p.1) rfl rfl rfl fun w h=>w_ldAll (b:=n9) (x:=p.1) h rfl ?_
   haveI:=rd_dR hpi
   have hv:=runM_ok hc hd y3.toNat (by omega) (by omega)
   have h:Own w0 S R w (mach b (runM (newM c) ps y3.toNat)^(arr y1 KOu rows^arr y2 KI (errsM (newM c) ps y3.toNat))^opsE s ps):=h.fin
   refine w_callL (A:=mach b (runM (newM c) ps y3.toNat)) (Q:=rarr (dR p.1) KR p.2) (do_tri b _ _ hv (by omega) p.1 (hd p hmem) p.2 (hx p hmem)) h fun r w h=>?_
   obtain ⟨hre,h⟩:=h.purP
   obtain ⟨ro,re⟩:=r
   dsimp only at hre h ⊢
   rw [← hpa] at hre h
   have h:Own w0 S R w (outR ro (lastO (newM c) ps (y3.toNat+1))^mach b (runM (newM c) ps (y3.toNat+1))^arr y1 KOu rows^arr y2 KI (errsM (newM c) ps y3.toNat)^opsE s ps):=Own.fin (A:=outR ro (doF (runM (newM c) ps y3.toNat) (pAt ps y3.toNat).1 (pAt ps y3.toNat).2).1.1^mach b (doF (runM (newM c) ps y3.toNat) (pAt ps y3.toNat).1 (pAt ps y3.toNat).2).2^arr y1 KOu rows^arr y2 KI (errsM (newM c) ps y3.toNat)^opsE s ps) h
   refine w_new h fun n12 w h=>w_setTo h n12 (Ks.mk KOu ro) rfl rfl rfl fun w h=>w_ldAll (b:=n12) (x:=ro) h rfl ?_
   refine w_new h fun n14 w h=>?_
   have h:=h.blkArr n14 KOu [ro] rfl (by simp)
   have h:Own w0 S R w (arr ⟨some ⟨n14,0⟩,1,1⟩ KOu [ro]^_):=h
   have h:Own w0 S R w (arr y1 KOu rows^arr ⟨some ⟨n14,0⟩,1,1⟩ KOu [ro]^outR ro (lastO (newM c) ps (y3.toNat+1))^mach b (runM (newM c) ps (y3.toNat+1))^arr y2 KI (errsM (newM c) ps y3.toNat)^opsE s ps):=h.fin
   refine w_app (s:=y1) (x:=⟨some ⟨n14,0⟩,1,1⟩) h rfl (by rw [hrl];show _+1≤_;omega) fun s15 w _ h=>?_
   refine w_new h fun n16 w h=>?_
   have h:=h.blkArr n16 KI [re] rfl (by simp)
   have h:Own w0 S R w (arr ⟨some ⟨n16,0⟩,1,1⟩ KI [re]^_):=h
   have h:Own w0 S R w (arr y2 KI (errsM (newM c) ps y3.toNat)^arr ⟨some ⟨n16,0⟩,1,1⟩ KI [re]^arr s15 KOu (rows++[ro])^outR ro (lastO (newM c) ps (y3.toNat+1))^mach b (runM (newM c) ps (y3.toNat+1))^opsE s ps):=h.fin
   refine w_app (s:=y2) (x:=⟨some ⟨n16,0⟩,1,1⟩) h rfl (by rw [errs_len];show _+1≤_;omega) fun s17 w _ h=>?_
   have hwi:IntKind.i64.wrap (y3+1)=y3+1:=wi (by omega) (by omega)
   have he:errsM (newM c) ps y3.toNat++[re]=errsM (newM c) ps (y3.toNat+1):=by rw [hre];rfl
   have h1:(y3+1).toNat=y3.toNat+1:=by omega
   rw [hwi]
   rw [he,← lastR_app rows ro] at h
   refine next (s15,s17,y3+1) (rows++[ro]) w ⟨⟨by show 0≤y3+1;omega,by show y3+1≤_;omega⟩,by show _=(y3+1).toNat;rw [List.length_append,hrl,h1];rfl⟩ ?_ (by show ((ps.length:Int) - (y3+1)).toNat < ((ps.length:Int) - y3).toNat;omega)
   show Own w0 S R w (mach b (runM (newM c) ps (y3+1).toNat)^arr s15 KOu (rows++[ro])^arr s17 KI (errsM (newM c) ps (y3+1).toNat)^lastR (rows++[ro]) (lastO (newM c) ps (y3+1).toNat)^opsE s ps)
   rw [h1]
   exact h.fin
  ·have c0:¬ y3 < ((s.len:Nat):Int):=of_decide_eq_false c0
   have e:y3.toNat=ps.length:=by omega
   rw [e] at h hrl
   exact Own.retE rows (Own.retP hrl h.fin)
abbrev awP:List OpE:=[(dOpen 0,[]),(dSend 0 500,[]),(dPull,[])]
theorem aw_eq:errsM (newM FqH.plainC) awP 3=[0,0,0]∧(lastO (newM FqH.plainC) awP 3).dep=[(0,0,500,0,false)]:=by decide +kernel
theorem tawake_tri:Tri Tryz.prog N_cantertop_awake [] [.lf .bool] emp (fun r=>pur (r=true) emp) :=
 tri_0 call_cantertop_awake fun w0 S R h=>by
  unfold W_cantertop_awake
  obtain ⟨h1,h2⟩:=aw_eq
  refine w_call FqH.plain_tri (h.le (star_emp _)) fun r w h=>?_
  obtain ⟨hr,h⟩:=h.purP;rw [hr]
  refine w_new h fun n2 w h=>?_
  have h:=h.blkArr n2 KD [dOpen 0,dSend 0 500,dPull] rfl (by simp)
  have h:Own w0 S R w (arr ⟨some ⟨n2,0⟩,3,3⟩ KD [dOpen 0,dSend 0 500,dPull]^emp):=h.fin
  refine w_callL (A:=emp) (Q:=rarr ⟨some ⟨n2,0⟩,3,3⟩ KD [dOpen 0,dSend 0 500,dPull]^rarr ⟨none,0,0⟩ KR []^rarr ⟨none,0,0⟩ KR []^rarr ⟨none,0,0⟩ KR []^emp) (run_tri FqH.plainC FqH.plain_may FqH.plain_ok ⟨some ⟨n2,0⟩,3,3⟩ awP (by decide) (by
   simp only [List.mem_cons,List.not_mem_nil,or_false]
   rintro p (rfl | rfl | rfl)
   ·exact dOpen_ok 0
   ·exact dSend_ok 0 500 (by decide)
   ·exact dPull_ok) (by
   simp only [List.mem_cons,List.not_mem_nil,or_false]
   rintro p (rfl | rfl | rfl)<;>exact Nat.zero_le _)) (h.le ((star_emp _).trans (star_comm _ _))) fun r w h=>?_
  obtain ⟨rows,h⟩:=h.exP
  obtain ⟨hl,h⟩:=h.purP
  obtain ⟨r1,r2⟩:=r
  have hl:rows.length=3:=hl
  obtain ⟨a,b,c,hrows⟩:∃ a b c,rows=[a,b,c]:=by
   match rows,hl with
   | [a,b,c],_=>exact ⟨a,b,c,rfl⟩
  rw [hrows] at h
  have h:Own w0 S R w (outR c (lastO (newM FqH.plainC) awP 3)^arr r1 KOu [a,b,c]^arr r2 KI (errsM (newM FqH.plainC) awP 3)^emp):=Own.fin (A:=outR c (lastO (newM FqH.plainC) awP 3)^arr r1 KOu [a,b,c]^arr r2 KI (errsM (newM FqH.plainC) awP 3)^emp) (F:=(arr r1 KOu [a,b,c]^arr r2 KI (errsM (newM FqH.plainC) awP 3)^outR c (lastO (newM FqH.plainC) awP 3))^_) h
  obtain ⟨c1,c2,c3,c4⟩:=c
  obtain ⟨_,h⟩:=h.outR (c1,c2,c3,c4)
  dsimp only at h
  rw [h1,h2] at h
  have l1:=(h.rd (s:=r1)).2
  have l2:=(h.rd (s:=r2)).2
  have l3:=(h.rd (s:=c1)).2
  dsimp only
  refine w_ite (fun _=>?_) fun c=>(by rw [l1,l2] at c;cases c)
  refine w_idx (s:=r2) h (by decide) (by show 2 < 3;decide) (w_ldE h r2 2 (y:=(0:Int)) rfl rfl (w_ite (fun _=>?_) fun c=>(by cases c)))
  refine w_idx (s:=r1) h (by decide) (by show 2 < 3;decide) (w_ldA h r1 2 0 ((c1,c2,c3,c4):Ks.T KOu) rfl rfl (by decide) (x:=c1) rfl (w_ite (fun _=>?_) fun c=>(by rw [l3] at c;cases c)))
  refine w_idx (s:=r1) h (by decide) (by show 2 < 3;decide) (w_ldA h r1 2 0 ((c1,c2,c3,c4):Ks.T KOu) rfl rfl (by decide) (x:=c1) rfl ?_)
  refine w_idx (s:=c1) h (by decide) (by show 0 < 1;decide) (w_ldA h c1 0 2 ((0,0,500,0,false):Sg) rfl rfl (by decide) (x:=(500:Int)) rfl ?_)
  exact Own.retP rfl h.emp'
end EgQ

namespace EgT
open Arith ArithC TreeF FqM FqC SockC EgM EgA EgB EgC EgD EgE EgF EgG EgH EgI EgJ EgK EgP EgQ
open SockM (Sk emitS doneS writeS loseS newS skFl skTso mayS)
open SockV (IvB)
theorem note_b1 (c:Ct) {f:Int} (hf:f≠1):b1 (note1 c f).2=b1 c:=by
 unfold note1
 split
 ·rfl
 ·rename_i h
  have:f=0∨f=2∨f=3∨f=4∨f=5:=by omega
  rcases this with rfl | rfl | rfl | rfl | rfl
  ·rfl
  all_goals (rw [if_neg (by decide)];split<;>rfl)
theorem noteL_b1 (l:Nat→Ct) (s:Int) {f:Int} (hf:f≠1) (j:Nat):b1 ((noteL l s f).2 j)=b1 (l j):=by
 unfold noteL
 split
 ·rfl
 ·show b1 (EgM.upL l s.toNat _ j)=_
  by_cases e:j=s.toNat
  ·rw [e,EgM.upL_same];exact note_b1 _ hf
  ·rw [EgM.upL_ne _ _ e]
theorem pumpN_ac {k now : Int} {i : Nat} (hn : U now) : ∀ (n : Nat) (s : Pm), OkPm k i s → i < 8 → (∀ j, ∃ t, sgO ((pumpN i now n s).q.fl j) = sgO (s.q.fl j) ++ t) ∧ (∀ j, b1 ((pumpN i now n s).l j) = b1 (s.l j)) ∧ (pumpN i now n s).o.dep = s.o.dep ∧ (s.o.dr.length = s.o.ft.length → (pumpN i now n s).o.dr.length = (pumpN i now n s).o.ft.length)
  | 0, s, _, _ => ⟨fun _ => ⟨[], by rw [List.append_nil]; rfl⟩, fun _ => rfl, rfl, fun h => h⟩
  | n + 1, s, h, hi => by
    unfold pumpN
    by_cases he : (emitS s.v now).1.2 = 0
    · rw [if_neg (fun c => c he)]
      have h1 := (enter_ok h hn he).1
      have hw := went_of h.v hn he
      have hg1 : sK (emitS s.v now).1.1 = (i : Int) := hw.id.trans h.id
      have hg2 : 1 ≤ sLn (emitS s.v now).1.1 ∧ sLn (emitS s.v now).1.1 ≤ 65536 := hw.n
      have a : (∀ j, ∃ t, sgO ((enter i now s).1.q.fl j) = sgO (s.q.fl j) ++ t) ∧ (∀ j, b1 ((enter i now s).1.l j) = b1 (s.l j)) ∧ (enter i now s).1.o.dep = s.o.dep ∧ (s.o.dr.length = s.o.ft.length → (enter i now s).1.o.dr.length = (enter i now s).1.o.ft.length) := by
        obtain ⟨g, hg⟩ : ∃ g, g = (emitS s.v now).1.1 := ⟨_, rfl⟩
        rw [← hg] at hg1 hg2
        have een : enter i now s = if (enqF s.q g now).1.1 = 0 then (⟨(emitS s.v now).2, (enqF s.q g now).2, (noteL s.l i 0).2, s.o⟩, 0)
              else (⟨(doneS (emitS s.v now).2 g.2.2.1).2, (enqF s.q g now).2, (dropF (noteL s.l i 0).2 s.o g (enqF s.q g now).1.1).2, (dropF (noteL s.l i 0).2 s.o g (enqF s.q g now).1.1).1⟩, 1) := by
          rw [hg]; rfl
        rcases enq_sg s.q g now (by omega) hg2 with ⟨h1, h2⟩ | ⟨h1, h2⟩
        · rw [if_pos (by rw [h1])] at een
          rw [een]
          exact ⟨fun j => ⟨_, h2 j⟩, fun j => noteL_b1 s.l i (by decide) j, rfl, fun h => h⟩
        · have hne : ¬ (enqF s.q g now).1.1 = 0 := by rcases h1 with h | h | h <;> rw [h] <;> (show ¬ (_ : Int) = 0; decide)
          have h5 : (enqF s.q g now).1.1 ≠ 1 := by rcases h1 with h | h | h <;> rw [h] <;> (show ¬ (_ : Int) = 1; decide)
          rw [if_neg hne] at een
          rw [een]
          refine ⟨fun j => ⟨[], by rw [List.append_nil]; exact h2 j⟩, fun j => ?_, rfl, fun h => ?_⟩
          · show b1 ((noteL (noteL s.l i 0).2 (sK g) (enqF s.q g now).1.1).2 j) = _
            rw [noteL_b1 _ _ h5, noteL_b1 _ _ (by decide)]
          · show (s.o.dr ++ [g]).length = (s.o.ft ++ [_]).length
            rw [List.length_append, List.length_append, h]; rfl
      obtain ⟨a1, a2, a3, a4⟩ := a
      split
      · obtain ⟨p1, p2, p3, p4⟩ := pumpN_ac hn n _ h1 hi
        refine ⟨fun j => ?_, fun j => (p2 j).trans (a2 j), p3.trans a3, fun h => p4 (a4 h)⟩
        obtain ⟨t, ht⟩ := a1 j
        obtain ⟨u, hu⟩ := p1 j
        exact ⟨t ++ u, by rw [hu, ht, List.append_assoc]⟩
      · exact ⟨a1, a2, a3, a4⟩
    · rw [if_pos he]
      exact ⟨fun _ => ⟨[], by rw [List.append_nil]⟩, fun _ => rfl, rfl, fun h => h⟩
end EgT

namespace TsA
open Arith ArithC TreeF FqM FqC SockC EgM EgA EgB EgC EgD EgE EgF EgG EgH EgI EgJ EgK EgP EgT
open SockA (bN bW bU bL)
open SockM (Sk emitS doneS writeS loseS newS skFl skTso mayS)
def Asc:List Sg→Int→Int→Prop
 | [],lo,hi=>lo≤hi
 | s :: L,lo,hi=>if sAg s=true then Asc L lo hi else lo≤sFr s∧0≤sLn s∧Asc L (sFr s+sLn s) hi
theorem asc_app:∀ {L M:List Sg} {lo m hi:Int},Asc L lo m→Asc M m hi→(∀ {lo lo':Int},lo≤lo'→Asc M lo' hi→Asc M lo hi)→Asc (L++M) lo hi
 | [],_,_,_,_,h,k,f=>f h k
 | s :: L,M,lo,m,hi,h,k,f=>by
  show Asc (s :: (L++M)) lo hi
  unfold Asc at h ⊢
  split
  ·rename_i e;rw [if_pos e] at h
   exact asc_app h k f
  ·rename_i e;rw [if_neg e] at h
   exact ⟨h.1,h.2.1,asc_app h.2.2 k f⟩
theorem asc_low:∀ {L:List Sg} {lo lo' hi:Int},lo≤lo'→Asc L lo' hi→Asc L lo hi
 | [],_,_,_,h,k=>Int.le_trans h k
 | s :: L,lo,lo',hi,h,k=>by
  unfold Asc at k ⊢
  split
  ·rename_i e;rw [if_pos e] at k;exact asc_low h k
  ·rename_i e;rw [if_neg e] at k;exact ⟨Int.le_trans h k.1,k.2⟩
theorem asc_high:∀ {L:List Sg} {lo hi hi':Int},hi≤hi'→Asc L lo hi→Asc L lo hi'
 | [],_,_,_,h,k=>Int.le_trans k h
 | s :: L,lo,hi,hi',h,k=>by
  unfold Asc at k ⊢
  split
  ·rename_i e;rw [if_pos e] at k;exact asc_high h k
  ·rename_i e;rw [if_neg e] at k;exact ⟨k.1,k.2.1,asc_high h k.2.2⟩
theorem asc_join {L M:List Sg} {lo m hi:Int} (h:Asc L lo m) (k:Asc M m hi):Asc (L++M) lo hi:=asc_app h k asc_low
theorem asc_le:∀ {L:List Sg} {lo hi:Int},Asc L lo hi→lo≤hi
 | [],_,_,h=>h
 | s :: L,lo,hi,h=>by
  unfold Asc at h
  split at h
  ·exact asc_le h
  ·have:=asc_le h.2.2;omega
theorem asc_pre:∀ {L M:List Sg} {lo hi:Int},Asc (L++M) lo hi→Asc L lo hi
 | [],_,_,_,h=>asc_le h
 | s :: L,M,lo,hi,h=>by
  have h:Asc (s :: (L++M)) lo hi:=h
  unfold Asc at h ⊢
  split
  ·rename_i e;rw [if_pos e] at h;exact asc_pre h
  ·rename_i e;rw [if_neg e] at h;exact ⟨h.1,h.2.1,asc_pre h.2.2⟩
def hiS (x:Option Sk):Int:=match x with
 | some x=>bN x.bf
 | none=>0
abbrev ofJ (D:List Sg) (j:Nat):List Sg:=D.filter fun s=>sK s == (j:Int)
def Srt (v:Mc) (D:List Sg):Prop:=∀ j,j < 8→Asc (ofJ D j++sgO (v.q.fl j)) 0 (hiS (v.so j))
theorem done_bf (v:Sk) (n:Int):(doneS v n).2.bf=v.bf:=by unfold doneS;split<;>rfl
theorem may_bf (v:Sk):(mayS v).2.bf=v.bf:=by unfold mayS;(repeat' split)<;>rfl
theorem emit_bf {v:Sk} {now:Int} (h:¬ (emitS v now).1.2=0):(emitS v now).2.bf=v.bf:=by
 unfold emitS at h ⊢
 split
 ·exact may_bf v
 ·rename_i c;rw [if_neg c] at h;exact absurd rfl h
theorem pumpN_srt {k now : Int} {i : Nat} (hi : i < 8) (hn : U now) (D : List Sg) : ∀ (n : Nat) (s : Pm), OkPm k i s → Asc (ofJ D i ++ sgO (s.q.fl i)) 0 (bN s.v.bf) →
    (∀ j, j ≠ i → sgO ((pumpN i now n s).q.fl j) = sgO (s.q.fl j)) ∧ Asc (ofJ D i ++ sgO ((pumpN i now n s).q.fl i)) 0 (bN (pumpN i now n s).v.bf)
  | 0, s, _, ha => ⟨fun _ _ => rfl, ha⟩
  | n + 1, s, h, ha => by
    have hne : ∀ v' : Sk, bN v'.bf = bN s.v.bf → Asc (ofJ D i ++ sgO (s.q.fl i)) 0 (bN v'.bf) := fun v' e => by rw [e]; exact ha
    unfold pumpN
    by_cases he : (emitS s.v now).1.2 = 0
    · rw [if_neg (fun c => c he)]
      have h1 := (enter_ok h hn he).1
      have hw := went_of h.v hn he
      have hg1 : sK (emitS s.v now).1.1 = (i : Int) := hw.id.trans h.id
      have hg2 : 1 ≤ sLn (emitS s.v now).1.1 ∧ sLn (emitS s.v now).1.1 ≤ 65536 := hw.n
      obtain ⟨g, hg⟩ : ∃ g, g = (emitS s.v now).1.1 := ⟨_, rfl⟩
      obtain ⟨v', hv'⟩ : ∃ v', v' = (emitS s.v now).2 := ⟨_, rfl⟩
      rw [← hg] at hw hg1 hg2
      rw [← hv'] at hw
      have hgn : (sK g).toNat = i := by omega
      have hb : ∀ s' : Sg, sAg s' = sAg g → sFr s' = sFr g → sLn s' = sLn g → Asc [s'] (bN s.v.bf) (bN v'.bf) := fun s' e1 e2 e3 => by
        unfold Asc
        rw [e1, e2, e3]
        cases hc : sAg g with
        | true =>
          rw [if_pos rfl]
          show bN s.v.bf ≤ bN v'.bf
          rw [(hw.old hc).1]; exact Int.le_refl _
        | false =>
          rw [if_neg (by decide)]
          obtain ⟨c1, c2, _⟩ := hw.new hc
          have c1 : sFr g = bN s.v.bf := c1
          refine ⟨by omega, by omega, ?_⟩
          show _ ≤ bN v'.bf
          rw [c2]
          show sFr g + sLn g ≤ bN s.v.bf + sLn g
          omega
      have hup : bN s.v.bf ≤ bN v'.bf := asc_le (hb g rfl rfl rfl)
      have een : enter i now s = if (enqF s.q g now).1.1 = 0 then (⟨v', (enqF s.q g now).2, (noteL s.l i 0).2, s.o⟩, 0)
            else (⟨(doneS v' g.2.2.1).2, (enqF s.q g now).2, (dropF (noteL s.l i 0).2 s.o g (enqF s.q g now).1.1).2, (dropF (noteL s.l i 0).2 s.o g (enqF s.q g now).1.1).1⟩, 1) := by
        rw [hg, hv']; rfl
      rcases enq_sg s.q g now (by omega) hg2 with ⟨e1, e2⟩ | ⟨e1, e2⟩
      · rw [if_pos (by rw [e1])] at een
        rw [een] at h1 ⊢
        rw [if_pos rfl]
        have ha2 : Asc (ofJ D i ++ sgO ((enqF s.q g now).2.fl i)) 0 (bN v'.bf) := by
          rw [e2, hgn, if_pos rfl, ← List.append_assoc]
          exact asc_join ha (hb (drawn s.q g now) rfl rfl rfl)
        obtain ⟨p1, p2⟩ := pumpN_srt hi hn D n _ h1 ha2
        refine ⟨fun j hj => ?_, p2⟩
        rw [p1 j hj]
        show sgO ((enqF s.q g now).2.fl j) = _
        rw [e2, hgn, if_neg hj, List.append_nil]
      · have hne2 : ¬ (enqF s.q g now).1.1 = 0 := by rcases e1 with e | e | e <;> rw [e] <;> (show ¬ (_ : Int) = 0; decide)
        rw [if_neg hne2] at een
        rw [een, if_neg (show ¬ (1 : Int) = 0 by decide)]
        refine ⟨fun j _ => e2 j, ?_⟩
        show Asc (ofJ D i ++ sgO ((enqF s.q g now).2.fl i)) 0 (bN (doneS v' g.2.2.1).2.bf)
        rw [e2, done_bf]
        exact asc_high hup ha
    · rw [if_pos he]
      exact ⟨fun _ _ => rfl, hne _ (by rw [emit_bf he])⟩
theorem told_bN (x:Sk) (now:Int) (d:Dd) (xs:List (Int × Int)):bN (toldF x now d xs).2.bf=bN x.bf:=by
 unfold toldF
 split
 ·show bN (SockA.wrF x.bf (dL d)).2=_
  unfold SockA.wrF
  (repeat' split)<;>rfl
 split
 ·unfold SockL.ackS
  split
  ·exact (SockO.ak_N x.bf (dU d)).1
  ·rfl
 split
 ·rfl
 ·rw [done_bf]
theorem do_srt {k:Int} {v:Mc} (hv:OkMc k v) (hk:k < 1000000) (d:Dd) (xs:List (Int × Int)) (h9:dK d≠9) {D:List Sg} (h:Srt v D):Srt (doF v d xs).2 (D++(doF v d xs).1.1.dep):=by
 have still:∀ {q:Qm} {so:Nat→Option Sk} {c:Cf} {now:Int} {l:Nat→Ct} ,(∀ j,sgO (q.fl j)=sgO (v.q.fl j))→so=v.so→Srt ⟨c,now,so,q,l⟩ (D++[]):=fun hq hs j hj=>by
  show Asc (ofJ (D++[]) j++sgO (_)) 0 (hiS (_))
  dsimp only
  rw [List.append_nil,hq,hs]
  exact h j hj
 by_cases hne:(doF v d xs).1.2≠0
 ·obtain ⟨h1,h2⟩:=refused hne
  rw [h1,h2]
  exact still (fun _=>rfl) rfl
 have h0:(doF v d xs).1.2=0:=Classical.not_not.1 hne
 have hs0:(stepM v d xs).1=0:=by rw [← do_err];exact h0
 have e:doF v d xs=(((stepM v d xs).2.1,0),(stepM v d xs).2.2):=by unfold doF;rw [if_neg (fun c=>c hs0)]
 rw [e]
 clear e hne h0
 unfold stepM at hs0 ⊢
 split
 ·exact still (fun _=>rfl) rfl
 rename_i e5
 rw [if_neg e5] at hs0
 split
 ·show Srt (pullF v ou0).2 (D++(pullF v ou0).1.dep)
  unfold pullF
  rcases deq_sg hv.q hv.un (rates_U hv) with ⟨h1,h2⟩ | ⟨i,s,h1,⟨h3,h4⟩,h2⟩
  ·cases hd:deqF v.q v.now (ratesF v.so) with
   | mk x q =>
   rw [hd] at h1 h2
   dsimp only at h1
   subst h1
   dsimp only
   split
   ·exact still h2 rfl
   ·exact still h2 rfl
  ·cases hd:deqF v.q v.now (ratesF v.so) with
   | mk x q =>
   rw [hd] at h1 h2
   dsimp only at h1 h2
   subst h1
   intro j hj
   have hj2:=h j hj
   rw [h2 j] at hj2
   show Asc (ofJ (D++[s]) j++sgO (q.fl j)) 0 (hiS (v.so j))
   have ef:ofJ (D++[s]) j=ofJ D j++(if j=i then [s] else []):=by
    unfold ofJ
    rw [List.filter_append]
    congr 1
    by_cases ej:j=i
    ·rw [if_pos ej,List.filter_cons_of_pos (by rw [h3,ej];simp)];rfl
    ·rw [if_neg ej,List.filter_cons_of_neg (by rw [h3];simpa using fun c=>ej (by omega))];rfl
   rw [ef,List.append_assoc]
   exact hj2
 rename_i e6
 rw [if_neg e6] at hs0
 split
 ·have e2:(setM v (dC d)).2.q.fl=v.q.fl:=by
   have e:(setF v.q (dC d)).2.fl=v.q.fl:=by unfold setF;split<;>rfl
   unfold setM;split<;>exact e
  have e1:(setM v (dC d)).2.so=v.so:=by unfold setM;split<;>rfl
  intro j hj
  show Asc (ofJ (D++[]) j++sgO ((setM v (dC d)).2.q.fl j)) 0 (hiS ((setM v (dC d)).2.so j))
  rw [List.append_nil,e2,e1]
  exact h j hj
 rename_i e8
 rw [if_neg e8] at hs0
 split
 ·rename_i e1
  rw [if_pos e1] at hs0
  unfold oneM at hs0 ⊢
  split
  ·rename_i hi;rw [if_pos hi] at hs0;cases hs0
  rename_i hi
  rw [if_neg hi] at hs0
  have hi:0≤dS d∧dS d < 8:=Classical.not_not.1 hi
  have hi8:(dS d).toNat < 8:=by omega
  split
  ·rename_i hn
   split
   ·intro j hj
    show Asc (ofJ (D++[]) j++sgO (v.q.fl j)) 0 (hiS (EgM.upL v.so (dS d).toNat _ j))
    rw [List.append_nil]
    by_cases ej:j=(dS d).toNat
    ·rw [ej,EgM.upL_same]
     have:=h _ hi8
     rw [hn] at this
     exact this
    ·rw [EgM.upL_ne _ _ ej]
     exact h j hj
   ·rename_i c1;rw [hn] at hs0;dsimp only at hs0;rw [if_neg c1] at hs0;cases hs0
  ·rename_i x hx
   obtain ⟨hxi,hxd,_⟩:=hv.so _ x hx
   rw [hx] at hs0
   dsimp only at hs0
   split
   ·rename_i c1;rw [if_pos c1] at hs0;cases hs0
   rename_i c1
   rw [if_neg c1,if_neg h9] at hs0
   obtain ⟨a,b⟩:=EgF.told_ok hxi hk hv.un d xs
   split
   ·have hpm:OkPm (k+1) ((dS d).toNat:Int) ⟨(toldF x v.now d xs).2,v.q,v.l,ou0⟩:=⟨a,b.trans hxd,hv.q⟩
    have hA:Asc (ofJ D (dS d).toNat++sgO (v.q.fl (dS d).toNat)) 0 (bN (toldF x v.now d xs).2.bf):=by
     have:=h _ hi8
     rw [hx] at this
     rw [told_bN];exact this
    obtain ⟨p1,p2⟩:=pumpN_srt hi8 hv.un D (fresh (toldF x v.now d xs).2+1) _ hpm hA
    obtain ⟨_,_,p3,_⟩:=pumpN_ac hv.un (fresh (toldF x v.now d xs).2+1) _ hpm hi8
    intro j hj
    show Asc (ofJ (D++(pumpF _ _ _).o.dep) j++sgO ((pumpF _ _ _).q.fl j)) 0 (hiS (EgM.upL v.so (dS d).toNat (some (pumpF _ _ _).v) j))
    unfold pumpF
    rw [p3]
    show Asc (ofJ (D++[]) j++_) 0 _
    rw [List.append_nil]
    by_cases ej:j=(dS d).toNat
    ·rw [ej,EgM.upL_same];exact p2
    ·rw [EgM.upL_ne _ _ ej,p1 j ej];exact h j hj
   ·rename_i ec;rw [if_neg ec] at hs0;exact absurd hs0 ec
 ·rename_i e1;rw [if_neg e1] at hs0;cases hs0
end TsA

namespace MapW
def mapS (kk:IntKind) (cs:Ks) (r:Nat) (m:List (Int × Ks.T cs)):SP where
 h w S R:=MapIs w r kk cs m∧(∀ k,S k↔k=r)∧∀ k,¬ R k
 st:=by
  rintro w w' S R ⟨⟨es,c,h,e⟩,hS,hR⟩ hw
  exact ⟨⟨es,c,by rw [hw r (.inl ((hS r).2 rfl))];exact h,e⟩,hS,hR⟩
 nd:=by
  rintro w S R k ⟨⟨es,c,h,e⟩,hS,hR⟩ hk
  rcases hk with hk | hk
  ·rw [(hS k).1 hk];exact ⟨_,h,by simp [openD]⟩
  ·exact (hR k hk).elim
section
variable {w0 w : World} {S0 R0 : Nat → Prop} {F G : SP} {kk : IntKind} {cs : Ks}
theorem mapP {r:Nat} {m:List (Int × Ks.T cs)} (h:Own w0 S0 R0 w (mapS kk cs r m^F)):MapIs w r kk cs m∧∀ (w':World) (m':List (Int × Ks.T cs)),Ext (at1 r) w w'→MapIs w' r kk cs m'→Own w0 S0 R0 w' (mapS kk cs r m'^F):=by
 obtain ⟨S,R,⟨h1,hS,hR⟩,_,h2⟩:=h.part
 exact ⟨h1,fun w' m' he ho=>h2 w' (mapS kk cs r m') S (fun _=>False) (he.mono fun k _ hk=>(hS k).2 hk) ⟨ho,hS,fun _ h=>h⟩ (fun _ h=>.inl h) (fun _ h=>h.elim)⟩
theorem w_mkm {K:Nat→WP} (kk:IntKind) (cs:Ks) (h:Own w0 S0 R0 w F) (k:∀ r w',Own w0 S0 R0 w' (mapS kk cs r []^F)→K r w'):mkm K w :=
 fun w' he hb _=>k _ w' (h.more he (S':=fun k=>k=w.heap.size) ⟨⟨#[],0,hb,rfl⟩,fun _=>Iff.rfl,fun _ h=>h⟩ (fun _ hk=>by rw [hk];exact Nat.le_refl _))
theorem w_mlk {r:Nat} {n:Int} {z:List Lf} {K:Ks.T cs × Bool→WP} (m:List (Int × Ks.T cs)) (h:Own w0 S0 R0 w F) [t:Take (mapS kk cs r m) F G] (z0:Ks.T cs) (hz:Ks.mk cs z0=z) (k:K (match getM m n with | some x=>(x,true) | none=>(z0,false)) w):mlk r kk n cs z K w:=by
 refine ⟨m,(mapP (h.le t.le)).1,?_⟩
 cases hg:getM m n with
 | some x=>rw [hg] at k;exact .inl ⟨x,rfl,k⟩
 | none=>rw [hg] at k;exact .inr ⟨rfl,z0,hz,k⟩
theorem w_mup {r:Nat} {n:Int} {ls:List Lf} {A:WP} (m:List (Int × Ks.T cs)) (x:Ks.T cs) (h:Own w0 S0 R0 w F) [t:Take (mapS kk cs r m) F G] (hl:ls=Ks.mk cs x) (k:∀ w',Own w0 S0 R0 w' (mapS kk cs r (putM m n x)^G)→A w'):mup r kk n cs ls A w :=
 ⟨m,x,(mapP (h.le t.le)).1,hl,fun w' he ho _=>k w' ((mapP (h.le t.le)).2 w' _ he ho)⟩
end
theorem get_put {α:Type} (m:List (Int × α)) (k j:Int) (x:α):getM (putM m k x) j=if k=j then some x else getM m j:=by
 induction m with
 | nil=>simp only [putM,getM]
 | cons y m ih =>
  unfold putM
  by_cases h:y.1=k
  ·rw [if_pos h]
   by_cases hj:k=j
   ·simp [getM,hj]
   ·simp only [getM,if_neg hj]
    rw [if_neg (fun e=>hj (h.symm.trans e))]
  ·rw [if_neg h]
   by_cases hj:y.1=j
   ·simp only [getM,if_pos hj]
    rw [if_neg (fun e=>h (hj.trans e.symm))]
   ·simp only [getM,if_neg hj,ih]
end MapW

namespace TsB
open Arith ArithC FqM EgM EgC MapW TsA
abbrev ofK (D:List Sg) (k:Int):List Sg:=D.filter fun s=>sK s == k
def Good (s:Sg):Prop:=0≤sFr s∧0≤sLn s∧sFr s+sLn s≤4611686018427387904
structure OkA (D:List Sg) (H:Int):Prop where
 h:H≤4611686018427387904
 a:∀ k,Asc (ofK D k) 0 H
theorem asc_lb:∀ {L:List Sg} {lo hi:Int},Asc L lo hi→∀ s∈L,sAg s=false→lo≤sFr s∧0≤sLn s∧sFr s+sLn s≤hi
 | [],_,_,_=>fun _ h=>by cases h
 | x :: L,lo,hi,h=>fun s hs ha=>by
  unfold Asc at h
  rcases List.mem_cons.1 hs with e | e
  ·rw [e] at ha ⊢
   rw [if_neg (by rw [ha];decide)] at h
   exact ⟨h.1,h.2.1,asc_le h.2.2⟩
  ·split at h
   ·exact asc_lb h s e ha
   ·have:=asc_lb h.2.2 s e ha
    exact ⟨by omega,this.2⟩
theorem OkA.good {D:List Sg} {H:Int} (h:OkA D H) {s:Sg} (hs:s∈D) (ha:sAg s=false):Good s:=by
 have:=asc_lb (h.a (sK s)) s (List.mem_filter.2 ⟨hs,by simp⟩) ha
 have:=h.h
 exact ⟨by omega,by omega,by omega⟩
theorem ofK_cons (s:Sg) (D:List Sg) (k:Int):ofK (s :: D) k=if sK s=k then s :: ofK D k else ofK D k:=by
 unfold ofK
 by_cases h:sK s=k
 ·rw [if_pos h,List.filter_cons_of_pos (by simpa using h)]
 ·rw [if_neg h,List.filter_cons_of_neg (by simpa using h)]
theorem aend_tri (s:Sg) (hg:Good s):Tri Tryz.prog N_audit_end [.agg (Ks.mk KS s)] [.lf (.int .u64)] emp (fun r=>pur (r=sFr s+sLn s) emp) :=
 tri_0 (call_audit_end s) fun w0 S R h=>by
  unfold W_audit_end
  obtain ⟨g1,g2,g3⟩:=hg
  have e:IntKind.u64.wrap (if (0:Int) > sLn s then (0:Int) else sLn s)=sLn s:=by rw [if_neg (by omega),wu (n:=sLn s) (by omega) (by omega)]
  refine w_new (h.le (star_emp _)) fun n1 w h=>w_ld (x:=sFr s) h rfl (w_ld (x:=sLn s) h rfl ?_)
  rw [e]
  refine w_call (satadd_tri (sFr s) (sLn s) ⟨g1,by omega⟩ ⟨g2,by omega⟩) (h.le ((star_emp _).trans (star_comm _ _))) fun r w h=>?_
  obtain ⟨hr,h⟩:=h.purP
  have ea:addI (sFr s) (sLn s)=sFr s+sLn s:=by unfold addI;rw [if_pos (by omega)]
  exact Own.retP (hr.trans ea) h.emp'
theorem meet_tri (a b:Sg) (ha:Good a) (hb:Good b) (ho:sK a=sK b→sFr b+sLn b≤sFr a):Tri Tryz.prog N_audit_meet [.agg (Ks.mk KS a),.agg (Ks.mk KS b)] [.lf .bool] emp (fun r=>pur (r=false) emp) :=
 tri_0 (call_audit_meet a b) fun w0 S R h=>by
  unfold W_audit_meet
  refine w_new (h.le (star_emp _)) fun n1 w h=>w_new h fun n2 w h=>w_drw h fun w h=>w_ld (x:=sK a) h rfl (w_ld (x:=sK b) h rfl (w_ite (fun c=>?_) fun c=>Own.retP rfl h.emp'))
  have c:sK a=sK b:=by simpa using c
  have ho:=ho c
  obtain ⟨a1,a2,a3⟩:=ha
  obtain ⟨b1,b2,b3⟩:=hb
  refine w_ldAll (b:=n1) (x:=a) h rfl (w_ldAll (b:=n2) (x:=b) h rfl (w_ld (x:=sFr a) h rfl (w_ld (x:=sFr b) h rfl ?_)))
  refine w_call (aend_tri a ⟨a1,a2,a3⟩) (h.le ((star_emp _).trans (star_comm _ _))) fun r w h=>?_
  obtain ⟨hr,h⟩:=h.purP;rw [hr]
  have h:=h.drop
  refine w_chk h rfl (w_chk h rfl (w_chkAll (b:=n2) h ?_))
  refine w_call (aend_tri b ⟨b1,b2,b3⟩) (h.le ((star_emp _).trans (star_comm _ _))) fun r w h=>?_
  obtain ⟨hr,h⟩:=h.purP;rw [hr]
  have h:=h.drop
  refine w_chk h rfl (w_chk h rfl ?_)
  refine Own.retP (decide_eq_false fun hh=>?_) h.emp'
  revert hh
  (repeat' split)<;>omega
def Inv (D:List Sg) (H:Int) (m:List (Int × Sg)):Prop:=∀ k,match getM m k with
 | some a=>Good a∧Asc (ofK D k) (sFr a+sLn a) H
 | none=>Asc (ofK D k) 0 H
theorem inv_again {s:Sg} {D:List Sg} {H:Int} {m:List (Int × Sg)} (h:Inv (s :: D) H m) (ha:sAg s=true):Inv D H m:=fun k=>by
 have hk:=h k
 rw [ofK_cons] at hk
 by_cases e:sK s=k
 ·rw [if_pos e] at hk
  cases hg:getM m k with
  | some a=>rw [hg] at hk;refine ⟨hk.1,?_⟩;have:=hk.2;unfold Asc at this;rw [if_pos ha] at this;exact this
  | none=>rw [hg] at hk;unfold Asc at hk;rw [if_pos ha] at hk;exact hk
 ·rw [if_neg e] at hk;exact hk
theorem inv_new {s:Sg} {D:List Sg} {H:Int} {m:List (Int × Sg)} (hH:H≤4611686018427387904) (h:Inv (s :: D) H m) (ha:sAg s=false):(∀ a,getM m (sK s)=some a→Good a∧sFr a+sLn a≤sFr s)∧Inv D H (putM m (sK s) s):=by
 have hs:=h (sK s)
 rw [ofK_cons,if_pos rfl] at hs
 have key:∀ lo,0≤lo→Asc (s :: ofK D (sK s)) lo H→lo≤sFr s∧Good s∧Asc (ofK D (sK s)) (sFr s+sLn s) H:=fun lo hlo hA=>by
  unfold Asc at hA
  rw [if_neg (by rw [ha];decide)] at hA
  have:=asc_le hA.2.2
  exact ⟨hA.1,⟨by omega,hA.2.1,by omega⟩,hA.2.2⟩
 have hgs:Good s∧Asc (ofK D (sK s)) (sFr s+sLn s) H:=by
  cases hg:getM m (sK s) with
  | some a=>rw [hg] at hs;have:=key _ (by have:=hs.1.1;have:=hs.1.2.1;omega) hs.2;exact this.2
  | none=>rw [hg] at hs;exact (key 0 (Int.le_refl 0) hs).2
 refine ⟨fun a hg=>?_,fun k=>?_⟩
 ·rw [hg] at hs
  exact ⟨hs.1,(key _ (by have:=hs.1.1;have:=hs.1.2.1;omega) hs.2).1⟩
 ·rw [get_put]
  by_cases e:sK s=k
  ·rw [if_pos e,← e]
   exact hgs
  ·rw [if_neg e]
   have hk:=h k
   rw [ofK_cons,if_neg e] at hk
   exact hk
theorem sorted_tri (l:Sl) (D:List Sg) (H:Int) (hD:OkA D H) (hl:D.length≤4294967296):Tri Tryz.prog N_audit_Sorted [.lf (.sl l)] [.lf .bool] (emp^rarr l KS D) (fun r=>pur (r=true) emp) :=
 tri_0 (call_audit_Sorted l) fun w0 S R h=>by
  unfold W_audit_Sorted
  have h:=h.drop
  have hll:=(h.rd (s:=l)).2
  refine w_mkm .i64 KS h fun r1 w h=>?_
  refine w_loopE (fun (_:Int) (m:List (Int × Sg))=>mapS .i64 KS r1 m^rarr l KS D) (fun (i:Int) m=>(0≤i∧i≤D.length)∧Inv (D.drop i.toNat) H m) (fun (i:Int) _=>D.length - i.toNat) [] h ⟨⟨Int.le_refl 0,by omega⟩,fun k=>hD.a k⟩ ?_
  rintro K (i:Int) m w ⟨⟨i0,i1⟩,hI⟩ h next
  refine w_ite (fun c=>?_) fun c=>Own.retP rfl h.emp'
  have c:i < ((l.len:Nat):Int):=of_decide_eq_true c
  have hi:i.toNat < D.length:=by omega
  obtain ⟨s,hs⟩:∃ s,D[i.toNat]?=some s:=⟨_,at_some hi⟩
  have hdr:D.drop i.toNat=s :: D.drop (i.toNat+1):=drop_at hs
  have ei:(i+1).toNat=i.toNat+1:=by omega
  rw [hdr] at hI
  rw [wi (n:=i+1) (by omega) (by omega)]
  refine w_idx (s:=l) (h.take (rarr l KS D)) i0 hi (w_ldE (h.take (rarr l KS D)) l i.toNat hs rfl (w_new h fun n6 w h=>w_setAll h (by rfl) fun w h=>w_ld (x:=sAg s) h rfl (w_ite (fun ca=>?_) fun ca=>?_)))
  ·exact next (i+1) m w ⟨⟨by omega,by omega⟩,by rw [ei];exact inv_again hI ca⟩ h.fin (by rw [ei];omega)
  ·obtain ⟨h1,h2⟩:=inv_new hD.h hI ca
   have h:Own w0 S R w (blk n6 (Ks.mk KS s)^mapS .i64 KS r1 m^rarr l KS D):=h.fin
   refine w_join h (fun _=>blk n6 (Ks.mk KS s)^mapS .i64 KS r1 m^rarr l KS D) (fun _=>True) (fun _ w _ h=>?_) ?_
   ·refine w_ld (x:=sK s) h rfl (w_ldAll (b:=n6) (x:=s) h rfl ?_)
    refine w_mup m s h rfl fun w h=>?_
    exact next (i+1) (putM m (sK s) s) w ⟨⟨by omega,by omega⟩,by rw [ei];exact h2⟩ h.fin (by rw [ei];omega)
   ·refine w_ld (x:=sK s) h rfl (w_mlk m h ((0,0,0,0,false):Sg) rfl ?_)
    cases hg:getM m (sK s) with
    | none =>
     dsimp only
     refine w_new h fun n12 w h=>w_setAll h (by rfl) fun w h=>w_drw h fun w h=>w_ite (fun c=>by cases c) fun _=>⟨trivial,h.fin⟩
    | some a =>
     obtain ⟨g1,g2⟩:=h1 a hg
     dsimp only
     refine w_new h fun n12 w h=>w_setAll h (by rfl) fun w h=>w_drw h fun w h=>w_ite (fun _=>?_) fun c=>by cases c
     refine w_ldAll (b:=n12) (x:=a) h rfl (w_ld (x:=sFr s) h rfl ?_)
     refine w_call (aend_tri a g1) (h.le ((star_emp _).trans (star_comm _ _))) fun r w h=>?_
     obtain ⟨hr,h⟩:=h.purP;rw [hr]
     have h:=h.drop
     refine w_chk h rfl (w_ite (fun c=>?_) fun _=>⟨trivial,h.fin⟩)
     have:=of_decide_eq_true c
     omega
theorem once_tri (l:Sl) (hN:Nrm l) (hc:l.len≤l.cap) (D:List Sg) (H:Int) (hD:OkA D H) (hl:D.length≤4294967296):Tri Tryz.prog N_audit_Once [.lf (.sl l)] [.lf .bool] (emp^rarr l KS D) (fun r=>pur (r=true) emp) :=
 tri_0 (call_audit_Once l) fun w0 S R h=>by
  unfold W_audit_Once
  have h:=h.drop
  have hll:=(h.rd (s:=l)).2
  have pw:∀ (i j:Nat) (b a:Sg),D[j]?=some b→D[i]?=some a→j < i→sAg b=false→sAg a=false→sK a=sK b→sFr b+sLn b≤sFr a:=by
   intro i j b a hb ha hij hb0 ha0 hk
   have e:D.drop j=b :: D.drop (j+1):=drop_at hb
   have hA:=hD.a (sK b)
   have e2:ofK D (sK b)=ofK (D.take j) (sK b)++(b :: ofK (D.drop (j+1)) (sK b)):=by
    have:ofK D (sK b)=ofK (D.take j++D.drop j) (sK b):=by rw [List.take_append_drop]
    rw [this]
    show (List.filter _ _)=_
    rw [List.filter_append,e]
    congr 1
    rw [show List.filter (fun s=>sK s == sK b) (b :: D.drop (j+1))=ofK (b :: D.drop (j+1)) (sK b) from rfl,ofK_cons,if_pos rfl]
   rw [e2] at hA
   have hmem:a∈ofK (D.drop (j+1)) (sK b):=by
    refine List.mem_filter.2 ⟨List.mem_iff_getElem?.2 ⟨i - (j+1),?_⟩,by simpa using hk⟩
    rw [List.getElem?_drop,show j+1+(i - (j+1))=i by omega];exact ha
   have tail:∀ {L M:List Sg} {lo hi:Int},Asc (L++M) lo hi→∃ m,Asc M m hi:=by
    intro L
    induction L with
    | nil=>intro M lo hi h;exact ⟨lo,h⟩
    | cons x L ih =>
     intro M lo hi h
     have h:Asc (x :: (L++M)) lo hi:=h
     unfold Asc at h
     split at h
     ·exact ih h
     ·exact ih h.2.2
   obtain ⟨m,hm⟩:=tail hA
   unfold Asc at hm
   rw [if_neg (by rw [hb0];decide)] at hm
   exact (asc_lb hm.2.2 a hmem ha0).1
  refine w_loop (fun _:Int=>rarr l KS D) (fun i:Int=>0≤i∧i≤D.length) (fun i:Int=>D.length - i.toNat) h ⟨Int.le_refl 0,by omega⟩ ?_
  rintro (i:Int) w ⟨i0,i1⟩ h
  refine w_ite (fun c=>?_) fun c=>Own.retP rfl h.emp'
  have c:i < ((l.len:Nat):Int):=of_decide_eq_true c
  have hi:i.toNat < D.length:=by omega
  obtain ⟨a,ha⟩:∃ a,D[i.toNat]?=some a:=⟨_,at_some hi⟩
  have ei:(i+1).toNat=i.toNat+1:=by omega
  rw [wi (n:=i+1) (by omega) (by omega)]
  have nx:∀ {w:World} {F:SP},Own w0 S R w F→∀ [Take (rarr l KS D) F emp],True:=fun _=>trivial
  refine w_idx (s:=l) h i0 hi (w_ldE h l i.toNat ha rfl (w_new h fun n5 w h=>w_setAll h (by rfl) fun w h=>w_ld (x:=sAg a) h rfl (w_ite (fun ca=>?_) fun ca=>?_)))
  ·exact ⟨⟨⟨by show (0:Int)≤i+1;omega,by show i+1≤_;omega⟩,h.fin⟩,by show D.length - (i+1).toNat < _;omega⟩
  ·have hga:=hD.good (List.mem_of_getElem? ha) ca
   have h:Own w0 S R w (blk n5 (Ks.mk KS a)^rarr l KS D):=h.fin
   have hw:bnd (some i) l.len i.toNat:=by show i=_;omega
   refine w_slcR (s:=l) h hN 0 i.toNat l.cap rfl rfl hw rfl (Nat.zero_le _) (by omega) (by omega) (Nat.le_refl _) fun hs7 hr7=>?_
   rw [List.drop_zero] at hr7
   have hr7b:=rd_sub l (rarr l KS D) KS D 0 i.toNat l.cap (Nat.zero_le _) (by omega) (by omega)
   rw [List.drop_zero] at hr7b
   haveI:Rd (l.sub 0 i.toNat l.cap 5) (rarr l KS D) KS (D.take i.toNat):=hr7b
   refine w_loop (fun _:Int=>blk n5 (Ks.mk KS a)^rarr l KS D) (fun j:Int=>0≤j∧j≤i) (fun j:Int=>i.toNat - j.toNat) h ⟨Int.le_refl 0,i0⟩ ?_
   rintro (j:Int) w ⟨j0,j1⟩ h
   refine w_ite (fun c2=>?_) fun c2=>?_
   ·have c2:j < (((l.sub 0 i.toNat l.cap 5).len:Nat):Int):=of_decide_eq_true c2
    rw [hs7] at c2
    have hj:j.toNat < i.toNat:=by omega
    have hjl:j.toNat < (D.take i.toNat).length:=by rw [List.length_take];omega
    obtain ⟨b,hb⟩:∃ b,D[j.toNat]?=some b:=⟨_,at_some (by omega)⟩
    have hbt:(D.take i.toNat)[j.toNat]?=some b:=by rw [List.getElem?_take,if_pos hj];exact hb
    have ej:(j+1).toNat=j.toNat+1:=by omega
    rw [wi (n:=j+1) (by omega) (by omega)]
    refine w_idx (s:=l.sub 0 i.toNat l.cap 5) h j0 hjl (w_ldE h (l.sub 0 i.toNat l.cap 5) j.toNat hbt rfl (w_new h fun n12 w h=>w_setAll h (by rfl) fun w h=>w_ld (x:=sAg b) h rfl (w_ite (fun cb=>?_) fun cb=>?_)))
    ·have cb:sAg b=false:=by simpa using cb
     refine w_ldAll (b:=n5) (x:=a) h rfl (w_ldAll (b:=n12) (x:=b) h rfl ?_)
     refine w_call (meet_tri a b hga (hD.good (List.mem_of_getElem? hb) cb) (fun hk=>pw i.toNat j.toNat b a hb ha hj cb ca hk)) (h.le ((star_emp _).trans (star_comm _ _))) fun r w h=>?_
     obtain ⟨hr,h⟩:=h.purP;rw [hr]
     have h:=h.drop
     refine w_ite (fun c=>by cases c) fun _=>?_
     exact ⟨⟨⟨by show (0:Int)≤j+1;omega,by show j+1≤i;omega⟩,h.fin⟩,by show i.toNat - (j+1).toNat < _;omega⟩
    ·exact ⟨⟨⟨by show (0:Int)≤j+1;omega,by show j+1≤i;omega⟩,h.fin⟩,by show i.toNat - (j+1).toNat < _;omega⟩
   ·exact ⟨⟨⟨by show (0:Int)≤i+1;omega,by show i+1≤_;omega⟩,h.fin⟩,by show D.length - (i+1).toNat < _;omega⟩
theorem part_tri (l:Sl) (hc:l.len≤l.cap) (D:List Sg) (hl:D.length≤4294967296):Tri Tryz.prog N_audit_Part [.lf (.sl l),.lf (.sl l)] [.lf .bool] (emp^rarr l KS D) (fun r=>pur (r=true) emp) :=
 tri_0 (call_audit_Part l l) fun w0 S R h=>by
  unfold W_audit_Part
  have h:=h.drop
  have hll:=(h.rd (s:=l)).2
  refine w_loop (fun _:Sl × Int=>rarr l KS D) (fun y:Sl × Int=>(0≤y.2∧y.2≤D.length)∧Rd y.1 (rarr l KS D) KS (D.drop y.2.toNat)∧y.1.len≤y.1.cap) (fun y:Sl × Int=>D.length - y.2.toNat) h ⟨⟨Int.le_refl 0,by show (0:Int)≤_;omega⟩,by show Rd l _ KS (D.drop 0);rw [List.drop_zero];infer_instance,hc⟩ ?_
  rintro (⟨q,i⟩:Sl × Int) w ⟨⟨i0,i1⟩,hr,hq⟩ h
  dsimp only at i0 i1 hr hq h ⊢
  haveI:=hr
  have hql:=(h.rd (s:=q)).2
  rw [List.length_drop] at hql
  refine w_ite (fun c=>?_) fun c=>?_
  ·have c:i < ((l.len:Nat):Int):=of_decide_eq_true c
   have hi:i.toNat < D.length:=by omega
   obtain ⟨s,hs⟩:∃ s,D[i.toNat]?=some s:=⟨_,at_some hi⟩
   have hdr:D.drop i.toNat=s :: D.drop (i.toNat+1):=drop_at hs
   have h0:(D.drop i.toNat)[0]?=some s:=by rw [hdr];rfl
   have ei:(i+1).toNat=i.toNat+1:=by omega
   have hdl:(0:Int).toNat < (D.drop i.toNat).length:=by rw [List.length_drop];show 0 < _;omega
   rw [wi (n:=i+1) (by omega) (by omega)]
   refine w_idx (s:=l) h i0 hi (w_ldE h l i.toNat hs rfl (w_new h fun n5 w h=>w_setAll h (by rfl) fun w h=>w_drw h fun w h=>w_ite (fun _=>?_) fun c=>?_))
   ·refine w_ldAll (b:=n5) (x:=s) h rfl (w_idx (s:=q) h (Int.le_refl 0) hdl (w_ldE h q 0 h0 rfl (w_ite (fun _=>?_) fun c=>absurd c (by simp))))
    have hN:Nrm q:=Nrm.long (h.rd (s:=q)).1 (by omega)
    refine w_slcR (s:=q) h hN 1 q.len q.cap rfl rfl rfl rfl (by omega) (by rw [List.length_drop];omega) hq (Nat.le_refl _) fun _ _=>?_
    have hr9:=rd_sub q (rarr l KS D) KS (D.drop i.toNat) 1 q.len q.cap (by omega) (by rw [List.length_drop];omega) hq
    rw [List.take_of_length_le (by rw [List.length_drop];omega),List.drop_drop] at hr9
    refine ⟨⟨⟨⟨by show (0:Int)≤i+1;omega,by show i+1≤_;omega⟩,?_,by show q.len - 1≤q.cap - 1;omega⟩,h.fin⟩,by show D.length - (i+1).toNat < _;omega⟩
    show Rd (q.sub 1 q.len q.cap 5) (rarr l KS D) KS (D.drop (i+1).toNat)
    rw [ei]
    exact hr9
   ·have:=of_decide_eq_false c
    omega
  ·have c:¬ i < ((l.len:Nat):Int):=of_decide_eq_false c
   exact Own.retP (by rw [beq_iff_eq];omega) h.emp'
end TsB

namespace ScR
open Arith ArithC TreeF FqM FqC SockC EgM EgA EgB EgC EgD EgE EgF EgG EgH EgI EgJ EgK EgQ
def outsM (v:Mc) (ps:List OpE):Nat→List Ou
 | 0=>[]
 | j+1=>outsM v ps j++[(doF (runM v ps j) (pAt ps j).1 (pAt ps j).2).1.1]
theorem outs_len (v:Mc) (ps:List OpE):∀ j,(outsM v ps j).length=j
 | 0=>rfl
 | j+1=>by show (outsM v ps j++[_]).length=_;rw [List.length_append,outs_len v ps j];rfl
abbrev OR:=Ks.T KOu × Ou
def oR (x:OR):SP:=outR x.1 x.2
instance (x:OR):NoR (oR x):=by unfold oR;infer_instance
theorem rl_nor {α:Type} (f:α→SP) (h:∀ x,NoR (f x)):∀ l:List α,NoR (rl f l)
 | []=>by unfold rl;infer_instance
 | x :: l=>by have:=rl_nor f h l;have:=h x;unfold rl;infer_instance
instance (l:List OR):NoR (rl oR l):=rl_nor oR inferInstance l
theorem rl_snoc {α:Type} (f:α→SP) (x:α):∀ l:List α,Le (rl f l^f x) (rl f (l++[x]))
 | []=>(star_comm _ _)
 | y :: l=>(star_assoc _ _ _).trans (star_mono Le.rfl (rl_snoc f x l))
def runP (r:Sl × Sl) (rs:List OR) (es:List Int):SP:=arr r.1 KOu (rs.map Prod.fst)^arr r.2 KI es^rl oR rs
instance (r:Sl × Sl) (rs:List OR) (es:List Int):NoR (runP r rs es):=by unfold runP;infer_instance
theorem runA_tri (c:Cf) (hm:may c=true) (hc:OkC c) (s:Sl) (ps:List OpE) (hl:ps.length≤1000) (hd:∀ p∈ps,OkD p.1) (hx:∀ p∈ps,p.2.length≤4294967296):Tri Tryz.prog N_script_Run [.agg (Ks.mk KC c),.lf (.sl s)] [.lf .sl,.lf .sl] (emp^opsE s ps)
  (fun r=>ex fun rs:List OR=>pur (rs.map Prod.snd=outsM (newM c) ps ps.length) (runP r rs (errsM (newM c) ps ps.length))) :=
 tri_0 (call_script_Run c s) fun w0 S R h=>by
  unfold W_script_Run
  have hsl:=(h.rd (s:=s)).2
  rw [List.length_map] at hsl
  refine w_new h fun n1 w h=>w_ldAll (b:=n1) (x:=c) h rfl (w_call (EgE.new_tri c) (h.le ((star_emp _).trans (star_comm _ _))) fun r w h=>?_)
  obtain ⟨b,h⟩:=h.exP
  obtain ⟨hr,h⟩:=h.purP
  rw [if_pos hm] at hr h
  rw [hr]
  refine w_ite (fun c=>(by cases c)) fun _=>?_
  have h:=h.nil KOu
  have h:=h.nil KI
  have h:Own w0 S R w (mach b (runM (newM c) ps (0:Int).toNat)^arr ⟨none,0,0⟩ KOu (([]:List OR).map Prod.fst)^arr ⟨none,0,0⟩ KI (errsM (newM c) ps (0:Int).toNat)^rl oR []^opsE s ps):=Own.fin (A:=mach b (newM c)^arr ⟨none,0,0⟩ KOu []^arr ⟨none,0,0⟩ KI []^emp^opsE s ps) h
  refine w_loopE (fun (y:Sl × Sl × Int) (rs:List OR)=>mach b (runM (newM c) ps y.2.2.toNat)^arr y.1 KOu (rs.map Prod.fst)^arr y.2.1 KI (errsM (newM c) ps y.2.2.toNat)^rl oR rs^opsE s ps) (fun (y:Sl × Sl × Int) rs=>(0≤y.2.2∧y.2.2≤ps.length)∧rs.map Prod.snd=outsM (newM c) ps y.2.2.toNat) (fun (y:Sl × Sl × Int) _=>((ps.length:Int) - y.2.2).toNat) [] h ⟨⟨Int.le_refl 0,by show (0:Int)≤_;omega⟩,rfl⟩ ?_
  rintro K (y:Sl × Sl × Int) rs w ⟨hyr,hrl⟩ h next
  obtain ⟨y1,y2,y3⟩:=y
  dsimp only at hyr hrl h next ⊢
  have hrs:rs.length=y3.toNat:=by have:=congrArg List.length hrl;rw [List.length_map,outs_len] at this;exact this
  refine w_ite (fun c0=>?_) fun c0=>?_
  ·have c0:y3 < ((s.len:Nat):Int):=of_decide_eq_true c0
   have hlt:y3.toNat < ps.length:=by omega
   obtain ⟨p,hpi⟩:∃ p,ps[y3.toNat]?=some p:=⟨_,List.getElem?_eq_getElem hlt⟩
   have hpa:pAt ps y3.toNat=p:=by unfold pAt;rw [List.getD_eq_getElem?_getD,hpi];rfl
   have hdm:(ps.map Prod.fst)[y3.toNat]?=some p.1:=by rw [List.getElem?_map,hpi];rfl
   have hdl:y3.toNat < (ps.map Prod.fst).length:=by rw [List.length_map];exact hlt
   have hmem:=List.mem_of_getElem? hpi
   refine w_idx (s:=s) h hyr.1 hdl (w_ldE h s y3.toNat hdm rfl ?_)
   refine w_new h fun n9 w h=>w_setTo h n9 (Ks.mk KD p.1) rfl rfl rfl fun w h=>w_ldAll (b:=n9) (x:=p.1) h rfl ?_
   haveI:=rd_dR hpi
   have hv:=runM_ok hc hd y3.toNat (by omega) (by omega)
   have h:Own w0 S R w (mach b (runM (newM c) ps y3.toNat)^(arr y1 KOu (rs.map Prod.fst)^arr y2 KI (errsM (newM c) ps y3.toNat)^rl oR rs)^opsE s ps):=h.fin
   refine w_callL (A:=mach b (runM (newM c) ps y3.toNat)) (Q:=rarr (dR p.1) KR p.2) (do_tri b _ _ hv (by omega) p.1 (hd p hmem) p.2 (hx p hmem)) h fun r w h=>?_
   obtain ⟨hre,h⟩:=h.purP
   obtain ⟨ro,re⟩:=r
   dsimp only at hre h ⊢
   rw [← hpa] at hre h
   obtain ⟨on,hon⟩:∃ on,on=(doF (runM (newM c) ps y3.toNat) (pAt ps y3.toNat).1 (pAt ps y3.toNat).2).1.1:=⟨_,rfl⟩
   rw [← hon] at h
   have h:Own w0 S R w (outR ro on^mach b (runM (newM c) ps (y3.toNat+1))^arr y1 KOu (rs.map Prod.fst)^arr y2 KI (errsM (newM c) ps y3.toNat)^rl oR rs^opsE s ps):=Own.fin (A:=outR ro on^mach b (doF (runM (newM c) ps y3.toNat) (pAt ps y3.toNat).1 (pAt ps y3.toNat).2).2^arr y1 KOu (rs.map Prod.fst)^arr y2 KI (errsM (newM c) ps y3.toNat)^rl oR rs^opsE s ps) h
   refine w_new h fun n12 w h=>w_setTo h n12 (Ks.mk KOu ro) rfl rfl rfl fun w h=>w_ldAll (b:=n12) (x:=ro) h rfl ?_
   refine w_new h fun n14 w h=>?_
   have h:=h.blkArr n14 KOu [ro] rfl (by simp)
   have h:Own w0 S R w (arr ⟨some ⟨n14,0⟩,1,1⟩ KOu [ro]^_):=h
   have h:Own w0 S R w (arr y1 KOu (rs.map Prod.fst)^arr ⟨some ⟨n14,0⟩,1,1⟩ KOu [ro]^outR ro on^mach b (runM (newM c) ps (y3.toNat+1))^arr y2 KI (errsM (newM c) ps y3.toNat)^rl oR rs^opsE s ps):=h.fin
   refine w_app (s:=y1) (x:=⟨some ⟨n14,0⟩,1,1⟩) h rfl (by rw [List.length_map,hrs];show _+1≤_;omega) fun s15 w _ h=>?_
   refine w_new h fun n16 w h=>?_
   have h:=h.blkArr n16 KI [re] rfl (by simp)
   have h:Own w0 S R w (arr ⟨some ⟨n16,0⟩,1,1⟩ KI [re]^_):=h
   have h:Own w0 S R w (arr y2 KI (errsM (newM c) ps y3.toNat)^arr ⟨some ⟨n16,0⟩,1,1⟩ KI [re]^arr s15 KOu (rs.map Prod.fst++[ro])^outR ro on^mach b (runM (newM c) ps (y3.toNat+1))^rl oR rs^opsE s ps):=h.fin
   refine w_app (s:=y2) (x:=⟨some ⟨n16,0⟩,1,1⟩) h rfl (by rw [errs_len];show _+1≤_;omega) fun s17 w _ h=>?_
   have hwi:IntKind.i64.wrap (y3+1)=y3+1:=wi (by omega) (by omega)
   have he:errsM (newM c) ps y3.toNat++[re]=errsM (newM c) ps (y3.toNat+1):=by rw [hre];rfl
   have h1:(y3+1).toNat=y3.toNat+1:=by omega
   rw [hwi]
   have ea:rs.map Prod.fst++[ro]=(rs++[((ro,on):OR)]).map Prod.fst:=by rw [List.map_append];rfl
   have eb:(rs++[((ro,on):OR)]).map Prod.snd=outsM (newM c) ps (y3.toNat+1):=by rw [List.map_append,hrl,hon];rfl
   rw [he,ea] at h
   have h:Own w0 S R w ((mach b (runM (newM c) ps (y3.toNat+1))^arr s15 KOu ((rs++[((ro,on):OR)]).map Prod.fst)^arr s17 KI (errsM (newM c) ps (y3.toNat+1))^opsE s ps)^(rl oR rs^outR ro on)):=h.fin
   have h:=h.le (star_mono Le.rfl (rl_snoc oR (ro,on) rs))
   refine next (s15,s17,y3+1) (rs++[(ro,on)]) w ⟨⟨by show 0≤y3+1;omega,by show y3+1≤_;omega⟩,by show _=outsM (newM c) ps (y3+1).toNat;rw [h1];exact eb⟩ ?_ (by show ((ps.length:Int) - (y3+1)).toNat < ((ps.length:Int) - y3).toNat;omega)
   show Own w0 S R w (mach b (runM (newM c) ps (y3+1).toNat)^arr s15 KOu ((rs++[((ro,on):OR)]).map Prod.fst)^arr s17 KI (errsM (newM c) ps (y3+1).toNat)^rl oR (rs++[((ro,on):OR)])^opsE s ps)
   rw [h1]
   exact h.fin
  ·have c0:¬ y3 < ((s.len:Nat):Int):=of_decide_eq_false c0
   have e:y3.toNat=ps.length:=by omega
   rw [e] at h hrl
   have h:Own w0 S R w (arr y1 KOu (rs.map Prod.fst)^arr y2 KI (errsM (newM c) ps ps.length)^rl oR rs):=h.fin
   exact Own.retE rs (Own.retP hrl h)
end ScR

namespace TsC
open Arith ArithC TreeF FqM FqC SockC EgM EgA EgB EgC EgD EgE EgF EgG EgH EgI EgJ EgK EgP EgT EgQ ScR MapW TsA TsB
open SockA (bN bW bU bL)
open SockM (Sk)
section
variable {P : Program} {w0 w : World} {S0 R0 : Nat → Prop} {F Q : SP}
theorem w_lend {f:FuncId} {args:List V1} {rs:List Sh} {Post:Rs.T rs→SP} {K:Rs.T rs→WP} (t:Tri P f args rs (emp^Q) Post) (h:Own w0 S0 R0 w F) (hl:Lend Q F) [hN:∀ x,NoR (Post x)] (k:∀ x w',Own w0 S0 R0 w' (Post x^F)→K x w'):call P f args rs K w :=
 w_callL (A:=emp) (Q:=Q) (F:=emp^F) (G:=F) t (h.le ((star_emp _).trans (star_comm _ _))) k
theorem lend_rlE {α:Type} {f:α→SP}:∀ {l:List α},(∀ p∈l,Lend (f p) F)→Lend (rl f l) F
 | [],_=>lend_emp F
 | x :: l,h=>by
  haveI:=h x (List.mem_cons_self ..)
  haveI:=lend_rlE (l:=l) fun p hp=>h p (List.mem_cons_of_mem _ hp)
  exact lend_star (f x) (rl f l) F
theorem lend_ops (r:Sl) (ds:List OpE) [t:Rd r F KD (ds.map Prod.fst)] (h:∀ p∈ds,Rd (dR p.1) F KR p.2):Lend (opsE r ds) F :=
 lend_star _ _ _ (b:=lend_rlE fun p hp=>by haveI:=h p hp;infer_instance)
theorem rd_deeds {ps:List OpE} {m:Int} (hp:∀ p∈ps,OkE p) (hr:∀ p∈ps,Rd (dR p.1) F KR p.2) (hlen:∀ p∈ps,(dR p.1).len=p.2.length):∀ q∈deedsF m ps,Rd (dR q.1) F KR q.2:=by
 intro q hq
 obtain ⟨p,hpm,rfl⟩:=List.mem_map.1 hq
 have hpm:=List.mem_of_mem_take hpm
 haveI:=hr p hpm
 exact rd_deed p F (hp p hpm).cp (hlen p hpm)
theorem ops_len {s:Sl} {ps:List OpE} (h:Own w0 S0 R0 w (opsE s ps)):∀ p∈ps,(dR p.1).len=p.2.length:=fun p hp=>by
 obtain ⟨i,hi⟩:=List.mem_iff_getElem?.1 hp
 haveI:=rd_dR hi
 exact (h.rd (s:=dR p.1)).2
theorem rd_ops {ps:List OpE}:∀ p∈ps,Rd (dR p.1) (rl (fun p:OpE=>rarr (dR p.1) KR p.2) ps) KR p.2:=fun p hp=>by
 obtain ⟨i,hi⟩:=List.mem_iff_getElem?.1 hp
 exact rd_dR hi
theorem deeds_D {ps:List OpE} {m:Int} (hp:∀ p∈ps,OkE p):∀ q∈deedsF m ps,OkD q.1∧q.2.length≤4294967296:=fun q hq=>by
 obtain ⟨p,hpm,rfl⟩:=List.mem_map.1 hq
 exact ⟨deedF_ok (hp p (List.mem_of_mem_take hpm)),by show (p.2.take 6).length≤_;rw [List.length_take];omega⟩
theorem rd_dep {rs:List OR} {x:OR} (hx:x∈rs):Rd x.1.1 (rl oR rs) KS x.2.dep:=by
 obtain ⟨i,hi⟩:=List.mem_iff_getElem?.1 hx
 have r:Rd x.1.1 (arr x.1.1 KS x.2.dep^arr x.1.2.1 KS x.2.dr^arr x.1.2.2.1 KI x.2.ft) KS x.2.dep:=inferInstance
 exact rd_rl hi ⟨fun w S R h=>r.rd w S R h.2,fun w S R h=>r.fp w S R h.2⟩
end
def depsM (v:Mc) (ps:List OpE) (n:Nat):List Sg:=(outsM v ps n).flatMap Ou.dep
theorem deps_s (v:Mc) (ps:List OpE) (n:Nat):depsM v ps (n+1)=depsM v ps n++(doF (runM v ps n) (pAt ps n).1 (pAt ps n).2).1.1.dep:=by
 unfold depsM
 show (outsM v ps n++[_]).flatMap Ou.dep=_
 rw [List.flatMap_append]
 simp
theorem do_dep {k:Int} {v:Mc} (hv:OkMc k v) (d:Dd) (xs:List (Int × Int)):(doF v d xs).1.1.dep.length≤1∧∀ s∈(doF v d xs).1.1.dep,0≤sK s∧sK s < 8:=by
 have no:([]:List Sg).length≤1∧∀ s∈([]:List Sg),0≤sK s∧sK s < 8:=⟨Nat.zero_le _,fun _ h=>by cases h⟩
 have ps:∀ (i now:Int) (n:Nat) (s:Pm),(pumpN i now n s).o.dep=s.o.dep:=by
  intro i now n
  induction n with
  | zero=>intro s;rfl
  | succ n ih =>
   intro s
   have e:(enter i now s).1.o.dep=s.o.dep:=by
    unfold enter
    dsimp only
    split<;>rfl
   unfold pumpN
   split
   ·rfl
   ·split
    ·rw [ih,e]
    ·exact e
 have dd:∀ (l:Nat→Ct) (o:Ou) (a:List Sg),(dropsF l o a).1.dep=o.dep:=by
  intro l o a
  induction a generalizing l o with
  | nil=>rfl
  | cons x a ih=>exact ih _ _
 unfold doF
 split
 ·exact no
 show (stepM v d xs).2.1.dep.length≤1∧∀ s∈(stepM v d xs).2.1.dep,0≤sK s∧sK s < 8
 unfold stepM
 split
 ·exact no
 split
 ·show (pullF v ou0).1.dep.length≤1∧∀ s∈(pullF v ou0).1.dep,0≤sK s∧sK s < 8
  unfold pullF
  rcases deq_sg hv.q hv.un (rates_U hv) with ⟨h1,_⟩ | ⟨i,s,h1,⟨h3,h4⟩,_⟩
  ·cases hd:deqF v.q v.now (ratesF v.so) with
   | mk x q =>
   rw [hd] at h1
   dsimp only at h1
   subst h1
   dsimp only
   split<;>exact no
  ·cases hd:deqF v.q v.now (ratesF v.so) with
   | mk x q =>
   rw [hd] at h1
   dsimp only at h1
   subst h1
   exact ⟨Nat.le_refl _,fun x hx=>by
    have:x=s:=List.mem_singleton.1 hx
    rw [this,h3]
    omega⟩
 split
 ·exact no
 split
 ·show (oneM v d xs ou0).2.1.dep.length≤1∧∀ s∈(oneM v d xs ou0).2.1.dep,0≤sK s∧sK s < 8
  unfold oneM
  split
  ·exact no
  split
  ·split<;>exact no
  ·split
   ·exact no
   split
   ·show (dropsF _ _ _).1.dep.length≤1∧∀ s∈(dropsF _ _ _).1.dep,0≤sK s∧sK s < 8
    rw [dd];exact no
   split
   ·show (pumpN _ _ _ _).o.dep.length≤1∧∀ s∈(pumpN _ _ _ _).o.dep,0≤sK s∧sK s < 8
    rw [ps];exact no
   ·exact no
 ·exact no
theorem run_srt {c:Cf} (hc:OkC c) {ps:List OpE} (hd:∀ p∈ps,OkD p.1) (h9:∀ p∈ps,dK p.1≠9):∀ j:Nat,j≤1000→j≤ps.length→Srt (runM (newM c) ps j) (depsM (newM c) ps j)∧(depsM (newM c) ps j).length≤j∧∀ s∈depsM (newM c) ps j,0≤sK s∧sK s < 8
 | 0,_,_=>⟨fun j hj=>by
   show Asc (ofJ [] j++sgO ((newF c).fl j)) 0 0
   have e:sgO ((newF c).fl j)=[]:=rfl
   rw [e]
   exact Int.le_refl 0,Nat.le_refl _,fun _ h=>by cases h⟩
 | j+1,h1,h2=>by
  obtain ⟨a,b,c'⟩:=run_srt hc hd h9 j (by omega) (by omega)
  have hv:=runM_ok hc hd j (by omega) (by omega)
  have hj:pAt ps j∈ps:=by
   have:pAt ps j=ps[j]:=by unfold pAt;rw [List.getD_eq_getElem?_getD,List.getElem?_eq_getElem (by omega)];rfl
   rw [this];exact List.getElem_mem _
  obtain ⟨d1,d2⟩:=do_dep hv (pAt ps j).1 (pAt ps j).2
  rw [deps_s]
  refine ⟨do_srt hv (by omega) (pAt ps j).1 (pAt ps j).2 (h9 _ hj) a,by rw [List.length_append];omega,fun s hs=>?_⟩
  rcases List.mem_append.1 hs with hs | hs
  ·exact c' s hs
  ·exact d2 s hs
theorem run_A {c:Cf} (hc:OkC c) {ps:List OpE} (hd:∀ p∈ps,OkD p.1) (h9:∀ p∈ps,dK p.1≠9) (hl:ps.length≤1000):OkA (depsM (newM c) ps ps.length) 4611686018427387904 where
 h:=Int.le_refl _
 a k:=by
  obtain ⟨a,b,cc⟩:=run_srt hc hd h9 ps.length hl (Nat.le_refl _)
  have hv:=runM_ok hc hd ps.length hl (Nat.le_refl _)
  by_cases hk:0≤k∧k < 8
  ·have:=asc_pre (a k.toNat (by omega))
   have e:ofJ (depsM (newM c) ps ps.length) k.toNat=ofK (depsM (newM c) ps ps.length) k:=by
    unfold ofJ ofK
    rw [show ((k.toNat:Nat):Int)=k by omega]
   rw [e] at this
   refine asc_high ?_ this
   unfold hiS
   split
   ·rename_i x hx
    obtain ⟨hxi,_⟩:=hv.so _ x hx
    have h1:=hxi.i.ok.bf.nw
    have h2:=hxi.i.ok.bf.w
    omega
   ·decide
  ·have e:ofK (depsM (newM c) ps ps.length) k=[]:=by
    unfold ofK
    rw [List.filter_eq_nil_iff]
    intro s hs
    have:=cc s hs
    simpa using fun e=>by omega
   rw [e]
   show (0:Int)≤4611686018427387904
   decide
end TsC

namespace TsD
open Arith ArithC TreeF FqM FqC SockC EgM EgA EgB EgC EgD EgE EgF EgG EgH EgI EgJ EgK EgP EgT EgQ ScR MapW TsA TsB TsC
abbrev nc (p:OpE):Bool:=dK p.1 != 9
theorem take_s {α:Type} {l:List α} {i:Nat} {x:α} (h:l[i]?=some x):l.take (i+1)=l.take i++[x]:=by rw [List.take_add_one,h];rfl
theorem ScS_pre (v : Mc) (ps : List OpE) (k : Nat) : ∀ n, k ≤ n → (outsM v ps n).take k = outsM v ps k := by
  intro n hn
  induction n with
  | zero => have : k = 0 := by omega
            rw [this]; rfl
  | succ n ih =>
    by_cases e : k = n + 1
    · rw [e, List.take_of_length_le (by rw [outs_len]; exact Nat.le_refl _)]
    · show (outsM v ps n ++ [_]).take k = _
      rw [List.take_append_of_le_length (by rw [outs_len]; omega), ih (by omega)]
theorem sorted_tri (d:Cf) (s:Sl) (ps:List OpE) (hd:0≤cH d∧U (cR d)) (hp:∀ p∈ps,OkE p):Tri Tryz.prog N_cantertop_TopSorted [.agg (Ks.mk KC d),.lf (.sl s)] [.lf .bool] (opsE s ps) (fun r=>pur (r=true) emp) :=
 tri_0 (call_cantertop_TopSorted d s) fun w0 S R h=>by
  unfold W_cantertop_TopSorted
  have hlen:=ops_len h
  obtain ⟨ds,hds⟩:∃ ds,ds=deedsF 110 ps:=⟨_,rfl⟩
  have hD:=deeds_D (m:=110) hp
  have hdl:(deedsF 110 ps).length≤110:=by unfold deedsF;rw [List.length_map,List.length_take];exact Nat.min_le_left _ _
  have hrd:∀ {F:SP},(∀ p∈ps,Rd (dR p.1) F KR p.2)→∀ q∈ds,Rd (dR q.1) F KR q.2:=fun hr=>by rw [hds];exact rd_deeds hp hr hlen
  rw [← hds] at hD hdl
  obtain ⟨cf,hcf⟩:∃ c,c=FqI.configF d:=⟨_,rfl⟩
  have hcm:may cf=true:=by rw [hcf];exact FqI.config_may d
  have hco:OkC cf:=by rw [hcf];exact FqI.config_ok hd.1 hd.2
  refine w_new h fun n1 w h=>w_ldAll (b:=n1) (x:=d) h rfl ?_
  refine w_call (FqI.config_tri d) (h.le ((star_emp _).trans (star_comm _ _))) fun r w h=>?_
  obtain ⟨hr,h⟩:=h.purP;rw [hr,← hcf]
  refine w_setAll h (by rfl) fun w h=>?_
  refine w_lend (deeds_tri s ps 110 (by decide) hp) h inferInstance fun r4 w h=>?_
  rw [← hds] at h
  have h:Own w0 S R w (arr r4 KD (ds.map Prod.fst)^blk n1 (Ks.mk KC cf)^opsE s ps):=h.fin
  have hr4:=(h.rd (s:=r4)).2
  rw [List.length_map] at hr4
  have h:=h.nil KD
  have h:Own w0 S R w (arr ⟨none,0,0⟩ KD (((ds.take (0:Int).toNat).filter nc).map Prod.fst)^arr r4 KD (ds.map Prod.fst)^blk n1 (Ks.mk KC cf)^opsE s ps):=h
  refine w_loop (fun y:Sl × Int=>arr y.1 KD (((ds.take y.2.toNat).filter nc).map Prod.fst)^arr r4 KD (ds.map Prod.fst)^blk n1 (Ks.mk KC cf)^opsE s ps) (fun y:Sl × Int=>0≤y.2∧y.2≤ds.length) (fun y:Sl × Int=>ds.length - y.2.toNat) h ⟨Int.le_refl 0,by show (0:Int)≤_;omega⟩ ?_
  rintro (⟨q,i⟩:Sl × Int) w ⟨i0,i1⟩ h
  dsimp only at i0 i1 h ⊢
  refine w_ite (fun c=>?_) fun c=>?_
  ·have c:i < ((r4.len:Nat):Int):=of_decide_eq_true c
   have hi:i.toNat < ds.length:=by omega
   obtain ⟨p,hpi⟩:∃ p,ds[i.toNat]?=some p:=⟨_,at_some hi⟩
   have hpf:(ds.map Prod.fst)[i.toNat]?=some p.1:=by rw [List.getElem?_map,hpi];rfl
   have hpl:i.toNat < (ds.map Prod.fst).length:=by rw [List.length_map];exact hi
   have ei:(i+1).toNat=i.toNat+1:=by omega
   have hA:=h.take (arr r4 KD (ds.map Prod.fst))
   rw [wi (n:=i+1) (by omega) (by omega)]
   refine w_idx (s:=r4) hA i0 hpl (w_ldA hA r4 i.toNat 0 p.1 hpf rfl (by decide) (x:=dK p.1) rfl (w_ite (fun c9=>?_) fun c9=>?_))
   ·refine w_idx (s:=r4) hA i0 hpl (w_ldE hA r4 i.toNat hpf rfl (w_new h fun n11 w h=>?_))
    have h:=h.blkArr n11 KD [p.1] rfl (by simp)
    have h:Own w0 S R w (arr q KD (((ds.take i.toNat).filter nc).map Prod.fst)^arr ⟨some ⟨n11,0⟩,1,1⟩ KD [p.1]^arr r4 KD (ds.map Prod.fst)^blk n1 (Ks.mk KC cf)^opsE s ps):=h.fin
    have hfl:((ds.take i.toNat).filter nc).length≤110:=Nat.le_trans (List.length_filter_le _ _) (by rw [List.length_take];omega)
    refine w_app (s:=q) (x:=⟨some ⟨n11,0⟩,1,1⟩) h rfl (by rw [List.length_map,List.length_singleton];omega) fun s12 w _ h=>?_
    have e:((ds.take i.toNat).filter nc).map Prod.fst++[p.1]=((ds.take (i+1).toNat).filter nc).map Prod.fst:=by
     rw [ei,take_s hpi,List.filter_append,List.map_append,List.filter_cons_of_pos (show nc p=true from c9)];rfl
    rw [e] at h
    exact ⟨⟨⟨by show (0:Int)≤i+1;omega,by show i+1≤_;omega⟩,h.fin⟩,by show ds.length - (i+1).toNat < _;omega⟩
   ·have e:((ds.take i.toNat).filter nc).map Prod.fst=((ds.take (i+1).toNat).filter nc).map Prod.fst:=by
     rw [ei,take_s hpi,List.filter_append,List.map_append,List.filter_cons_of_neg (show ¬ nc p=true from by rw [show nc p=false from c9];decide)]
     simp
    rw [e] at h
    exact ⟨⟨⟨by show (0:Int)≤i+1;omega,by show i+1≤_;omega⟩,h⟩,by show ds.length - (i+1).toNat < _;omega⟩
  have c:¬ i < ((r4.len:Nat):Int):=of_decide_eq_false c
  rw [show ds.take i.toNat=ds from List.take_of_length_le (by omega)] at h
  obtain ⟨fs,hfs⟩:∃ fs,fs=ds.filter nc:=⟨_,rfl⟩
  rw [← hfs] at h
  have hmem:∀ p∈fs,p∈ds∧dK p.1≠9:=fun p hp=>by
   rw [hfs] at hp
   have:=List.mem_filter.1 hp
   exact ⟨this.1,by simpa using this.2⟩
  have hfl:fs.length≤110:=by rw [hfs];exact Nat.le_trans (List.length_filter_le _ _) hdl
  have hql:=(h.rd (s:=q)).2
  rw [List.length_map] at hql
  refine w_ldAll (b:=n1) (x:=cf) h rfl ?_
  refine w_lend (runA_tri cf hcm hco q fs (by omega) (fun p hp=>(hD p (hmem p hp).1).1) (fun p hp=>(hD p (hmem p hp).1).2)) h (lend_ops q fs (fun p hp=>hrd (fun p hp=>by haveI:=rd_ops p hp;infer_instance) p (hmem p hp).1)) fun r14 w h=>?_
  obtain ⟨rs,h⟩:=h.exP
  obtain ⟨hrs,h⟩:=h.purP
  have h:Own w0 S R w ((arr r14.1 KOu (rs.map Prod.fst)^arr r14.2 KI (errsM (newM cf) fs fs.length)^rl oR rs)^arr q KD (fs.map Prod.fst)^arr r4 KD (ds.map Prod.fst)^blk n1 (Ks.mk KC cf)^opsE s ps):=h
  have h:Own w0 S R w (arr r14.1 KOu (rs.map Prod.fst)^arr r14.2 KI (errsM (newM cf) fs fs.length)^rl oR rs):=h.fin
  have hrl:rs.length=fs.length:=by have:=congrArg List.length hrs;rw [List.length_map,outs_len] at this;exact this
  refine w_call tawake_tri (h.le ((star_emp _).trans (star_comm _ _))) fun r15 w h=>?_
  obtain ⟨hr15,h⟩:=h.purP
  have h:=h.drop
  have l1:=(h.rd (s:=r14.1)).2
  have l2:=((h.take (arr r14.2 KI (errsM (newM cf) fs fs.length))).rd (s:=r14.2)).2
  rw [List.length_map,hrl] at l1
  rw [errs_len] at l2
  refine w_ite (fun c=>absurd c (by rw [hr15,l1,l2,hql];simp)) fun _=>?_
  have hdp:∀ j:Nat,j≤fs.length→(rs.take j).flatMap (fun x=>x.2.dep)=depsM (newM cf) fs j:=fun j hj=>by
   unfold depsM
   rw [← ScS_pre (newM cf) fs j fs.length hj,← hrs,← List.map_take,List.flatMap_map]
  have h:=h.nil KS
  have h:Own w0 S R w (arr ⟨none,0,0⟩ KS (depsM (newM cf) fs (0:Int).toNat)^arr r14.1 KOu (rs.map Prod.fst)^rl oR rs):=Own.fin (A:=arr ⟨none,0,0⟩ KS []^arr r14.1 KOu (rs.map Prod.fst)^rl oR rs) h
  refine w_loop (fun y:Sl × Int=>arr y.1 KS (depsM (newM cf) fs y.2.toNat)^arr r14.1 KOu (rs.map Prod.fst)^rl oR rs) (fun y:Sl × Int=>0≤y.2∧y.2≤fs.length) (fun y:Sl × Int=>fs.length - y.2.toNat) h ⟨Int.le_refl 0,by show (0:Int)≤_;omega⟩ ?_
  rintro (⟨a,j⟩:Sl × Int) w ⟨j0,j1⟩ h
  dsimp only at j0 j1 h ⊢
  have hdj:=(run_srt hco (fun p hp=>(hD p (hmem p hp).1).1) (fun p hp=>(hmem p hp).2) j.toNat (by omega) (by omega)).2.1
  refine w_ite (fun c=>?_) fun c=>?_
  ·have c:j < ((r14.1.len:Nat):Int):=of_decide_eq_true c
   have hj:j.toNat < rs.length:=by omega
   obtain ⟨x,hx⟩:∃ x,rs[j.toNat]?=some x:=⟨_,at_some hj⟩
   have hxf:(rs.map Prod.fst)[j.toNat]?=some x.1:=by rw [List.getElem?_map,hx];rfl
   have ej:(j+1).toNat=j.toNat+1:=by omega
   have hA:=h.take (arr r14.1 KOu (rs.map Prod.fst))
   haveI:=rd_dep (List.mem_of_getElem? hx)
   have hdn:=(run_srt hco (fun p hp=>(hD p (hmem p hp).1).1) (fun p hp=>(hmem p hp).2) (j.toNat+1) (by omega) (by omega)).2.1
   have e:depsM (newM cf) fs j.toNat++x.2.dep=depsM (newM cf) fs (j.toNat+1):=by
    rw [← hdp (j.toNat+1) (by omega),← hdp j.toNat (by omega),take_s hx,List.flatMap_append]
    simp
   have e2:=congrArg List.length e
   rw [List.length_append] at e2
   rw [wi (n:=j+1) (by omega) (by omega)]
   refine w_idx (s:=r14.1) hA j0 (by rw [List.length_map];exact hj) (w_ldA hA r14.1 j.toNat 0 x.1 hxf rfl (by decide) (x:=x.1.1) rfl ?_)
   refine w_app (s:=a) (x:=x.1.1) h rfl (by omega) fun s20 w _ h=>?_
   rw [e,← ej] at h
   exact ⟨⟨⟨by show (0:Int)≤j+1;omega,by show j+1≤_;omega⟩,h.fin⟩,by show fs.length - (j+1).toNat < _;omega⟩
  ·have c:¬ j < ((r14.1.len:Nat):Int):=of_decide_eq_false c
   have ej:j.toNat=fs.length:=by omega
   rw [ej] at h hdj
   have hA:=run_A hco (fun p hp=>(hD p (hmem p hp).1).1) (fun p hp=>(hmem p hp).2) (by omega:fs.length≤1000)
   have hcap:=own_cap (s:=a) h
   have hN:=h.nrm a
   refine w_lend (TsB.sorted_tri a (depsM (newM cf) fs fs.length) 4611686018427387904 hA (by omega)) h inferInstance fun r21 w h=>?_
   obtain ⟨hr,h⟩:=h.purP
   have h:=h.drop
   refine w_ite (fun _=>?_) fun c=>by rw [hr] at c;cases c
   refine w_lend (once_tri a hN hcap (depsM (newM cf) fs fs.length) 4611686018427387904 hA (by omega)) h inferInstance fun r22 w h=>?_
   obtain ⟨hr,h⟩:=h.purP
   have h:=h.drop
   refine w_ite (fun _=>?_) fun c=>by rw [hr] at c;cases c
   refine w_lend (part_tri a hcap (depsM (newM cf) fs fs.length) (by omega)) h inferInstance fun r23 w h=>?_
   obtain ⟨hr,h⟩:=h.purP
   exact Own.retP hr h.emp'
end TsD

end Go.X
