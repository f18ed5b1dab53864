/- Contracts and plain facts: EgG EgH EgI EgJ EgK EgP EgQ EgT EgU EgV. -/
import Derived.Test.YtaimlgfepkopkaaGreatB0
import Derived.Test.YtaimlgfepkopkaaGreatB1
import Derived.Test.YtaimlgfepkopkaaGreatB2
import Derived.Test.YtaimlgfepkopkaaGreatB3
import Derived.Test.YtaimlgfepkopkaaGreatB4
import Derived.Test.YtaimlgfepkopkaaGreatB5
import Derived.Test.YtaimlgfepkopkaaGreatB6
import Derived.Test.YtaimlgfepkopkaaGreatB7
import Derived.Test.YtaimlgfepkopkaaGreatB8
import Derived.Test.YtaimlgfepkopkaaGreatK
import Derived.Test.YtaimlgfepkopkaaGreatF0
import Derived.Test.YtaimlgfepkopkaaGreatF1
import Derived.Test.YtaimlgfepkopkaaGreatF2
set_option linter.unusedVariables false
set_option linter.unusedSimpArgs false
set_option linter.unusedSectionVars false
namespace Go.X
open Go.Proofs
namespace EgG
open Arith ArithC FqM EgM
class NoS (A:SP):Prop where
 nos:∀ w S R,A.h w S R→∀ k,¬ S k
instance (s:Sl) (K:Ks) (xs:List (Ks.T K)):NoS (rarr s K xs):=⟨fun _ _ _ h=>h.2.1⟩
instance:NoS emp:=⟨fun _ _ _ h=>h.1⟩
instance (A B:SP) [a:NoS A] [b:NoS B]:NoS (A^B):=⟨fun _ _ _ ⟨_,_,_,_,h1,h2,hS,_⟩ k hk=>((hS k).1 hk).elim (a.nos _ _ _ h1 k) (b.nos _ _ _ h2 k)⟩
theorem noS_rl {α:Type} (f:α→SP) (h:∀ x,NoS (f x)):∀ l:List α,NoS (rl f l)
 | []=>by unfold rl;infer_instance
 | x :: l=>by have:=noS_rl f h l;have:=h x;unfold rl;infer_instance
instance {α:Type} (f:α→SP) (l:List α) [h:∀ x,NoS (f x)]:NoS (rl f l):=noS_rl f h l
instance (priority:=300) lend_take (A F G:SP) [t:Take A F G] [n:NoS A]:Lend A F:=⟨fun w S R h=>by
 obtain ⟨S1,R1,S2,R2,h1,h2,hS,hR,_⟩:=t.le w S R h
 have e:S1=fun _=>False:=funext fun k=>eq_false (n.nos _ _ _ h1 k)
 rw [e] at h1
 exact ⟨R1,h1,fun k hk=>.inr ((hR k).2 (.inl hk))⟩⟩
abbrev KR:Ks:=[.int .u64,.int .u64]
abbrev OpE:=Dd × List (Ks.T KR)
abbrev opsE (s:Sl) (ps:List OpE):SP:=rarr s KD (ps.map Prod.fst)^rl (fun p:OpE=>rarr (dR p.1) KR p.2) ps
def deedF (d:Dd):Dd:=(dK d,dS d,(if dL d > 200000 then 200000 else dL d),dU d,dA d,(if (dR d).len > 6 then (dR d).sub 0 6 (dR d).cap 2 else dR d),dC d)
def deedsF (most:Int) (ps:List OpE):List OpE:=(ps.take most.toNat).map fun p=>(deedF p.1,p.2.take 6)
structure OkE (p:OpE):Prop where
 l:-9223372036854775808≤dL p.1∧dL p.1 < 9223372036854775808
 u:U (dU p.1)
 a:U (dA p.1)
 c:0≤cH (dC p.1)∧U (cR (dC p.1))
 n:p.2.length≤9223372036854775807
 cp:(dR p.1).len≤(dR p.1).cap
theorem okE_of {p:OpE} (h:∀ k n,Lf.int k n∈Ks.mk KD p.1→(Lit.int k n).wf=true) (hm:p.2.length≤maxLen) (hc:(dR p.1).len≤(dR p.1).cap):OkE p where
 l:=Wf.i (h .i64 (dL p.1) (List.mem_of_getElem? (i:=2) rfl))
 u:=Wf.u (h .u64 (dU p.1) (List.mem_of_getElem? (i:=3) rfl))
 a:=Wf.u (h .u64 (dA p.1) (List.mem_of_getElem? (i:=4) rfl))
 c:=⟨(Wf.u (h .u64 (cH (dC p.1)) (List.mem_of_getElem? (i:=10) rfl))).1,Wf.u (h .u64 (cR (dC p.1)) (List.mem_of_getElem? (i:=11) rfl))⟩
 n:=hm
 cp:=hc
theorem rd_dR {ps:List OpE} {i:Nat} {o:OpE} (h:ps[i]?=some o):Rd (dR o.1) (rl (fun p:OpE=>rarr (dR p.1) KR p.2) ps) KR o.2:=rd_rl h (rd_rarr _ _ _)
theorem rd_deed (p:OpE) (F:SP) (hc:(dR p.1).len≤(dR p.1).cap) (hl:(dR p.1).len=p.2.length) [t:Rd (dR p.1) F KR p.2]:Rd (dR (deedF p.1)) F KR (p.2.take 6):=by
 show Rd (if (dR p.1).len > 6 then (dR p.1).sub 0 6 (dR p.1).cap 2 else dR p.1) F KR (p.2.take 6)
 by_cases h:(dR p.1).len > 6
 ·rw [if_pos h]
  exact rd_sub (dR p.1) F KR p.2 0 6 (dR p.1).cap (by omega) (by omega) (by omega)
 ·rw [if_neg h,List.take_of_length_le (by omega)];exact t
abbrev zD:List Lf:=[.int .i64 0,.int .i64 0,.int .i64 0,.int .u64 0,.int .u64 0,.sl ⟨none,0,0⟩,.int .i64 0,.int .i64 0,.int .i64 0,.int .i64 0,.int .u64 0,.int .u64 0,.bool false,.int .i64 0,.int .i64 0]
theorem deed_tri (d:Dd) (xs:List (Ks.T KR)) (hc:(dR d).len≤(dR d).cap):Tri Tryz.prog N_canterplay_Deed [.agg (Ks.mk KD d)] [.agg KD] (emp^rarr (dR d) KR xs) (fun r=>pur (r=deedF d) emp) :=
 tri_0 (call_canterplay_Deed d) fun w0 S R h=>by
  unfold W_canterplay_Deed
  have hs:=(h.drop.rd (s:=dR d)).2
  obtain ⟨R',hR'⟩:∃ R',R'=(if (dR d).len > 6 then (dR d).sub 0 6 (dR d).cap 2 else dR d):=⟨_,rfl⟩
  obtain ⟨L',hL'⟩:∃ L',L'=(if dL d > 200000 then 200000 else dL d):=⟨_,rfl⟩
  have e:deedF d=(dK d,dS d,L',dU d,dA d,R',dC d):=by rw [hL',hR'];rfl
  refine w_new h fun n1 w h=>w_new h fun n2 w h=>?_
  have h:Own w0 S R w (blk n1 (Ks.mk KD d)^blk n2 zD^rarr (dR d) KR xs^emp):=h.fin
  refine w_join h (fun _=>blk n1 (Ks.mk KD (dK d,dS d,dL d,dU d,dA d,R',dC d))^blk n2 zD^emp) (fun _=>True) (fun _ w _ h=>?_) ?_
  ·refine w_join h (fun _=>blk n1 (Ks.mk KD (dK d,dS d,L',dU d,dA d,R',dC d))^blk n2 zD^emp) (fun _=>True) (fun _ w _ h=>?_) ?_
   ·refine w_ldAll (b:=n1) (x:=((dK d,dS d,L',dU d,dA d,R',dC d):Dd)) h rfl (w_setAll h (by rfl) fun w h=>w_ldAll (b:=n2) (x:=((dK d,dS d,L',dU d,dA d,R',dC d):Dd)) h rfl ?_)
    exact Own.retP e.symm h.emp'
   ·refine w_ld (x:=dL d) h rfl (w_ite (fun c=>?_) fun c=>?_)
    ·have c:dL d > 200000:=of_decide_eq_true c
     rw [if_pos c] at hL'
     refine w_setTo h n1 (Ks.mk KD (dK d,dS d,L',dU d,dA d,R',dC d)) rfl rfl (by rw [hL'];rfl) fun w h=>?_
     exact ⟨trivial,h.fin⟩
    ·have c:¬ dL d > 200000:=of_decide_eq_false c
     rw [if_neg c] at hL'
     rw [hL']
     exact ⟨trivial,h⟩
  ·refine w_ld (x:=dR d) h rfl (w_ite (fun c=>?_) fun c=>?_)
   ·have c:(((dR d).len:Nat):Int) > 6:=of_decide_eq_true c
    have c2:(dR d).len > 6:=by omega
    rw [if_pos c2] at hR'
    have hN:Nrm (dR d):=Nrm.long (h.rd (s:=dR d)).1 (by omega)
    refine w_ld (x:=dR d) h rfl (w_slcR (K:=KR) (xs:=xs) (s:=dR d) h hN 0 6 (dR d).cap rfl rfl rfl rfl (by omega) (by omega) (by omega) (Nat.le_refl _) fun _ _=>?_)
    rw [← hR']
    refine w_setTo h n1 (Ks.mk KD (dK d,dS d,dL d,dU d,dA d,R',dC d)) rfl rfl rfl fun w h=>?_
    exact ⟨trivial,h.fin⟩
   ·have c:¬ (((dR d).len:Nat):Int) > 6:=of_decide_eq_false c
    have c2:¬ (dR d).len > 6:=by omega
    rw [if_neg c2] at hR'
    rw [hR']
    exact ⟨trivial,h.fin⟩
theorem deedsF_at {ps:List OpE} {most:Int} {i:Nat} {p:OpE} (h:ps[i]?=some p) (hi:i < most.toNat):(deedsF most ps)[i]?=some (deedF p.1,p.2.take 6):=by
 unfold deedsF
 rw [List.getElem?_map,List.getElem?_take,if_pos hi,h];rfl
theorem deeds_tri (s:Sl) (ps:List OpE) (most:Int) (hm:0≤most∧most≤1000) (hp:∀ p∈ps,OkE p):Tri Tryz.prog N_canterplay_Deeds [.lf (.sl s),.lf (.int .i64 most)] [.lf .sl] (emp^opsE s ps) (fun r=>arr r KD ((deedsF most ps).map Prod.fst)) :=
 tri_0 (call_canterplay_Deeds s most) fun w0 S R h=>by
  unfold W_canterplay_Deeds
  have h:Own w0 S R w0 (rarr s KD (ps.map Prod.fst)^rl (fun p:OpE=>rarr (dR p.1) KR p.2) ps^emp):=h.fin
  have hsl:=(h.rd (s:=s)).2
  rw [List.length_map] at hsl
  have h:=h.nil KD
  have h:Own w0 S R w0 (arr ⟨none,0,0⟩ KD ((deedsF 0 ps).map Prod.fst)^rarr s KD (ps.map Prod.fst)^rl (fun p:OpE=>rarr (dR p.1) KR p.2) ps^emp):=h
  refine w_loopE (fun (y:Sl × Int) (_:Unit)=>arr y.1 KD ((deedsF y.2 ps).map Prod.fst)^rarr s KD (ps.map Prod.fst)^rl (fun p:OpE=>rarr (dR p.1) KR p.2) ps^emp) (fun (y:Sl × Int) _=>0≤y.2∧y.2≤most) (fun (y:Sl × Int) _=>(most - y.2).toNat) () h ⟨by decide,hm.1⟩ ?_
  rintro K (y:Sl × Int) _ w ⟨h0,h1⟩ h next
  obtain ⟨r,i⟩:=y
  dsimp only at h0 h1 h ⊢
  refine w_ite (fun c=>?_) fun c=>?_
  ·have c:i < ps.length∧i < most:=by
    have c:(decide (i < ((s.len:Nat):Int)) && decide (i < most))=true:=c
    rw [Bool.and_eq_true,decide_eq_true_eq,decide_eq_true_eq] at c
    omega
   have hi:i.toNat < ps.length:=by omega
   have hwi:IntKind.i64.wrap (i+1)=i+1:=wi (by omega) (by omega)
   have hin:(i+1).toNat=i.toNat+1:=by omega
   obtain ⟨p,hpi⟩:∃ p,ps[i.toNat]?=some p:=⟨_,List.getElem?_eq_getElem hi⟩
   have hpm:(ps.map Prod.fst)[i.toNat]?=some p.1:=by rw [List.getElem?_map,hpi];rfl
   haveI:=rd_dR hpi
   have hO:=hp p (List.mem_of_getElem? hpi)
   refine w_idx (s:=s) h h0 (by rw [List.length_map];exact hi) (w_ldE h s i.toNat hpm rfl ?_)
   refine w_callL (A:=emp) (Q:=rarr (dR p.1) KR p.2) (deed_tri p.1 p.2 hO.cp) (h.le ((star_emp _).trans (star_comm _ _))) fun q w h=>?_
   obtain ⟨hq,h⟩:=h.purP;rw [hq]
   refine w_new h fun n6 w h=>?_
   have h:=h.blkArr n6 KD [deedF p.1] rfl (by simp)
   have h:Own w0 S R w (arr ⟨some ⟨n6,0⟩,1,1⟩ KD [deedF p.1]^_):=h
   have hlen:((deedsF i ps).map Prod.fst).length≤i.toNat:=by rw [List.length_map,deedsF,List.length_map,List.length_take];omega
   refine w_app (K:=KD) (s:=r) (xs:=(deedsF i ps).map Prod.fst) h rfl (by simp only [List.length_singleton];omega) fun s' w _ h=>?_
   have e:(deedsF i ps).map Prod.fst++[deedF p.1]=(deedsF (i+1) ps).map Prod.fst:=by
    unfold deedsF
    rw [hin,List.take_add_one,hpi,List.map_append,List.map_append];rfl
   rw [e] at h
   rw [hwi]
   exact next (s',i+1) () w ⟨by show 0≤i+1;omega,by show i+1≤most;omega⟩ h.fin (by show (most - (i+1)).toNat < (most - i).toNat;omega)
  ·have e:deedsF i ps=deedsF most ps:=by
    unfold deedsF
    have c:¬ (i < ps.length∧i < most):=fun hh=>by
     have c:(decide (i < ((s.len:Nat):Int)) && decide (i < most))=false:=c
     rw [decide_eq_true (by omega),decide_eq_true hh.2] at c;cases c
    by_cases h2:i < most
    ·rw [List.take_of_length_le (by omega:ps.length≤i.toNat),List.take_of_length_le (by omega:ps.length≤most.toNat)]
    ·rw [show i=most by omega]
   rw [e] at h
   exact h.fin
end EgG

namespace EgH
open Arith ArithC TreeF FqM FqC SockC EgM EgA EgB EgC EgD EgE EgF
open SockM (Sk emitS doneS writeS loseS newS skFl skTso mayS)
open SockO (IvS)
open SockV (IvB)
theorem pump_ok {k:Int} {v:Mc} (hv:OkMc k v) {i:Nat} (hi:i < 8) {x:Sk} (hx:IvB k x) (hid:x.id=(i:Int)) (o:Ou):OkMc k (pumpM v i x o).2:=by
 have h:=pumpN_ok hv.un (fresh x+1) ⟨x,v.q,v.l,o⟩ (⟨hx,hid,hv.q⟩:OkPm k i ⟨x,v.q,v.l,o⟩)
 have h2:=upS_ok hv hi (x:=(pumpF i v.now ⟨x,v.q,v.l,o⟩).v) h.v h.id
 exact { h2 with q:=h.q }
theorem shut_ok {k:Int} {v:Mc} (hv:OkMc k v) (i:Nat) (o:Ou):OkMc k (shutM v i o).2:=by
 have h:=upN_ok hv i
 exact { h with q:=hv.q.close _ }
theorem pull_ok {k:Int} {v:Mc} (hv:OkMc k v) (o:Ou):OkMc k (pullF v o).2:=by
 have h:=FqN.deq_ok hv.q hv.un (rates_U hv)
 unfold pullF
 split
 ·rename_i s q e;rw [e] at h;exact { hv with q:=h }
 ·rename_i q e;rw [e] at h;exact { hv with q:=h }
theorem set_ok {k:Int} {v:Mc} (hv:OkMc k v) {c:Cf} (hc:0≤cH c∧U (cR c)):OkMc k (setM v c).2:=by
 have h:=hv.q.set hc
 unfold setM
 split
 ·rename_i h0
  refine { hv with q:=h,c:=?_ }
  unfold setF at h0
  by_cases hm:may c=true
  ·exact may_ok hm hc.1 hc.2
  ·rw [if_neg hm] at h0;cases h0
 ·exact { hv with q:=h }
theorem one_ok {k:Int} {v:Mc} (hv:OkMc k v) (hk:k < 1000000) (d:Dd) (xs:List (Int × Int)) (o:Ou):OkMc (k+1) (oneM v d xs o).2.2:=by
 have h1:=OkMc_le hv (j:=k+1) (by omega) (by omega)
 have hc:=hv.c.cap
 unfold oneM
 split
 ·exact h1
 ·rename_i hi
  have hi:0≤dS d∧dS d < 8:=Classical.not_not.1 hi
  have hi8:(dS d).toNat < 8:=by omega
  split
  ·split
   ·have hn:=SockV.new_ivB (dS d) (cMss v.c) (cCap v.c) ⟨by omega,hc.2⟩
    exact upS_ok h1 hi8 (ivB_le hn h1.kr.1 (by omega)) (by show dS d=_;omega)
   ·exact h1
  ·rename_i x hx
   obtain ⟨hxi,hxd,_⟩:=hv.so _ x hx
   split
   ·exact h1
   ·split
    ·exact shut_ok h1 _ _
    ·obtain ⟨a,b⟩:=told_ok hxi hk hv.un d xs
     split
     ·exact pump_ok h1 hi8 a (b.trans hxd) o
     ·exact upS_ok h1 hi8 a (b.trans hxd)
theorem do_ok {k:Int} {v:Mc} (hv:OkMc k v) (hk:k < 1000000) {d:Dd} (hd:OkD d) (xs:List (Int × Int)):OkMc (k+1) (doF v d xs).2:=by
 have h1:=OkMc_le hv (j:=k+1) (by omega) (by omega)
 have e:(doF v d xs).2=(stepM v d xs).2.2:=by unfold doF;split<;>rfl
 rw [e]
 unfold stepM
 split
 ·have hn:=hv.now
  have ha:=hd.a
  unfold U at ha
  refine { h1 with now:=?_ }
  show 0≤(moveF v.now (dA d)).2∧(moveF v.now (dA d)).2≤4611686018427387904
  unfold moveF
  split
  ·exact hn
  ·split
   ·exact hn
   ·exact ⟨ha.1,by show dA d≤_;omega⟩
 ·split
  ·exact pull_ok h1 _
  ·split
   ·exact set_ok h1 hd.c
   ·split
    ·exact one_ok hv hk d xs ou0
    ·exact h1
theorem new_ok {c:Cf} (hc:OkC c):OkMc 0 (newM c) where
 c:=hc
 now:=by show (0:Int)≤0∧(0:Int)≤4611686018427387904;decide
 q:=OkQ.new hc
 so:=fun i x h=>by cases h
 kr:=by decide
theorem _root_.Go.X.Own.outR {w0 w:World} {S0 R0:Nat→Prop} {F G:SP} (h:Own w0 S0 R0 w F) (r:Ks.T KOu) {o:Ou} [tk:TakeK EgF.outR r F o G]:r.2.2.2=o.wd∧Own w0 S0 R0 w (arr r.1 KS o.dep^arr r.2.1 KS o.dr^arr r.2.2.1 KI o.ft^G):=by
 have h:Own w0 S0 R0 w (pur (r.2.2.2=o.wd) (arr r.1 KS o.dep^arr r.2.1 KS o.dr^arr r.2.2.1 KI o.ft)^G):=h.le tk.le
 obtain ⟨hr,h⟩:=h.purP
 exact ⟨hr,h.fin⟩
abbrev plainC:Cf:=(3000,15000,100,50,10000000000,0,false,100000,1000)
abbrev dOpen (s:Int):Dd:=(1,s,0,0,0,⟨none,0,0⟩,0,0,0,0,0,0,false,0,0)
abbrev dSend (s n:Int):Dd:=(2,s,n,0,0,⟨none,0,0⟩,0,0,0,0,0,0,false,0,0)
abbrev dPull:Dd:=(6,0,0,0,0,⟨none,0,0⟩,0,0,0,0,0,0,false,0,0)
theorem dOpen_ok (s:Int):OkD (dOpen s):=⟨(by decide:(0:Int) < 9223372036854775808),U_lit 0,U_lit 0,(by decide:(0:Int)≤0),U_lit 0⟩
theorem dSend_ok (s n:Int) (h:n < 9223372036854775808):OkD (dSend s n):=⟨h,U_lit 0,U_lit 0,(by decide:(0:Int)≤0),U_lit 0⟩
theorem dPull_ok:OkD dPull:=⟨(by decide:(0:Int) < 9223372036854775808),U_lit 0,U_lit 0,(by decide:(0:Int)≤0),U_lit 0⟩
end EgH

namespace EgI
open Arith ArithC TreeF FqM FqC SockC EgM EgA EgB EgC EgD EgE EgF EgG EgH
open SockM (Sk emitS doneS writeS loseS newS skFl skTso mayS)
theorem deedF_ok {p:OpE} (h:OkE p):OkD (deedF p.1) where
 l:=by
  show (if dL p.1 > 200000 then 200000 else dL p.1) < 9223372036854775808
  split<;>omega
 u:=h.u
 a:=h.a
 c:=h.c
theorem do_step (v:Mc) (d:Dd) (xs:List (Int × Int)):(doF v d xs).2=(stepM v d xs).2.2:=by unfold doF;split<;>rfl
theorem do_err (v:Mc) (d:Dd) (xs:List (Int × Int)):(doF v d xs).1.2=(stepM v d xs).1:=by
 unfold doF
 by_cases h:(stepM v d xs).1≠0
 ·rw [if_pos h]
 ·rw [if_neg h];exact (Classical.not_not.1 h).symm
theorem move_r (now a:Int):((moveF now a).1=0↔now≤a∧a≤4611686018427387904)∧((moveF now a).1=0→(moveF now a).2=a)∧((moveF now a).1≠0→(moveF now a).2=now):=by
 unfold moveF
 split
 ·exact ⟨⟨fun h=>(by cases h),fun h=>(by omega)⟩,fun h=>(by cases h),fun _=>rfl⟩
 ·split
  ·exact ⟨⟨fun h=>(by cases h),fun h=>(by omega)⟩,fun h=>(by cases h),fun _=>rfl⟩
  ·exact ⟨⟨fun _=>(by omega),fun _=>rfl⟩,fun _=>rfl,fun h=>absurd rfl h⟩
end EgI

namespace EgJ
open Arith ArithC TreeF FqM FqC SockC EgM EgA EgB EgC EgD EgE EgF EgG EgH EgI
open SockM (Sk emitS doneS writeS loseS newS skFl skTso mayS)
open SockO (IvS)
open SockV (IvB)
def sgO (x:Option Fl):List Sg:=match x with
 | none=>[]
 | some f=>f.sg
theorem cnt_sg (x:Option Fl):cnt x=((sgO x).length:Int):=by cases x<;>rfl
theorem coll_sg (v:Qm) (t:Int) (j:Nat):sgO ((collectF v t).fl j)=sgO (v.fl j):=by
 show sgO (if _ then _ else _)=_
 split
 ·rename_i e
  obtain ⟨f,hf,hs,_⟩:=FqM.idle_some e
  rw [hf]
  exact hs.symm
 ·rfl
theorem enq_sg (v:Qm) (s:Sg) (t:Int) (hk:0≤sK s∧sK s≤7) (hl:1≤sLn s∧sLn s≤65536):((enqF v s t).1=(0,0)∧∀ j,sgO ((enqF v s t).2.fl j)=sgO (v.fl j)++if j=(sK s).toNat then [drawn v s t] else []) ∨
  (((enqF v s t).1=(2,0)∨(enqF v s t).1=(3,0)∨(enqF v s t).1=(4,0))∧∀ j,sgO ((enqF v s t).2.fl j)=sgO (v.fl j)):=by
 unfold enqF
 rw [if_neg (fun h=>h hk),if_neg (fun h=>h hl)]
 split
 ·refine .inl ⟨rfl,fun j=>?_⟩
  dsimp only
  rw [FqM.add_eq]
  show sgO (upF (collectF v t).fl (sK s).toNat _ j)=_
  by_cases e:j=(sK s).toNat
  ·rw [e,upF_same,if_pos rfl]
   show ((woken (collectF v t) (sK s).toNat t).sg++[drawn v s t])=_
   rw [woken_sg,← coll_sg v t]
   cases (collectF v t).fl (sK s).toNat<;>rfl
  ·rw [upF_ne _ _ e,if_neg e,coll_sg,List.append_nil]
 ·rename_i hf
  refine .inr ⟨?_,coll_sg v t⟩
  rcases FqT.fate_ne hf with h | h | h
  ·left;show (_,(0:Int))=_;rw [h]
  ·right;left;show (_,(0:Int))=_;rw [h]
  ·right;right;show (_,(0:Int))=_;rw [h]
theorem same_sg {u v:Qm} (h:FqQ.Same u v) (j:Nat):sgO (v.fl j)=sgO (u.fl j):=by
 have:=h j
 cases hu:u.fl j with
 | none =>
  rw [hu] at this
  cases hv:v.fl j with
  | none=>rfl
  | some g=>rw [hv] at this;cases this
 | some f =>
  obtain ⟨g,hg,_,hs,_⟩:=h.to hu
  rw [hg]
  exact hs
theorem deq_sg {v:Qm} (hv:OkQ v) {t:Int} (ut:U t) {rates:List Int} (hr:∀ x∈rates,U x) :
  ((deqF v t rates).1=none∧∀ j,sgO ((deqF v t rates).2.fl j)=sgO (v.fl j))∨∃ (i:Nat) (s:Sg),(deqF v t rates).1=some s∧(sK s=(i:Int)∧i < 8)∧∀ j,sgO (v.fl j)=(if j=i then [s] else [])++sgO ((deqF v t rates).2.fl j):=by
 obtain ⟨u,hu,hc⟩:=FqQ.ran hv ut hr
 rcases hc with ⟨_,he⟩ | ⟨i,f,s,l,hA,hcr,hs,htf,he⟩
 ·left
  rw [he]
  exact ⟨rfl,same_sg hu.same⟩
 ·right
  have hF:=(hu.ok.fl i f hA.fl).2
  obtain ⟨hsk,hso⟩:=hF.sg s (by rw [hs];simp)
  rw [he]
  refine ⟨i,s,rfl,⟨hsk,hA.lt⟩,fun j=>?_⟩
  rw [← same_sg hu.same j]
  show _=_++sgO (upF u.fl i _ j)
  by_cases e:j=i
  ·rw [e,upF_same,if_pos rfl,hA.fl]
   show f.sg=_
   rw [hs];rfl
  ·rw [upF_ne _ _ e,if_neg e]
   rfl
theorem close_sg (v:Qm) (i:Nat) (hi:i < 8):(closeF v (i:Int)).1=sgO (v.fl i)∧∀ j,sgO ((closeF v (i:Int)).2.fl j)=if j=i then [] else sgO (v.fl j):=by
 cases hf:v.fl i with
 | none =>
  have e:closeF v (i:Int)=([],v):=by unfold closeF;rw [if_neg (by omega),Int.toNat_natCast,hf]
  rw [e]
  refine ⟨rfl,fun j=>?_⟩
  by_cases ej:j=i
  ·rw [if_pos ej,ej];show sgO (v.fl i)=_;rw [hf];rfl
  ·rw [if_neg ej]
 | some f =>
  have e:(closeF v (i:Int)).1=f.sg∧(closeF v (i:Int)).2.fl=upF v.fl i none:=by unfold closeF;rw [if_neg (by omega),Int.toNat_natCast,hf];exact ⟨rfl,rfl⟩
  rw [e.1,e.2]
  refine ⟨rfl,fun j=>?_⟩
  by_cases ej:j=i
  ·rw [ej,upF_same,if_pos rfl];rfl
  ·rw [upF_ne _ _ ej,if_neg ej]
theorem sg_id {v:Qm} (hv:OkQ v) {i:Nat} {s:Sg} (h:s∈sgO (v.fl i)):sK s=(i:Int):=by
 cases hf:v.fl i with
 | none=>rw [hf] at h;cases h
 | some f=>rw [hf] at h;exact ((hv.fl i f hf).2.sg s h).1
abbrev b0 (c:Ct):Int:=c.2.1
abbrev b1 (c:Ct):Int:=c.2.2.1
abbrev b2 (c:Ct):Int:=c.2.2.2.1
abbrev b3 (c:Ct):Int:=c.2.2.2.2.1
abbrev b4 (c:Ct):Int:=c.2.2.2.2.2.1
abbrev b5 (c:Ct):Int:=c.2.2.2.2.2.2.1
structure Bk (B:Int) (c:Ct) (n:Int):Prop where
 z:c.1=0
 p1:0≤b1 c
 p2:0≤b2 c
 p3:0≤b3 c
 p4:0≤b4 c
 p5:0≤b5 c
 q:cWt c=n
 nn:0≤n
 s:b0 c=b1 c+b2 c+b3 c+b4 c+b5 c+n
 b:b0 c≤B
theorem Bk.le {B D:Int} {c:Ct} {n:Int} (h:Bk B c n) (hb:B≤D):Bk D c n:={ h with b:=Int.le_trans h.b hb }
theorem inc_eq {n:Int} (h:0≤n∧n < 4611686018427387904):inc n=n+1:=wi (by omega) (by omega)
theorem dec_eq {n:Int} (h:0≤n∧n < 4611686018427387904):dec n=n - 1:=wi (by omega) (by omega)
theorem bk_in {B:Int} {c:Ct} {n:Int} (h:Bk B c n) (hB:B < 1152921504606846976):Bk (B+1) (note1 c 0).2 (n+1)∧b5 (note1 c 0).2=b5 c∧b1 (note1 c 0).2=b1 c∧b0 (note1 c 0).2=b0 c+1:=by
 obtain ⟨z,p1,p2,p3,p4,p5,q,hn,s,b⟩:=h
 have e:note1 c 0=(0,(c.1,inc (b0 c),b1 c,b2 c,b3 c,b4 c,b5 c,inc (cWt c))):=rfl
 rw [e,inc_eq (n:=b0 c) (by omega),inc_eq (n:=cWt c) (by omega)]
 exact ⟨⟨z,p1,p2,p3,p4,p5,by show cWt c+1=n+1;omega,by omega,by show b0 c+1=_;show b0 c+1=b1 c+b2 c+b3 c+b4 c+b5 c+(n+1);omega,by show b0 c+1≤B+1;omega⟩,rfl,rfl,rfl⟩
theorem bk_out {B:Int} {c:Ct} {n:Int} (h:Bk B c n) (hB:B < 1152921504606846976) (hn:1≤n) {f:Int} (hf:1≤f∧f≤5):Bk B (note1 c f).2 (n - 1)∧(f=5→b5 (note1 c f).2=b5 c+1)∧(f≠5→b5 (note1 c f).2=b5 c)∧(f=1→b1 (note1 c f).2=b1 c+1)∧(f≠1→b1 (note1 c f).2=b1 c)∧b0 (note1 c f).2=b0 c:=by
 obtain ⟨z,p1,p2,p3,p4,p5,q,hn0,s,b⟩:=h
 have e:note1 c f=(0,bump (wait c (dec (cWt c))) f):=by
  unfold note1
  rw [if_neg (by omega),if_neg (by omega),if_neg (by omega)]
 have d:=dec_eq (n:=cWt c) (by omega)
 have i1:=inc_eq (n:=b1 c) (by omega)
 have i2:=inc_eq (n:=b2 c) (by omega)
 have i3:=inc_eq (n:=b3 c) (by omega)
 have i4:=inc_eq (n:=b4 c) (by omega)
 have i5:=inc_eq (n:=b5 c) (by omega)
 rw [e,d]
 have:f=1∨f=2∨f=3∨f=4∨f=5:=by omega
 rcases this with rfl | rfl | rfl | rfl | rfl
 ·have e2:bump (wait c (cWt c - 1)) 1=(c.1,b0 c,inc (b1 c),b2 c,b3 c,b4 c,b5 c,cWt c - 1):=rfl
  rw [e2,i1]
  exact ⟨⟨z,(by show 0≤b1 c+1;omega),p2,p3,p4,p5,(by show cWt c - 1=n - 1;omega),by omega,(by show b0 c=b1 c+1+b2 c+b3 c+b4 c+b5 c+(n - 1);omega),b⟩,fun x=>(by cases x),fun _=>rfl,fun _=>rfl,fun x=>absurd rfl x,rfl⟩
 ·have e2:bump (wait c (cWt c - 1)) 2=(c.1,b0 c,b1 c,inc (b2 c),b3 c,b4 c,b5 c,cWt c - 1):=rfl
  rw [e2,i2]
  exact ⟨⟨z,p1,(by show 0≤b2 c+1;omega),p3,p4,p5,(by show cWt c - 1=n - 1;omega),by omega,(by show b0 c=b1 c+(b2 c+1)+b3 c+b4 c+b5 c+(n - 1);omega),b⟩,fun x=>(by cases x),fun _=>rfl,fun x=>(by cases x),fun _=>rfl,rfl⟩
 ·have e2:bump (wait c (cWt c - 1)) 3=(c.1,b0 c,b1 c,b2 c,inc (b3 c),b4 c,b5 c,cWt c - 1):=rfl
  rw [e2,i3]
  exact ⟨⟨z,p1,p2,(by show 0≤b3 c+1;omega),p4,p5,(by show cWt c - 1=n - 1;omega),by omega,(by show b0 c=b1 c+b2 c+(b3 c+1)+b4 c+b5 c+(n - 1);omega),b⟩,fun x=>(by cases x),fun _=>rfl,fun x=>(by cases x),fun _=>rfl,rfl⟩
 ·have e2:bump (wait c (cWt c - 1)) 4=(c.1,b0 c,b1 c,b2 c,b3 c,inc (b4 c),b5 c,cWt c - 1):=rfl
  rw [e2,i4]
  exact ⟨⟨z,p1,p2,p3,(by show 0≤b4 c+1;omega),p5,(by show cWt c - 1=n - 1;omega),by omega,(by show b0 c=b1 c+b2 c+b3 c+(b4 c+1)+b5 c+(n - 1);omega),b⟩,fun x=>(by cases x),fun _=>rfl,fun x=>(by cases x),fun _=>rfl,rfl⟩
 ·have e2:bump (wait c (cWt c - 1)) 5=(c.1,b0 c,b1 c,b2 c,b3 c,b4 c,inc (b5 c),cWt c - 1):=rfl
  rw [e2,i5]
  exact ⟨⟨z,p1,p2,p3,p4,(by show 0≤b5 c+1;omega),(by show cWt c - 1=n - 1;omega),by omega,(by show b0 c=b1 c+b2 c+b3 c+b4 c+(b5 c+1)+(n - 1);omega),b⟩,fun _=>rfl,fun x=>absurd rfl x,fun x=>(by cases x),fun _=>rfl,rfl⟩
theorem noteL_eq (l:Nat→Ct) {i:Nat} (hi:i < 8) (f:Int):(noteL l (i:Int) f).2=EgM.upL l i (note1 (l i) f).2:=by
 unfold noteL
 rw [if_neg (by omega),Int.toNat_natCast]
def BkL (B:Int) (l:Nat→Ct) (fl:Nat→Option Fl):Prop:=∀ i,i < 8→Bk B (l i) (cnt (fl i))
theorem BkL.le {B D:Int} {l:Nat→Ct} {fl:Nat→Option Fl} (h:BkL B l fl) (hb:B≤D):BkL D l fl:=fun i hi=>(h i hi).le hb
theorem BkL.same {B:Int} {l:Nat→Ct} {fl gl:Nat→Option Fl} (h:BkL B l fl) (hs:∀ j,sgO (gl j)=sgO (fl j)):BkL B l gl:=fun i hi=>by rw [cnt_sg,hs,← cnt_sg];exact h i hi
theorem pull_bk {k B:Int} {v:Mc} (hv:OkMc k v) (hb:BkL B v.l v.q.fl) (hB:B < 1152921504606846976) (o:Ou):BkL B (pullF v o).2.l (pullF v o).2.q.fl:=by
 unfold pullF
 rcases deq_sg hv.q hv.un (rates_U hv) with ⟨h1,h2⟩ | ⟨i,s,h1,⟨h3,h4⟩,h2⟩
 ·cases hd:deqF v.q v.now (ratesF v.so) with
  | mk x q =>
  rw [hd] at h1 h2
  dsimp only at h1
  subst h1
  exact hb.same h2
 ·cases hd:deqF v.q v.now (ratesF v.so) with
  | mk x q =>
  rw [hd] at h1 h2
  dsimp only at h1
  subst h1
  show BkL B (noteL v.l (sK s) 1).2 q.fl
  rw [h3,noteL_eq v.l h4]
  intro j hj
  have hj2:=h2 j
  have hbj:=hb j hj
  by_cases e:j=i
  ·rw [e] at hj2 hbj ⊢
   rw [EgM.upL_same]
   rw [if_pos rfl] at hj2
   have hc:cnt (v.q.fl i)=cnt (q.fl i)+1:=by rw [cnt_sg,cnt_sg,hj2];simp
   have:=(bk_out hbj hB (by rw [hc];have:=cnt_nn (q.fl i);omega) (f:=1) (by omega)).1
   rw [hc] at this
   rw [show cnt (q.fl i)=cnt (q.fl i)+1 - 1 by omega];exact this
  ·rw [EgM.upL_ne _ _ e]
   rw [if_neg e,List.nil_append] at hj2
   rw [cnt_sg,← hj2,← cnt_sg];exact hbj
theorem enter_bk {k B now : Int} {i : Nat} (hi : i < 8) {s : Pm} (h : OkPm k i s) (hn : U now) (he : (emitS s.v now).1.2 = 0) (hb : BkL B s.l s.q.fl) (hB : B < 1152921504606846975) : BkL (B + 1) (enter i now s).1.l (enter i now s).1.q.fl := by
  have hw := went_of h.v hn he
  have hg1 : sK (emitS s.v now).1.1 = (i : Int) := hw.id.trans h.id
  have hg2 : 1 ≤ sLn (emitS s.v now).1.1 ∧ sLn (emitS s.v now).1.1 ≤ 65536 := hw.n
  obtain ⟨g, hg⟩ : ∃ g, g = (emitS s.v now).1.1 := ⟨_, rfl⟩
  have hin := bk_in (hb i hi) (by omega)
  rw [← hg] at hg1 hg2
  have een : enter i now s = if (enqF s.q g now).1.1 = 0 then (⟨(emitS s.v now).2, (enqF s.q g now).2, (noteL s.l i 0).2, s.o⟩, 0)
        else (⟨(doneS (emitS s.v now).2 g.2.2.1).2, (enqF s.q g now).2, (dropF (noteL s.l i 0).2 s.o g (enqF s.q g now).1.1).2, (dropF (noteL s.l i 0).2 s.o g (enqF s.q g now).1.1).1⟩, 1) := by
    rw [hg]; rfl
  have hgn : (sK g).toNat = i := by omega
  rcases enq_sg s.q g now (by omega) hg2 with ⟨h1, h2⟩ | ⟨h1, h2⟩
  · rw [if_pos (by rw [h1])] at een
    rw [een]
    show BkL (B + 1) (noteL s.l i 0).2 (enqF s.q g now).2.fl
    rw [noteL_eq s.l hi]
    intro j hj
    by_cases e : j = i
    · rw [e, EgM.upL_same, cnt_sg, h2, hgn, if_pos rfl, List.length_append, List.length_singleton]
      have := hin.1
      rw [cnt_sg] at this
      exact_mod_cast this
    · rw [EgM.upL_ne _ _ e, cnt_sg, h2, hgn, if_neg e, List.append_nil, ← cnt_sg]
      exact (hb j hj).le (by omega)
  · have hne : ¬ (enqF s.q g now).1.1 = 0 := by rcases h1 with h | h | h <;> rw [h] <;> (show ¬ (_ : Int) = 0; decide)
    have hfr : 1 ≤ (enqF s.q g now).1.1 ∧ (enqF s.q g now).1.1 ≤ 5 := by
      rcases h1 with h | h | h <;> rw [h]
      · show (1:Int) ≤ 2 ∧ (2:Int) ≤ 5; decide
      · show (1:Int) ≤ 3 ∧ (3:Int) ≤ 5; decide
      · show (1:Int) ≤ 4 ∧ (4:Int) ≤ 5; decide
    rw [if_neg hne] at een
    rw [een]
    show BkL (B + 1) (noteL (noteL s.l i 0).2 (sK g) (enqF s.q g now).1.1).2 (enqF s.q g now).2.fl
    rw [hg1, noteL_eq s.l hi, noteL_eq _ hi]
    intro j hj
    rw [cnt_sg, h2, ← cnt_sg]
    by_cases e : j = i
    · rw [e, EgM.upL_same, EgM.upL_same]
      have := (bk_out hin.1 (by omega) (by have := (hb i hi).nn; omega) hfr).1
      rw [show cnt (s.q.fl i) + 1 - 1 = cnt (s.q.fl i) by omega] at this
      exact this
    · rw [EgM.upL_ne _ _ e, EgM.upL_ne _ _ e]
      exact (hb j hj).le (by omega)
theorem pumpN_bk {k now:Int} {i:Nat} (hi:i < 8) (hn:U now):∀ (n:Nat) (s:Pm) (B:Int),OkPm k i s→BkL B s.l s.q.fl→B+n < 1152921504606846975→BkL (B+n) (pumpN i now n s).l (pumpN i now n s).q.fl
 | 0,s,B,_,hb,_=>by show BkL (B+(0:Nat)) s.l s.q.fl;rw [show B+((0:Nat):Int)=B by omega];exact hb
 | n+1,s,B,h,hb,hB=>by
  unfold pumpN
  by_cases he:(emitS s.v now).1.2=0
  ·rw [if_neg (fun c=>c he)]
   have h1:=(enter_ok h hn he).1
   have h2:=enter_bk hi h hn he hb (by omega)
   split
   ·have:=pumpN_bk hi hn n _ (B+1) h1 h2 (by omega)
    rw [show B+1+(n:Int)=B+((n+1:Nat):Int) by omega] at this
    exact this
   ·exact h2.le (by omega)
  ·rw [if_pos he]
   exact hb.le (by omega)
theorem fresh_r {k:Int} {x:Sk} (h:IvS k x):(fresh x:Int)≤1073745920:=by
 have h1:=h.ok.bf.ll
 have h2:=h.ok.bf.l
 have h3:=h.ok.bf.un
 have h4:=h.ok.bf.nw
 have h5:=h.ok.bl
 have h6:=List.countP_le_length (p:=fun p=>Board.pLo p) (l:=x.bd.1)
 have e:fresh x=(SockA.bW x.bf - SockA.bN x.bf).toNat+x.bd.1.countP (fun p=>Board.pLo p):=rfl
 rw [e];omega
theorem drops_bk {B:Int} {i:Nat} (hi:i < 8) (hB:B < 1152921504606846976):∀ (ss:List Sg) (l:Nat→Ct) (o:Ou),(∀ s∈ss,sK s=(i:Int))→Bk B (l i) (ss.length:Int)→Bk B ((dropsF l o ss).2 i) 0∧b5 ((dropsF l o ss).2 i)=b5 (l i)+(ss.length:Int)∧b1 ((dropsF l o ss).2 i)=b1 (l i)∧b0 ((dropsF l o ss).2 i)=b0 (l i)∧∀ j,j≠i→(dropsF l o ss).2 j=l j
 | [],l,o,_,hb=>⟨hb,by show b5 (l i)=b5 (l i)+((0:Nat):Int);omega,rfl,rfl,fun _ _=>rfl⟩
 | s :: ss,l,o,hs,hb=>by
  have hk:=hs s (List.mem_cons_self ..)
  have e:(dropF l o s 5).2=EgM.upL l i (note1 (l i) 5).2:=by show (noteL l (sK s) 5).2=_;rw [hk,noteL_eq l hi]
  rw [List.length_cons] at hb ⊢
  obtain ⟨c1,c2,_,_,c5,c6⟩:=bk_out hb hB (by omega) (f:=5) (by omega)
  obtain ⟨d1,d2,d3,d4,d5⟩:=drops_bk hi hB ss (dropF l o s 5).2 (dropF l o s 5).1 (fun x hx=>hs x (List.mem_cons_of_mem _ hx)) (by rw [e,EgM.upL_same];rw [show (ss.length:Int)=((ss.length+1:Nat):Int) - 1 by omega];exact c1)
  have x5:b5 ((dropF l o s 5).2 i)=b5 (l i)+1:=by rw [e,EgM.upL_same];exact c2 rfl
  have x1:b1 ((dropF l o s 5).2 i)=b1 (l i):=by rw [e,EgM.upL_same];exact c5 (by decide)
  have x0:b0 ((dropF l o s 5).2 i)=b0 (l i):=by rw [e,EgM.upL_same];exact c6
  exact ⟨d1,by show b5 ((dropsF (dropF l o s 5).2 (dropF l o s 5).1 ss).2 i)=_;omega,d3.trans x1,d4.trans x0,fun j hj=>by
   show (dropsF (dropF l o s 5).2 (dropF l o s 5).1 ss).2 j=l j
   rw [d5 j hj,e,EgM.upL_ne _ _ hj]⟩
theorem shut_bk {k B:Int} {v:Mc} (hv:OkMc k v) (hb:BkL B v.l v.q.fl) (hB:B < 1152921504606846976) {i:Nat} (hi:i < 8) (o:Ou):BkL B (shutM v i o).2.l (shutM v i o).2.q.fl∧b5 ((shutM v i o).2.l i)=b5 (v.l i)+((closeF v.q (i:Int)).1.length:Int):=by
 obtain ⟨c1,c2⟩:=close_sg v.q i hi
 have hids:∀ s∈(closeF v.q (i:Int)).1,sK s=(i:Int):=fun s hs=>by rw [c1] at hs;exact sg_id hv.q hs
 have hbi:=hb i hi
 rw [cnt_sg,← c1] at hbi
 obtain ⟨d1,d2,_,_,d5⟩:=drops_bk hi hB (closeF v.q (i:Int)).1 v.l o hids hbi
 refine ⟨fun j hj=>?_,d2⟩
 show Bk B ((dropsF v.l o (closeF v.q (i:Int)).1).2 j) (cnt ((closeF v.q (i:Int)).2.fl j))
 rw [cnt_sg,c2 j]
 by_cases e:j=i
 ·rw [if_pos e,e];exact d1
 ·rw [if_neg e,d5 j e,← cnt_sg];exact hb j hj
theorem set_bk {B:Int} {v:Mc} (hb:BkL B v.l v.q.fl) (c:Cf):BkL B (setM v c).2.l (setM v c).2.q.fl:=by
 have e:(setF v.q c).2.fl=v.q.fl:=by unfold setF;split<;>rfl
 unfold setM
 split
 ·show BkL B v.l (setF v.q c).2.fl;rw [e];exact hb
 ·show BkL B v.l (setF v.q c).2.fl;rw [e];exact hb
theorem one_bk {k B:Int} {v:Mc} (hv:OkMc k v) (hk:k < 1000000) (hb:BkL B v.l v.q.fl) (hB:B < 1152921500000000000) (d:Dd) (xs:List (Int × Int)) (o:Ou):BkL (B+2147483648) (oneM v d xs o).2.2.l (oneM v d xs o).2.2.q.fl:=by
 have h0:BkL (B+2147483648) v.l v.q.fl:=hb.le (by omega)
 unfold oneM
 split
 ·exact h0
 ·rename_i hi
  have hi:0≤dS d∧dS d < 8:=Classical.not_not.1 hi
  have hi8:(dS d).toNat < 8:=by omega
  split
  ·split
   ·exact h0
   ·exact h0
  ·rename_i x hx
   obtain ⟨hxi,hxd,_⟩:=hv.so _ x hx
   split
   ·exact h0
   ·split
    ·exact (shut_bk hv hb (by omega) hi8 o).1.le (by omega)
    ·obtain ⟨a,b⟩:=told_ok hxi hk hv.un d xs
     split
     ·have hs:OkPm (k+1) ((dS d).toNat:Int) ⟨(toldF x v.now d xs).2,v.q,v.l,o⟩:=⟨a,b.trans hxd,hv.q⟩
      have hfr:=fresh_r a.i
      have:=pumpN_bk hi8 hv.un (fresh (toldF x v.now d xs).2+1) ⟨(toldF x v.now d xs).2,v.q,v.l,o⟩ B hs hb (by omega)
      exact this.le (by omega)
     ·exact h0
theorem do_bk {k B:Int} {v:Mc} (hv:OkMc k v) (hk:k < 1000000) (hb:BkL B v.l v.q.fl) (hB:B < 1152921500000000000) (d:Dd) (xs:List (Int × Int)):BkL (B+2147483648) (doF v d xs).2.l (doF v d xs).2.q.fl:=by
 have h0:BkL (B+2147483648) v.l v.q.fl:=hb.le (by omega)
 rw [do_step]
 unfold stepM
 split
 ·exact h0
 ·split
  ·exact (pull_bk hv hb (by omega) ou0).le (by omega)
  ·split
   ·exact set_bk h0 _
   ·split
    ·exact one_bk hv hk hb hB d xs ou0
    ·exact h0
theorem new_bk (c:Cf):BkL 0 (newM c).l (newM c).q.fl:=fun i _=>⟨rfl,Int.le_refl 0,Int.le_refl 0,Int.le_refl 0,Int.le_refl 0,Int.le_refl 0,rfl,Int.le_refl 0,rfl,Int.le_refl 0⟩
end EgJ

namespace EgK
open Arith ArithC TreeF FqM FqC SockC EgM EgA EgB EgC EgD EgE EgF EgG EgH EgI EgJ
open SockM (Sk emitS doneS writeS loseS newS skFl skTso mayS)
section
variable {w0 w : World} {S R : Nat → Prop}
end
abbrev c8 (c:Ct):List Int:=[c.1,b0 c,b1 c,b2 c,b3 c,b4 c,b5 c,cWt c]
end EgK

namespace EgP
open Arith ArithC TreeF FqM FqC SockC EgM EgA EgB EgC EgD EgE EgF EgG EgH EgI EgJ EgK
open SockM (Sk emitS doneS writeS loseS newS skFl skTso mayS)
section
variable {w0 w : World} {S R : Nat → Prop}
theorem w_deedG {b:Nat} {v:Mc} {r4 s:Sl} {ps:List OpE} {ds:List Dd} {k:Int} {F G:SP} [NoR G] (h:Own w0 S R w F) [tk:Take (mach b v^arr r4 KD ds^opsE s ps) F G] (hv:OkMc k v) (hk:k < 1000000) (hp:∀ p∈ps,OkE p) {i:Nat} {p:OpE} (hpi:ps[i]?=some p)
  {A:Rs.T [.agg KOu,.lf (.int .i64)]→WP} (hA:∀ (r:Rs.T [.agg KOu,.lf (.int .i64)]) (w:World),r.2=(doF v (deedF p.1) (p.2.take 6)).1.2→Own w0 S R w (mach b (doF v (deedF p.1) (p.2.take 6)).2^outR r.1 (doF v (deedF p.1) (p.2.take 6)).1.1^G^arr r4 KD ds^opsE s ps)→A r w) :
  call Tryz.prog N_egress_Machine_Do [.lf (.ptr (some ⟨b,0⟩)),.agg (Ks.mk KD (deedF p.1))] [.agg KOu,.lf (.int .i64)] A w:=by
 have h:Own w0 S R w ((mach b v^arr r4 KD ds^opsE s ps)^G):=h.le tk.le
 have h:Own w0 S R w (mach b v^G^arr r4 KD ds^opsE s ps):=h.fin
 have hO:=hp p (List.mem_of_getElem? hpi)
 haveI:=rd_dR hpi
 have hdl:=(h.rd (s:=dR p.1)).2
 haveI:=rd_deed p (rl (fun p:OpE=>rarr (dR p.1) KR p.2) ps) hO.cp hdl
 obtain ⟨d,hd⟩:∃ d,d=deedF p.1:=⟨_,rfl⟩
 have hD:=deedF_ok hO
 rw [← hd] at hD this hA ⊢
 have hx6:(p.2.take 6).length≤4294967296:=by rw [List.length_take];omega
 refine w_callL (A:=mach b v) (Q:=rarr (dR d) KR (p.2.take 6)) (do_tri b k v hv hk d hD (p.2.take 6) hx6) h fun r w h=>?_
 obtain ⟨hre,h⟩:=h.purP
 exact hA r w hre (h.le (star_assoc _ _ _))
end
theorem told_same {x:Sk} {now:Int} {d:Dd} {xs:List (Int × Int)} (h:(toldF x now d xs).1≠0):(toldF x now d xs).2=x:=by
 unfold toldF at h ⊢
 split
 ·rename_i e
  rw [if_pos e] at h
  unfold writeS SockA.wrF at h ⊢
  split
  ·cases x;rfl
  ·split
   ·cases x;rfl
   ·rename_i h1 h2
    rw [if_neg h1,if_neg h2] at h
    exact absurd rfl h
 ·rename_i e
  rw [if_neg e] at h
  split
  ·rename_i e3
   rw [if_pos e3] at h
   unfold SockL.ackS at h ⊢
   split
   ·rename_i h1;rw [if_pos h1] at h;exact absurd rfl h
   ·rfl
  ·rename_i e3
   rw [if_neg e3] at h
   split
   ·rename_i e4;rw [if_pos e4] at h;exact absurd rfl h
   ·rename_i e4
    rw [if_neg e4] at h
    unfold doneS at h ⊢
    split
    ·rfl
    ·rename_i h1;rw [if_neg h1] at h;exact absurd rfl h
theorem upL_have {α:Type} {l:Nat→α} {i:Nat} {x:α} (h:l i=x):EgM.upL l i x=l:=by rw [← h];exact EgM.upL_id l i
theorem refused {v:Mc} {d:Dd} {xs:List (Int × Int)} (h:(doF v d xs).1.2≠0):(doF v d xs).2=v∧(doF v d xs).1.1=ou0:=by
 have h2:(stepM v d xs).1≠0:=by rw [← do_err];exact h
 refine ⟨?_,by unfold doF;rw [if_pos h2]⟩
 rw [do_step]
 unfold stepM at h2 ⊢
 split
 ·rename_i e
  rw [if_pos e] at h2
  have:=(move_r v.now (dA d)).2.2 h2
  show ({ v with now:=(moveF v.now (dA d)).2 }:Mc)=v
  rw [this]
 ·rename_i e
  rw [if_neg e] at h2
  split
  ·rename_i e6;rw [if_pos e6] at h2;exact absurd rfl h2
  ·rename_i e6
   rw [if_neg e6] at h2
   split
   ·rename_i e8
    rw [if_pos e8] at h2
    have h2:(setM v (dC d)).1≠0:=h2
    show (setM v (dC d)).2=v
    unfold setM setF at h2 ⊢
    by_cases hm:may (dC d)=true
    ·exfalso;apply h2;simp [hm]
    ·simp [hm]
   ·rename_i e8
    rw [if_neg e8] at h2
    split
    ·rename_i e1
     rw [if_pos e1] at h2
     unfold oneM at h2 ⊢
     split
     ·rfl
     ·rename_i hs
      rw [if_neg hs] at h2
      split
      ·rename_i hn
       rw [hn] at h2
       dsimp only at h2
       split
       ·rename_i e1;rw [if_pos e1] at h2;exact absurd rfl h2
       ·rfl
      ·rename_i x hx
       rw [hx] at h2
       dsimp only at h2
       split
       ·rfl
       ·rename_i e1
        rw [if_neg e1] at h2
        split
        ·rename_i e9;rw [if_pos e9] at h2;exact absurd rfl h2
        ·rename_i e9
         rw [if_neg e9] at h2
         split
         ·rename_i e0;rw [if_pos e0] at h2;exact absurd rfl h2
         ·rename_i e0
          show ({ v with so:=EgM.upL v.so (dS d).toNat (some (toldF x v.now d xs).2) }:Mc)=v
          rw [told_same e0,upL_have hx]
    ·rfl
def fill {α:Type} (f:Nat→α) (z:α) (y:Nat):List α:=[if 0 < y then f 0 else z,if 1 < y then f 1 else z,if 2 < y then f 2 else z,if 3 < y then f 3 else z,if 4 < y then f 4 else z,if 5 < y then f 5 else z,if 6 < y then f 6 else z,if 7 < y then f 7 else z]
abbrev fC (v:Mc) (j:Nat):Ks.T KCt:=countL v.l (j:Int)
end EgP

namespace EgQ
open Arith ArithC TreeF FqM FqC SockC EgM EgA EgB EgC EgD EgE EgF EgG EgH EgI EgJ EgK
open SockM (Sk emitS doneS writeS loseS newS skFl skTso mayS)
abbrev d0:Dd:=(0,0,0,0,0,⟨none,0,0⟩,0,0,0,0,0,0,false,0,0)
abbrev pAt (ps:List OpE) (j:Nat):OpE:=ps.getD j (d0,[])
def runM (v:Mc) (ps:List OpE):Nat→Mc
 | 0=>v
 | j+1=>(doF (runM v ps j) (pAt ps j).1 (pAt ps j).2).2
def errsM (v:Mc) (ps:List OpE):Nat→List Int
 | 0=>[]
 | j+1=>errsM v ps j++[(doF (runM v ps j) (pAt ps j).1 (pAt ps j).2).1.2]
def lastO (v:Mc) (ps:List OpE):Nat→Ou
 | 0=>ou0
 | j+1=>(doF (runM v ps j) (pAt ps j).1 (pAt ps j).2).1.1
def lastR (rows:List (Ks.T KOu)) (o:Ou):SP:=match rows.getLast? with
 | none=>emp
 | some r=>outR r o
instance (rows:List (Ks.T KOu)) (o:Ou):NoR (lastR rows o):=by unfold lastR;split<;>infer_instance
theorem lastR_app (rows:List (Ks.T KOu)) (r:Ks.T KOu) (o:Ou):lastR (rows++[r]) o=outR r o:=by
 unfold lastR
 rw [List.getLast?_concat]
theorem errs_len (v:Mc) (ps:List OpE):∀ j,(errsM v ps j).length=j
 | 0=>rfl
 | j+1=>by show (errsM v ps j++[_]).length=_;rw [List.length_append,errs_len v ps j];rfl
theorem runM_ok {c:Cf} (hc:OkC c) {ps:List OpE} (hd:∀ p∈ps,OkD p.1):∀ j:Nat,j≤1000→j≤ps.length→OkMc (j:Int) (runM (newM c) ps j)
 | 0,_,_=>new_ok hc
 | j+1,h1,h2=>by
  have hj:pAt ps j=ps[j]:=by unfold pAt;rw [List.getD_eq_getElem?_getD,List.getElem?_eq_getElem (by omega)];rfl
  have:=do_ok (runM_ok hc hd j (by omega) (by omega)) (by omega) (hd (pAt ps j) (by rw [hj];exact List.getElem_mem _)) (pAt ps j).2
  rw [show (j:Int)+1=((j+1:Nat):Int) by omega] at this
  exact this
theorem run_tri (c:Cf) (hm:may c=true) (hc:OkC c) (s:Sl) (ps:List OpE) (hl:ps.length≤1000) (hd:∀ p∈ps,OkD p.1) (hx:∀ p∈ps,p.2.length≤4294967296):Tri Tryz.prog N_script_Run [.agg (Ks.mk KC c),.lf (.sl s)] [.lf .sl,.lf .sl] (emp^opsE s ps)
  (fun r=>ex fun rows:List (Ks.T KOu)=>pur (rows.length=ps.length) (arr r.1 KOu rows^arr r.2 KI (errsM (newM c) ps ps.length)^lastR rows (lastO (newM c) ps ps.length))) :=
 tri_0 (call_script_Run c s) fun w0 S R h=>by
  unfold W_script_Run
  have hsl:=(h.rd (s:=s)).2
  rw [List.length_map] at hsl
  refine w_new h fun n1 w h=>w_ldAll (b:=n1) (x:=c) h rfl (w_call (EgE.new_tri c) (h.le ((star_emp _).trans (star_comm _ _))) fun r w h=>?_)
  obtain ⟨b,h⟩:=h.exP
  obtain ⟨hr,h⟩:=h.purP
  rw [if_pos hm] at hr h
  rw [hr]
  refine w_ite (fun c=>(by cases c)) fun _=>?_
  have h:=h.nil KOu
  have h:=h.nil KI
  have h:Own w0 S R w (mach b (runM (newM c) ps (0:Int).toNat)^arr ⟨none,0,0⟩ KOu []^arr ⟨none,0,0⟩ KI (errsM (newM c) ps (0:Int).toNat)^lastR [] (lastO (newM c) ps (0:Int).toNat)^opsE s ps):=Own.fin (A:=mach b (newM c)^arr ⟨none,0,0⟩ KOu []^arr ⟨none,0,0⟩ KI []^emp^opsE s ps) h
  refine w_loopE (fun (y:Sl × Sl × Int) (rows:List (Ks.T KOu))=>mach b (runM (newM c) ps y.2.2.toNat)^arr y.1 KOu rows^arr y.2.1 KI (errsM (newM c) ps y.2.2.toNat)^lastR rows (lastO (newM c) ps y.2.2.toNat)^opsE s ps) (fun (y:Sl × Sl × Int) rows=>(0≤y.2.2∧y.2.2≤ps.length)∧rows.length=y.2.2.toNat) (fun (y:Sl × Sl × Int) _=>((ps.length:Int) - y.2.2).toNat) [] h ⟨⟨Int.le_refl 0,by show (0:Int)≤_;omega⟩,rfl⟩ ?_
  rintro K (y:Sl × Sl × Int) rows w ⟨hyr,hrl⟩ h next
  obtain ⟨y1,y2,y3⟩:=y
  dsimp only at hyr hrl h next ⊢
  refine w_ite (fun c0=>?_) fun c0=>?_
  ·have c0:y3 < ((s.len:Nat):Int):=of_decide_eq_true c0
   have hlt:y3.toNat < ps.length:=by omega
   obtain ⟨p,hpi⟩:∃ p,ps[y3.toNat]?=some p:=⟨_,List.getElem?_eq_getElem hlt⟩
   have hpa:pAt ps y3.toNat=p:=by unfold pAt;rw [List.getD_eq_getElem?_getD,hpi];rfl
   have hdm:(ps.map Prod.fst)[y3.toNat]?=some p.1:=by rw [List.getElem?_map,hpi];rfl
   have hdl:y3.toNat < (ps.map Prod.fst).length:=by rw [List.length_map];exact hlt
   have hmem:=List.mem_of_getElem? hpi
   refine w_idx (s:=s) h hyr.1 hdl (w_ldE h s y3.toNat hdm rfl ?_)
   refine w_new h fun n9 w h=>w_setTo h n9 (Ks.mk KD p.1) rfl rfl rfl fun w h=>w_ldAll (b:=n9) (x:=p.1) h rfl ?_
   haveI:=rd_dR hpi
   have hv:=runM_ok hc hd y3.toNat (by omega) (by omega)
   have h:Own w0 S R w (mach b (runM (newM c) ps y3.toNat)^(arr y1 KOu rows^arr y2 KI (errsM (newM c) ps y3.toNat))^opsE s ps):=h.fin
   refine w_callL (A:=mach b (runM (newM c) ps y3.toNat)) (Q:=rarr (dR p.1) KR p.2) (do_tri b _ _ hv (by omega) p.1 (hd p hmem) p.2 (hx p hmem)) h fun r w h=>?_
   obtain ⟨hre,h⟩:=h.purP
   obtain ⟨ro,re⟩:=r
   dsimp only at hre h ⊢
   rw [← hpa] at hre h
   have h:Own w0 S R w (outR ro (lastO (newM c) ps (y3.toNat+1))^mach b (runM (newM c) ps (y3.toNat+1))^arr y1 KOu rows^arr y2 KI (errsM (newM c) ps y3.toNat)^opsE s ps):=Own.fin (A:=outR ro (doF (runM (newM c) ps y3.toNat) (pAt ps y3.toNat).1 (pAt ps y3.toNat).2).1.1^mach b (doF (runM (newM c) ps y3.toNat) (pAt ps y3.toNat).1 (pAt ps y3.toNat).2).2^arr y1 KOu rows^arr y2 KI (errsM (newM c) ps y3.toNat)^opsE s ps) h
   refine w_new h fun n12 w h=>w_setTo h n12 (Ks.mk KOu ro) rfl rfl rfl fun w h=>w_ldAll (b:=n12) (x:=ro) h rfl ?_
   refine w_new h fun n14 w h=>?_
   have h:=h.blkArr n14 KOu [ro] rfl (by simp)
   have h:Own w0 S R w (arr ⟨some ⟨n14,0⟩,1,1⟩ KOu [ro]^_):=h
   have h:Own w0 S R w (arr y1 KOu rows^arr ⟨some ⟨n14,0⟩,1,1⟩ KOu [ro]^outR ro (lastO (newM c) ps (y3.toNat+1))^mach b (runM (newM c) ps (y3.toNat+1))^arr y2 KI (errsM (newM c) ps y3.toNat)^opsE s ps):=h.fin
   refine w_app (s:=y1) (x:=⟨some ⟨n14,0⟩,1,1⟩) h rfl (by rw [hrl];show _+1≤_;omega) fun s15 w _ h=>?_
   refine w_new h fun n16 w h=>?_
   have h:=h.blkArr n16 KI [re] rfl (by simp)
   have h:Own w0 S R w (arr ⟨some ⟨n16,0⟩,1,1⟩ KI [re]^_):=h
   have h:Own w0 S R w (arr y2 KI (errsM (newM c) ps y3.toNat)^arr ⟨some ⟨n16,0⟩,1,1⟩ KI [re]^arr s15 KOu (rows++[ro])^outR ro (lastO (newM c) ps (y3.toNat+1))^mach b (runM (newM c) ps (y3.toNat+1))^opsE s ps):=h.fin
   refine w_app (s:=y2) (x:=⟨some ⟨n16,0⟩,1,1⟩) h rfl (by rw [errs_len];show _+1≤_;omega) fun s17 w _ h=>?_
   have hwi:IntKind.i64.wrap (y3+1)=y3+1:=wi (by omega) (by omega)
   have he:errsM (newM c) ps y3.toNat++[re]=errsM (newM c) ps (y3.toNat+1):=by rw [hre];rfl
   have h1:(y3+1).toNat=y3.toNat+1:=by omega
   rw [hwi]
   rw [he,← lastR_app rows ro] at h
   refine next (s15,s17,y3+1) (rows++[ro]) w ⟨⟨by show 0≤y3+1;omega,by show y3+1≤_;omega⟩,by show _=(y3+1).toNat;rw [List.length_append,hrl,h1];rfl⟩ ?_ (by show ((ps.length:Int) - (y3+1)).toNat < ((ps.length:Int) - y3).toNat;omega)
   show Own w0 S R w (mach b (runM (newM c) ps (y3+1).toNat)^arr s15 KOu (rows++[ro])^arr s17 KI (errsM (newM c) ps (y3+1).toNat)^lastR (rows++[ro]) (lastO (newM c) ps (y3+1).toNat)^opsE s ps)
   rw [h1]
   exact h.fin
  ·have c0:¬ y3 < ((s.len:Nat):Int):=of_decide_eq_false c0
   have e:y3.toNat=ps.length:=by omega
   rw [e] at h hrl
   exact Own.retE rows (Own.retP hrl h.fin)
abbrev awP:List OpE:=[(dOpen 0,[]),(dSend 0 500,[]),(dPull,[])]
theorem aw_eq:errsM (newM FqH.plainC) awP 3=[0,0,0]∧(lastO (newM FqH.plainC) awP 3).dep=[(0,0,500,0,false)]:=by decide +kernel
theorem tawake_tri:Tri Tryz.prog N_cantertop_awake [] [.lf .bool] emp (fun r=>pur (r=true) emp) :=
 tri_0 call_cantertop_awake fun w0 S R h=>by
  unfold W_cantertop_awake
  obtain ⟨h1,h2⟩:=aw_eq
  refine w_call FqH.plain_tri (h.le (star_emp _)) fun r w h=>?_
  obtain ⟨hr,h⟩:=h.purP;rw [hr]
  refine w_new h fun n2 w h=>?_
  have h:=h.blkArr n2 KD [dOpen 0,dSend 0 500,dPull] rfl (by simp)
  have h:Own w0 S R w (arr ⟨some ⟨n2,0⟩,3,3⟩ KD [dOpen 0,dSend 0 500,dPull]^emp):=h.fin
  refine w_callL (A:=emp) (Q:=rarr ⟨some ⟨n2,0⟩,3,3⟩ KD [dOpen 0,dSend 0 500,dPull]^rarr ⟨none,0,0⟩ KR []^rarr ⟨none,0,0⟩ KR []^rarr ⟨none,0,0⟩ KR []^emp) (run_tri FqH.plainC FqH.plain_may FqH.plain_ok ⟨some ⟨n2,0⟩,3,3⟩ awP (by decide) (by
   simp only [List.mem_cons,List.not_mem_nil,or_false]
   rintro p (rfl | rfl | rfl)
   ·exact dOpen_ok 0
   ·exact dSend_ok 0 500 (by decide)
   ·exact dPull_ok) (by
   simp only [List.mem_cons,List.not_mem_nil,or_false]
   rintro p (rfl | rfl | rfl)<;>exact Nat.zero_le _)) (h.le ((star_emp _).trans (star_comm _ _))) fun r w h=>?_
  obtain ⟨rows,h⟩:=h.exP
  obtain ⟨hl,h⟩:=h.purP
  obtain ⟨r1,r2⟩:=r
  have hl:rows.length=3:=hl
  obtain ⟨a,b,c,hrows⟩:∃ a b c,rows=[a,b,c]:=by
   match rows,hl with
   | [a,b,c],_=>exact ⟨a,b,c,rfl⟩
  rw [hrows] at h
  have h:Own w0 S R w (outR c (lastO (newM FqH.plainC) awP 3)^arr r1 KOu [a,b,c]^arr r2 KI (errsM (newM FqH.plainC) awP 3)^emp):=Own.fin (A:=outR c (lastO (newM FqH.plainC) awP 3)^arr r1 KOu [a,b,c]^arr r2 KI (errsM (newM FqH.plainC) awP 3)^emp) (F:=(arr r1 KOu [a,b,c]^arr r2 KI (errsM (newM FqH.plainC) awP 3)^outR c (lastO (newM FqH.plainC) awP 3))^_) h
  obtain ⟨c1,c2,c3,c4⟩:=c
  obtain ⟨_,h⟩:=h.outR (c1,c2,c3,c4)
  dsimp only at h
  rw [h1,h2] at h
  have l1:=(h.rd (s:=r1)).2
  have l2:=(h.rd (s:=r2)).2
  have l3:=(h.rd (s:=c1)).2
  dsimp only
  refine w_ite (fun _=>?_) fun c=>(by rw [l1,l2] at c;cases c)
  refine w_idx (s:=r2) h (by decide) (by show 2 < 3;decide) (w_ldE h r2 2 (y:=(0:Int)) rfl rfl (w_ite (fun _=>?_) fun c=>(by cases c)))
  refine w_idx (s:=r1) h (by decide) (by show 2 < 3;decide) (w_ldA h r1 2 0 ((c1,c2,c3,c4):Ks.T KOu) rfl rfl (by decide) (x:=c1) rfl (w_ite (fun _=>?_) fun c=>(by rw [l3] at c;cases c)))
  refine w_idx (s:=r1) h (by decide) (by show 2 < 3;decide) (w_ldA h r1 2 0 ((c1,c2,c3,c4):Ks.T KOu) rfl rfl (by decide) (x:=c1) rfl ?_)
  refine w_idx (s:=c1) h (by decide) (by show 0 < 1;decide) (w_ldA h c1 0 2 ((0,0,500,0,false):Sg) rfl rfl (by decide) (x:=(500:Int)) rfl ?_)
  exact Own.retP rfl h.emp'
end EgQ

namespace EgT
open Arith ArithC TreeF FqM FqC SockC EgM EgA EgB EgC EgD EgE EgF EgG EgH EgI EgJ EgK EgP EgQ
open SockM (Sk emitS doneS writeS loseS newS skFl skTso mayS)
open SockV (IvB)
theorem note_b1 (c:Ct) {f:Int} (hf:f≠1):b1 (note1 c f).2=b1 c:=by
 unfold note1
 split
 ·rfl
 ·rename_i h
  have:f=0∨f=2∨f=3∨f=4∨f=5:=by omega
  rcases this with rfl | rfl | rfl | rfl | rfl
  ·rfl
  all_goals (rw [if_neg (by decide)];split<;>rfl)
theorem noteL_b1 (l:Nat→Ct) (s:Int) {f:Int} (hf:f≠1) (j:Nat):b1 ((noteL l s f).2 j)=b1 (l j):=by
 unfold noteL
 split
 ·rfl
 ·show b1 (EgM.upL l s.toNat _ j)=_
  by_cases e:j=s.toNat
  ·rw [e,EgM.upL_same];exact note_b1 _ hf
  ·rw [EgM.upL_ne _ _ e]
def tb (l:Nat→Ct):Nat→Int
 | 0=>0
 | n+1=>tb l n+b1 (l n)
theorem tb_eq {l m:Nat→Ct} (h:∀ j,b1 (l j)=b1 (m j)):∀ n,tb l n=tb m n
 | 0=>rfl
 | n+1=>by show tb l n+_=tb m n+_;rw [tb_eq h n,h n]
theorem tb_up {l m:Nat→Ct} {i:Nat} (h:∀ j,j≠i→m j=l j) (hi:b1 (m i)=b1 (l i)+1):∀ n,tb m n=tb l n+if i < n then 1 else 0
 | 0=>by simp [tb]
 | n+1=>by
  show tb m n+b1 (m n)=tb l n+b1 (l n)+_
  rw [tb_up h hi n]
  by_cases e:n=i
  ·rw [e,hi,if_neg (by omega),if_pos (by omega)];omega
  ·rw [h n e]
   by_cases e2:i < n
   ·rw [if_pos e2,if_pos (by omega)];omega
   ·rw [if_neg e2,if_neg (by omega)];omega
theorem drops_b1:∀ (ss:List Sg) (l:Nat→Ct) (o:Ou) (j:Nat),b1 ((dropsF l o ss).2 j)=b1 (l j)
 | [],_,_,_=>rfl
 | s :: ss,l,o,j=>by
  show b1 ((dropsF (dropF l o s 5).2 (dropF l o s 5).1 ss).2 j)=_
  rw [drops_b1 ss]
  exact noteL_b1 l (sK s) (by decide) j
theorem drops_dr:∀ (ss:List Sg) (l:Nat→Ct) (o:Ou),(dropsF l o ss).1.dr=o.dr++ss∧(dropsF l o ss).1.dep=o.dep
 | [],_,o=>⟨by show o.dr=o.dr++[];rw [List.append_nil],rfl⟩
 | s :: ss,l,o=>by
  obtain ⟨a,b⟩:=drops_dr ss (dropF l o s 5).2 (dropF l o s 5).1
  refine ⟨?_,b⟩
  show (dropsF (dropF l o s 5).2 (dropF l o s 5).1 ss).1.dr=_
  rw [a]
  show (o.dr++[s])++ss=o.dr++s :: ss
  rw [List.append_assoc];rfl
theorem pumpN_ac {k now : Int} {i : Nat} (hn : U now) : ∀ (n : Nat) (s : Pm), OkPm k i s → i < 8 → (∀ j, ∃ t, sgO ((pumpN i now n s).q.fl j) = sgO (s.q.fl j) ++ t) ∧ (∀ j, b1 ((pumpN i now n s).l j) = b1 (s.l j)) ∧ (pumpN i now n s).o.dep = s.o.dep ∧ (s.o.dr.length = s.o.ft.length → (pumpN i now n s).o.dr.length = (pumpN i now n s).o.ft.length)
  | 0, s, _, _ => ⟨fun _ => ⟨[], by rw [List.append_nil]; rfl⟩, fun _ => rfl, rfl, fun h => h⟩
  | n + 1, s, h, hi => by
    unfold pumpN
    by_cases he : (emitS s.v now).1.2 = 0
    · rw [if_neg (fun c => c he)]
      have h1 := (enter_ok h hn he).1
      have hw := went_of h.v hn he
      have hg1 : sK (emitS s.v now).1.1 = (i : Int) := hw.id.trans h.id
      have hg2 : 1 ≤ sLn (emitS s.v now).1.1 ∧ sLn (emitS s.v now).1.1 ≤ 65536 := hw.n
      have a : (∀ j, ∃ t, sgO ((enter i now s).1.q.fl j) = sgO (s.q.fl j) ++ t) ∧ (∀ j, b1 ((enter i now s).1.l j) = b1 (s.l j)) ∧ (enter i now s).1.o.dep = s.o.dep ∧ (s.o.dr.length = s.o.ft.length → (enter i now s).1.o.dr.length = (enter i now s).1.o.ft.length) := by
        obtain ⟨g, hg⟩ : ∃ g, g = (emitS s.v now).1.1 := ⟨_, rfl⟩
        rw [← hg] at hg1 hg2
        have een : enter i now s = if (enqF s.q g now).1.1 = 0 then (⟨(emitS s.v now).2, (enqF s.q g now).2, (noteL s.l i 0).2, s.o⟩, 0)
              else (⟨(doneS (emitS s.v now).2 g.2.2.1).2, (enqF s.q g now).2, (dropF (noteL s.l i 0).2 s.o g (enqF s.q g now).1.1).2, (dropF (noteL s.l i 0).2 s.o g (enqF s.q g now).1.1).1⟩, 1) := by
          rw [hg]; rfl
        rcases enq_sg s.q g now (by omega) hg2 with ⟨h1, h2⟩ | ⟨h1, h2⟩
        · rw [if_pos (by rw [h1])] at een
          rw [een]
          exact ⟨fun j => ⟨_, h2 j⟩, fun j => noteL_b1 s.l i (by decide) j, rfl, fun h => h⟩
        · have hne : ¬ (enqF s.q g now).1.1 = 0 := by rcases h1 with h | h | h <;> rw [h] <;> (show ¬ (_ : Int) = 0; decide)
          have h5 : (enqF s.q g now).1.1 ≠ 1 := by rcases h1 with h | h | h <;> rw [h] <;> (show ¬ (_ : Int) = 1; decide)
          rw [if_neg hne] at een
          rw [een]
          refine ⟨fun j => ⟨[], by rw [List.append_nil]; exact h2 j⟩, fun j => ?_, rfl, fun h => ?_⟩
          · show b1 ((noteL (noteL s.l i 0).2 (sK g) (enqF s.q g now).1.1).2 j) = _
            rw [noteL_b1 _ _ h5, noteL_b1 _ _ (by decide)]
          · show (s.o.dr ++ [g]).length = (s.o.ft ++ [_]).length
            rw [List.length_append, List.length_append, h]; rfl
      obtain ⟨a1, a2, a3, a4⟩ := a
      split
      · obtain ⟨p1, p2, p3, p4⟩ := pumpN_ac hn n _ h1 hi
        refine ⟨fun j => ?_, fun j => (p2 j).trans (a2 j), p3.trans a3, fun h => p4 (a4 h)⟩
        obtain ⟨t, ht⟩ := a1 j
        obtain ⟨u, hu⟩ := p1 j
        exact ⟨t ++ u, by rw [hu, ht, List.append_assoc]⟩
      · exact ⟨a1, a2, a3, a4⟩
    · rw [if_pos he]
      exact ⟨fun _ => ⟨[], by rw [List.append_nil]⟩, fun _ => rfl, rfl, fun h => h⟩
structure Acc (v:Mc) (d:Dd) (r:(Ou × Int) × Mc):Prop where
 one:r.1.1.dep.length≤1
 bad:r.1.2≠0→r.1.1=ou0
 ft:r.1.1.dr.length=r.1.1.ft.length
 fl:∀ j:Nat,j < 8→(∃ x,r.1.1.dep=[x]∧sK x=(j:Int)∧sgO (v.q.fl j)=x :: sgO (r.2.q.fl j))∨((∀ x,r.1.1.dep=[x]→sK x≠(j:Int)) ∧
  (r.1.2=0→dK d=9→dS d=(j:Int)→sgO (r.2.q.fl j)=[]∧r.1.1.dr=sgO (v.q.fl j))∧(¬ (r.1.2=0∧dK d=9∧dS d=(j:Int))→∃ t,sgO (r.2.q.fl j)=sgO (v.q.fl j)++t))
 b:tb r.2.l 8=tb v.l 8+r.1.1.dep.length
theorem acc_still {v v':Mc} {d:Dd} {e:Int} (hq:∀ j,sgO (v'.q.fl j)=sgO (v.q.fl j)) (hl:v'.l=v.l) (h9:e=0→dK d≠9):Acc v d ((ou0,e),v') where
 one:=Nat.zero_le _
 bad:=fun _=>rfl
 ft:=rfl
 fl:=fun j hj=>.inr ⟨fun x h=>(by cases h),fun h0 h1=>absurd h1 (h9 h0),fun _=>⟨[],(by rw [List.append_nil];exact hq j)⟩⟩
 b:=by rw [hl];show _=_+(0:Int);omega
theorem do_ac {k B:Int} {v:Mc} (hv:OkMc k v) (hk:k < 1000000) (hb:BkL B v.l v.q.fl) (hB:B < 1152921500000000000) (d:Dd) (xs:List (Int × Int)):Acc v d (doF v d xs):=by
 by_cases hne:(doF v d xs).1.2≠0
 ·obtain ⟨h1,h2⟩:=refused hne
  have e:doF v d xs=((ou0,(doF v d xs).1.2),v):=by
   rw [← h2]
   refine Prod.ext ?_ h1
   rfl
  rw [e]
  exact acc_still (fun _=>rfl) rfl (fun h=>absurd h hne)
 have h0:(doF v d xs).1.2=0:=Classical.not_not.1 hne
 have hs0:(stepM v d xs).1=0:=by rw [← do_err];exact h0
 have e:doF v d xs=(((stepM v d xs).2.1,0),(stepM v d xs).2.2):=by unfold doF;rw [if_neg (fun c=>c hs0)]
 rw [e]
 clear e hne h0
 unfold stepM at hs0 ⊢
 split
 ·rename_i e5;exact acc_still (fun _=>rfl) rfl (fun _=>by omega)
 ·rename_i e5
  rw [if_neg e5] at hs0
  split
  ·rename_i e6
   show Acc v d (((pullF v ou0).1,0),(pullF v ou0).2)
   unfold pullF
   rcases deq_sg hv.q hv.un (rates_U hv) with ⟨h1,h2⟩ | ⟨i,s,h1,⟨h3,h4⟩,h2⟩
   ·cases hd:deqF v.q v.now (ratesF v.so) with
    | mk x q =>
    rw [hd] at h1 h2
    dsimp only at h1
    subst h1
    dsimp only
    refine { one:=?_,bad:=fun c=>absurd rfl c,ft:=?_,fl:=fun j hj=>.inr ⟨fun x h=>?_,fun _ c=>absurd c (by omega),fun _=>⟨[],by rw [List.append_nil];exact h2 j⟩⟩,b:=?_ }
    ·split<;>exact Nat.zero_le _
    ·split<;>rfl
    ·split at h<;>cases h
    ·show tb v.l 8=tb v.l 8+_
     split<;>(show tb v.l 8=tb v.l 8+(0:Int);omega)
   ·cases hd:deqF v.q v.now (ratesF v.so) with
    | mk x q =>
    rw [hd] at h1 h2
    dsimp only at h1
    subst h1
    have hci:cnt (v.q.fl i)=cnt (q.fl i)+1:=by have:=h2 i;rw [if_pos rfl] at this;rw [cnt_sg,cnt_sg,this];simp
    have hbo:=bk_out (hb i h4) (by omega) (by rw [hci];have:=cnt_nn (q.fl i);omega) (f:=1) (by omega)
    refine { one:=Nat.le_refl _,bad:=fun c=>absurd rfl c,ft:=rfl,fl:=fun j hj=>?_,b:=?_ }
    ·by_cases ej:j=i
     ·left
      refine ⟨s,rfl,by rw [ej];exact h3,?_⟩
      have:=h2 j
      rw [if_pos ej] at this
      exact this
     ·right
      refine ⟨fun x hx=>?_,fun _ c=>absurd c (by omega),fun _=>⟨[],?_⟩⟩
      ·have hx:[s]=[x]:=hx
       cases hx
       rw [h3];omega
      ·have:=h2 j
       rw [if_neg ej,List.nil_append] at this
       rw [List.append_nil];exact this.symm
    ·show tb (noteL v.l (sK s) 1).2 8=tb v.l 8+1
     rw [h3,noteL_eq v.l h4]
     have:=tb_up (l:=v.l) (m:=EgM.upL v.l i (note1 (v.l i) 1).2) (i:=i) (fun j hj=>EgM.upL_ne _ _ hj) (by rw [EgM.upL_same];exact hbo.2.2.2.1 rfl) 8
     rw [this,if_pos h4]
  ·rename_i e6
   rw [if_neg e6] at hs0
   split
   ·rename_i e8
    show Acc v d ((ou0,0),(setM v (dC d)).2)
    have e1:(setM v (dC d)).2.l=v.l:=by unfold setM;split<;>rfl
    have e2:(setM v (dC d)).2.q.fl=v.q.fl:=by
     have e:(setF v.q (dC d)).2.fl=v.q.fl:=by unfold setF;split<;>rfl
     unfold setM;split<;>exact e
    exact acc_still (fun j=>by rw [e2]) e1 (fun _=>by omega)
   ·rename_i e8
    rw [if_neg e8] at hs0
    split
    ·rename_i e1
     rw [if_pos e1] at hs0
     unfold oneM at hs0 ⊢
     split
     ·rename_i hi;rw [if_pos hi] at hs0;cases hs0
     ·rename_i hi
      rw [if_neg hi] at hs0
      have hi:0≤dS d∧dS d < 8:=Classical.not_not.1 hi
      have hi8:(dS d).toNat < 8:=by omega
      have hid:(((dS d).toNat:Nat):Int)=dS d:=by omega
      split
      ·split
       ·rename_i e1;exact acc_still (fun _=>rfl) rfl (fun _=>by omega)
       ·rename_i hn e1
        rw [hn] at hs0
        dsimp only at hs0
        rw [if_neg e1] at hs0
        cases hs0
      ·rename_i x hx
       obtain ⟨hxi,hxd,_⟩:=hv.so _ x hx
       rw [hx] at hs0
       dsimp only at hs0
       split
       ·rename_i e1;rw [if_pos e1] at hs0;cases hs0
       ·rename_i e1
        rw [if_neg e1] at hs0
        split
        ·rename_i e9
         obtain ⟨c1,c2⟩:=close_sg v.q (dS d).toNat hi8
         obtain ⟨d1,d2⟩:=drops_dr (closeF v.q ((dS d).toNat:Int)).1 v.l ou0
         obtain ⟨d3,d4⟩:=drops_len v.l ou0 (closeF v.q ((dS d).toNat:Int)).1
         refine { one:=?_,bad:=fun c=>absurd rfl c,ft:=?_,fl:=fun j hj=>.inr ⟨fun x h=>?_,fun _ _ c=>⟨?_,?_⟩,fun c=>⟨[],?_⟩⟩,b:=?_ }
         ·show (dropsF v.l ou0 (closeF v.q ((dS d).toNat:Int)).1).1.dep.length≤1
          rw [d2];exact Nat.zero_le _
         ·show (dropsF v.l ou0 (closeF v.q ((dS d).toNat:Int)).1).1.dr.length=(dropsF v.l ou0 (closeF v.q ((dS d).toNat:Int)).1).1.ft.length
          rw [d3,d4];rfl
         ·have h:(dropsF v.l ou0 (closeF v.q ((dS d).toNat:Int)).1).1.dep=[x]:=h
          rw [d2] at h;cases h
         ·show sgO ((closeF v.q ((dS d).toNat:Int)).2.fl j)=[]
          rw [c2,if_pos (by omega)]
         ·show (dropsF v.l ou0 (closeF v.q ((dS d).toNat:Int)).1).1.dr=_
          rw [d1,c1,show j=(dS d).toNat by omega];rfl
         ·show sgO ((closeF v.q ((dS d).toNat:Int)).2.fl j)=_
          rw [c2,if_neg (fun x=>c ⟨rfl,e9,by omega⟩),List.append_nil]
         ·show tb (dropsF v.l ou0 (closeF v.q ((dS d).toNat:Int)).1).2 8=tb v.l 8+((dropsF v.l ou0 (closeF v.q ((dS d).toNat:Int)).1).1.dep.length:Int)
          rw [d2,tb_eq (drops_b1 _ _ _)]
          show tb v.l 8=tb v.l 8+(0:Int);omega
        ·rename_i e9
         rw [if_neg e9] at hs0
         obtain ⟨a,b⟩:=EgF.told_ok hxi hk hv.un d xs
         split
         ·have hpm:OkPm (k+1) ((dS d).toNat:Int) ⟨(toldF x v.now d xs).2,v.q,v.l,ou0⟩:=⟨a,b.trans hxd,hv.q⟩
          obtain ⟨p1,p2,p3,p4⟩:=pumpN_ac hv.un (fresh (toldF x v.now d xs).2+1) _ hpm hi8
          refine { one:=?_,bad:=fun c=>absurd rfl c,ft:=p4 rfl,fl:=fun j hj=>.inr ⟨fun x h=>?_,fun _ c=>absurd c e9,fun _=>p1 j⟩,b:=?_ }
          ·show (pumpF _ _ _).o.dep.length≤1
           unfold pumpF
           rw [p3];exact Nat.zero_le _
          ·have h:(pumpF _ _ _).o.dep=[x]:=h
           unfold pumpF at h
           rw [p3] at h;cases h
          ·show tb (pumpF _ _ _).l 8=tb v.l 8+((pumpF _ _ _).o.dep.length:Int)
           unfold pumpF
           rw [p3,tb_eq p2]
           show tb v.l 8=tb v.l 8+(0:Int);omega
         ·rename_i ec;rw [if_neg ec] at hs0;exact absurd hs0 ec
    ·rename_i e1;rw [if_neg e1] at hs0;cases hs0
end EgT

namespace EgU
open Arith ArithC TreeF FqM FqC SockC EgM EgA EgB EgC EgD EgE EgF EgG EgH EgI EgJ EgK EgQ EgT
open SockM (Sk emitS doneS writeS loseS newS skFl skTso mayS)
abbrev sl8 (f:Nat→Sl):List Lf:=[.sl (f 0),.sl (f 1),.sl (f 2),.sl (f 3),.sl (f 4),.sl (f 5),.sl (f 6),.sl (f 7)]
theorem sl8_at (f:Nat→Sl) {i:Nat} (hi:i < 8):Ks.un [.sl] (((sl8 f).drop (0+i * 1)).take 1)=some (f i):=by
 rcases lt8 hi with rfl | rfl | rfl | rfl | rfl | rfl | rfl | rfl<;>rfl
theorem sl8_up (f:Nat→Sl) {i:Nat} (hi:i < 8) (x:Sl):upd (sl8 f) (0+i * 1) [.sl x]=sl8 (EgM.upL f i x):=by
 rcases lt8 hi with rfl | rfl | rfl | rfl | rfl | rfl | rfl | rfl<;>rfl
abbrev flsR (t:Nat→Sl) (v:Mc) (l:List Nat):SP:=rl (fun j:Nat=>arr (t j) KS (sgO (v.q.fl j))) l
instance rl_noR {α:Type} (f:α→SP) [∀ x,NoR (f x)]:∀ l:List α,NoR (rl f l)
 | []=>(inferInstance:NoR emp)
 | x :: xs=>by
  have:=rl_noR f xs
  show NoR (f x^rl f xs)
  infer_instance
theorem rl_snoc {α:Type} (f:α→SP) (x:α):∀ l:List α,Le (rl f l^f x) (rl f (l++[x]))
 | []=>star_comm _ _
 | y :: l=>(star_assoc _ _ _).trans (star_mono Le.rfl (rl_snoc f x l))
theorem rl_congr {α:Type} {f g:α→SP}:∀ {l:List α},(∀ x∈l,f x=g x)→rl f l=rl g l
 | [],_=>rfl
 | y :: l,h=>by
  show f y^rl f l=g y^rl g l
  rw [h y (by simp),rl_congr fun x hx=>h x (by simp [hx])]
theorem sgF_eq (v:Qm) {j:Nat} (hj:j < 8):FqE.sgF v (j:Int)=sgO (v.fl j):=by
 unfold FqE.sgF FqE.hasF
 rw [decide_eq_true (by omega:0≤(j:Int)∧(j:Int)≤7),Bool.true_and,Int.toNat_natCast]
 cases v.fl j<;>rfl
theorem rd_fls (t:Nat→Sl) (v:Mc) {j:Nat} (hj:j < 8):Rd (t j) (flsR t v (List.range 8)) KS (sgO (v.q.fl j)) :=
 rd_rl (i:=j) (x:=j) (by rw [List.getElem?_range hj]) (rd_arr _ _ _)
theorem nrm_nil:Nrm (⟨none,0,0⟩:Sl):=⟨rfl,fun h=>absurd rfl h⟩
theorem flows_tri (b:Nat) (v:Mc) (hv:OkQ v.q):Tri Tryz.prog N_cantertop_flows [.lf (.ptr (some ⟨b,0⟩))] [.agg K_s8] (mach b v)
  (fun r=>ex fun t:Nat→Sl=>pur (r=(t 0,t 1,t 2,t 3,t 4,t 5,t 6,t 7)∧∀ j,j < 8→Nrm (t j)∧(t j).len≤(t j).cap) (flsR t v (List.range 8)^mach b v)) :=
 tri_0 (call_cantertop_flows (some ⟨b,0⟩)) fun w0 S R h=>by
  unfold W_cantertop_flows
  refine w_new (h.le (star_emp _)) fun n1 w h=>w_new h fun n2 w h=>?_
  obtain ⟨t0,ht0⟩:∃ t:Nat→Sl,t=fun _=>⟨none,0,0⟩:=⟨_,rfl⟩
  have h:Own w0 S R w (blk n2 (sl8 t0)^blk n1 (sl8 t0)^flsR t0 v (List.range (0:Int).toNat)^mach b v^emp):=by
   rw [ht0]
   exact Own.fin (A:=blk n2 (sl8 fun _=>⟨none,0,0⟩)^blk n1 (sl8 fun _=>⟨none,0,0⟩)^emp^mach b v^emp) h
  refine w_loopE (fun (y:Int) (t:Nat→Sl)=>blk n2 (sl8 t)^blk n1 (sl8 t0)^flsR t v (List.range y.toNat)^mach b v^emp) (fun (y:Int) t=>(0≤y∧y≤8)∧∀ j,j < y.toNat→Nrm (t j)∧(t j).len≤(t j).cap) (fun (y:Int) _=>(8 - y).toNat) t0 h ⟨by decide,fun j hj=>absurd hj (by show ¬ j < 0;omega)⟩ ?_
  rintro K (y:Int) t w ⟨hy,ht⟩ h next
  refine w_ite (fun c=>?_) fun c=>?_
  ·have c:y < 8:=of_decide_eq_true c
   obtain ⟨j,hj⟩:∃ j:Nat,y=(j:Int):=⟨y.toNat,by omega⟩
   have hj8:j < 8:=by omega
   have hyj:y.toNat=j:=by omega
   have hwi:IntKind.i64.wrap (y+1)=y+1:=wi (by omega) (by omega)
   rw [hyj] at h ht
   refine w_call (mflow_tri b v hv y) h fun r w h=>?_
   obtain ⟨a,h⟩:=h.exP
   obtain ⟨hr,h⟩:=h.purP
   rw [hr]
   have hal:=(h.rd (s:=a)).2
   obtain ⟨f,hf⟩:∃ f,f=FqE.seenF v.q y a:=⟨_,rfl⟩
   rw [← hf]
   refine w_new h fun n6 w h=>w_setTo h n6 (Ks.mk FqE.KF f.1) rfl rfl rfl fun w h=>?_
   refine w_ld (x:=f.1.2.2.2.2.2) h rfl ⟨by omega,?_⟩
   have hn:=h.nrm a
   have hcp:=own_cap (s:=a) (K:=KS) h
   have hx:∃ x:Sl,f.1.2.2.2.2.2=x∧(Nrm x∧x.len≤x.cap)∧Own w0 S R w (blk n2 (sl8 t)^blk n1 (sl8 t0)^flsR t v (List.range j)^arr x KS (sgO (v.q.fl j))^mach b v^emp):=by
    rw [hj,sgF_eq v.q hj8] at h
    rw [hf,hj]
    unfold FqE.seenF FqE.hasF
    rw [decide_eq_true (by omega:0≤(j:Int)∧(j:Int)≤7),Bool.true_and,Int.toNat_natCast]
    cases hq:v.q.fl j with
    | none =>
     refine ⟨⟨none,0,0⟩,rfl,⟨nrm_nil,Nat.le_refl _⟩,?_⟩
     have h:=h.nil KS
     exact Own.fin (A:=blk n2 (sl8 t)^blk n1 (sl8 t0)^flsR t v (List.range j)^arr ⟨none,0,0⟩ KS []^mach b v^emp) h
    | some g =>
     rw [hq] at h
     exact ⟨a,rfl,⟨hn,hcp⟩,Own.fin (A:=blk n2 (sl8 t)^blk n1 (sl8 t0)^flsR t v (List.range j)^arr a KS (sgO (some g))^mach b v^emp) h⟩
   obtain ⟨x,hfx,hxn,h⟩:=hx
   rw [hfx,hyj]
   refine w_setTo h n2 (sl8 (EgM.upL t j x)) rfl (by rcases lt8 hj8 with rfl | rfl | rfl | rfl | rfl | rfl | rfl | rfl<;>rfl) (sl8_up t hj8 x) fun w h=>?_
   rw [hwi]
   have e1:(y+1).toNat=j+1:=by omega
   refine next (y+1) (EgM.upL t j x) w ⟨⟨by omega,by omega⟩,fun i hi=>?_⟩ ?_ (by show (8 - (y+1)).toNat < (8 - y).toNat;omega)
   ·rw [e1] at hi
    by_cases e:i=j
    ·rw [e,EgM.upL_same];exact hxn
    ·rw [EgM.upL_ne _ _ e];exact ht i (by omega)
   ·show Own w0 S R w (blk n2 (sl8 (EgM.upL t j x))^blk n1 (sl8 t0)^flsR (EgM.upL t j x) v (List.range (y+1).toNat)^mach b v^emp)
    rw [e1,List.range_succ]
    have h:Own w0 S R w ((flsR t v (List.range j)^arr x KS (sgO (v.q.fl j)))^blk n2 (sl8 (EgM.upL t j x))^blk n1 (sl8 t0)^mach b v^emp):=h.fin
    have e2:flsR t v (List.range j)=flsR (EgM.upL t j x) v (List.range j):=rl_congr fun i hi=>by rw [EgM.upL_ne _ _ (by have:=List.mem_range.1 hi;omega)]
    have e3:arr x KS (sgO (v.q.fl j))=(fun i:Nat=>arr (EgM.upL t j x i) KS (sgO (v.q.fl i))) j:=by dsimp only;rw [EgM.upL_same]
    rw [e2,e3] at h
    have h:=h.le (star_mono (rl_snoc _ _ _) Le.rfl)
    exact Own.fin (A:=blk n2 (sl8 (EgM.upL t j x))^blk n1 (sl8 t0)^flsR (EgM.upL t j x) v (List.range j++[j])^mach b v^emp) (F:=flsR (EgM.upL t j x) v (List.range j++[j])^_) h
  ·have c:¬ y < 8:=of_decide_eq_false c
   have e:y.toNat=8:=by omega
   rw [e] at h ht
   refine w_ldAll (b:=n2) (x:=((t 0,t 1,t 2,t 3,t 4,t 5,t 6,t 7):Ks.T K_s8)) h rfl (w_setAll h (by rfl) fun w h=>w_ldAll (b:=n1) (x:=((t 0,t 1,t 2,t 3,t 4,t 5,t 6,t 7):Ks.T K_s8)) h rfl ?_)
   exact Own.retE t (Own.retP ⟨rfl,ht⟩ h.fin)
end EgU

namespace EgV
open Arith ArithC TreeF FqM FqC SockC EgM EgA EgB EgC EgD EgE EgF EgG EgH EgI EgJ EgK EgP EgQ EgT EgU
open SockM (Sk emitS doneS writeS loseS newS skFl skTso mayS)
theorem sl8_chk (f:Nat→Sl) {i:Nat} (hi:i < 8):((sl8 f).drop (0+i * 1)).take (Ks.mk [.sl] (f i)).length=Ks.mk [.sl] (f i):=by
 rcases lt8 hi with rfl | rfl | rfl | rfl | rfl | rfl | rfl | rfl<;>rfl
theorem sg_le {v:Qm} (hv:OkQ v) {j:Nat} (hj:j < 8):(sgO (v.fl j)).length≤512:=by
 have h1:=tot_ge v.fl (n:=8) hj
 rw [cnt_sg,← hv.n] at h1
 have:=hv.le
 omega
theorem tb_r {B:Int} {l:Nat→Ct} {fl:Nat→Option Fl} (h:BkL B l fl):∀ n,n≤8→0≤tb l n∧tb l n≤tb l 8:=by
 have st:∀ n,n < 8→tb l n≤tb l (n+1):=fun n hn=>by have:=(h n hn).p1;show tb l n≤tb l n+b1 (l n);omega
 have s0:tb l 0≤tb l 1:=st 0 (by omega)
 have s1:tb l 1≤tb l 2:=st 1 (by omega)
 have s2:tb l 2≤tb l 3:=st 2 (by omega)
 have s3:tb l 3≤tb l 4:=st 3 (by omega)
 have s4:tb l 4≤tb l 5:=st 4 (by omega)
 have s5:tb l 5≤tb l 6:=st 5 (by omega)
 have s6:tb l 6≤tb l 7:=st 6 (by omega)
 have s7:tb l 7≤tb l 8:=st 7 (by omega)
 have z:tb l 0=0:=rfl
 intro n hn
 have:n=0∨n=1∨n=2∨n=3∨n=4∨n=5∨n=6∨n=7∨n=8:=by omega
 rcases this with rfl | rfl | rfl | rfl | rfl | rfl | rfl | rfl | rfl<;>omega
section
variable {w0 w : World} {S R : Nat → Prop} {F : SP}
theorem w_plain {x y:Sl} {xs ys:List Sg} (h:Own w0 S R w F) [Rd x F KS xs] [Rd y F KS ys] (hl:xs.length≤4294967296) (e:xs=ys) {A:Rs.T [.lf .bool]→WP} (hA:∀ w,Own w0 S R w F→A true w) :
  call Tryz.prog N_canterhelp_Plain_apiSeg [.lf (.sl x),.lf (.sl y)] [.lf .bool] A w:=by
 refine w_callL (A:=emp) (Q:=rarr x KS xs^rarr y KS ys) (Segs.seg_plain_tri x y xs ys hl) (h.le ((star_emp _).trans (star_comm _ _))) fun r w h=>?_
 obtain ⟨hr,h⟩:=h.purP
 rw [hr.2 e]
 exact hA w h.drop
end
theorem accounts_tri (d : Cf) (s : Sl) (ps : List OpE) (hd : 0 ≤ cH d ∧ U (cR d)) (hp : ∀ p ∈ ps, OkE p) : Tri Tryz.prog N_cantertop_TopAccounts [.agg (Ks.mk KC d), .lf (.sl s)] [.lf .bool] (opsE s ps) (fun r => pur (r = true) emp) :=
  tri_0 (call_cantertop_TopAccounts d s) fun w0 S R h => by
    unfold W_cantertop_TopAccounts
    have h : Own w0 S R w0 (opsE s ps) := h
    have hsl := (h.rd (s := s)).2
    rw [List.length_map] at hsl
    obtain ⟨cf, hcf⟩ : ∃ c, c = FqI.configF d := ⟨_, rfl⟩
    have hcm : may cf = true := by rw [hcf]; exact FqI.config_may d
    have hco : OkC cf := by rw [hcf]; exact FqI.config_ok hd.1 hd.2
    refine w_new h fun n1 w h => w_ldAll (b := n1) (x := d) h rfl ?_
    have h : Own w0 S R w (emp ^ opsE s ps) := h.fin
    refine w_call (FqI.config_tri d) h fun r w h => ?_
    obtain ⟨hr, h⟩ := h.purP; rw [hr, ← hcf]
    refine w_call (EgE.new_tri cf) h fun r w h => ?_
    obtain ⟨b, h⟩ := h.exP
    obtain ⟨hr, h⟩ := h.purP
    rw [if_pos hcm] at hr h
    rw [hr]
    refine w_call tawake_tri (h.le ((star_emp _).trans (star_comm _ _))) fun r w h => ?_
    obtain ⟨hr, h⟩ := h.purP; rw [hr]
    refine w_ite (fun c => (by cases c)) fun _ => ?_
    have h : Own w0 S R w (mach b (newM cf) ^ emp ^ opsE s ps) := h.fin
    refine w_callL (A := emp) (Q := opsE s ps) (deeds_tri s ps 90 (by decide) hp) h fun r4 w h => ?_
    obtain ⟨ds, hds⟩ : ∃ ds, ds = (deedsF 90 ps).map Prod.fst := ⟨_, rfl⟩
    rw [← hds] at h
    have h : Own w0 S R w (mach b (newM cf) ^ arr r4 KD ds ^ opsE s ps) := h.fin
    have hr4 := (h.rd (s := r4)).2
    have hdsl : ds.length = min 90 ps.length := by rw [hds, List.length_map, deedsF, List.length_map, List.length_take]; rfl
    refine w_loopE (fun (_ : Int × Int) (v : Mc) => mach b v ^ arr r4 KD ds ^ opsE s ps) (fun (y : Int × Int) v => (0 ≤ y.2 ∧ y.2 ≤ 90) ∧ OkMc y.2 v ∧ BkL (y.2 * 2147483648) v.l v.q.fl ∧ y.1 = tb v.l 8 ∧ y.1 ≤ y.2) (fun (y : Int × Int) _ => (90 - y.2).toNat) (newM cf) h ⟨⟨Int.le_refl 0, by show (0:Int) ≤ 90; decide⟩, new_ok hco, new_bk _, rfl, Int.le_refl 0⟩ ?_
    rintro K (y : Int × Int) v w ⟨hir, hv, hbk, hacc, hay⟩ h next
    have hB : y.2 * 2147483648 ≤ 193273528320 := by omega
    refine w_ite (fun c => ?_) fun _ => ?_
    rotate_left
    · clear next
      have h : Own w0 S R w (mach b v ^ emp) := h.fin
      have hbk := hbk.le hB
      refine w_loop (fun _ : Int × Int => mach b v ^ emp) (fun z : Int × Int => (0 ≤ z.2 ∧ z.2 ≤ 8) ∧ z.1 = tb v.l z.2.toNat) (fun z : Int × Int => (8 - z.2).toNat) h ⟨⟨Int.le_refl 0, by show (0:Int) ≤ 8; decide⟩, rfl⟩ ?_
      rintro (z : Int × Int) w ⟨hz, hzt⟩ h
      refine w_ite (fun c => ?_) fun c => ?_
      · have c : z.2 < 8 := of_decide_eq_true c
        refine w_call (mcount_tri b v z.2) h fun r w h => ?_
        obtain ⟨hr, h⟩ := h.purP; rw [hr]
        have e : countL v.l z.2 = (z.2, (v.l z.2.toNat).2) := by unfold countL; rw [if_neg (by omega)]
        rw [e]
        have t1 := tb_r hbk z.2.toNat (by omega)
        have t2 := tb_r hbk (z.2.toNat + 1) (by omega)
        have t3 : tb v.l (z.2.toNat + 1) = tb v.l z.2.toNat + b1 (v.l z.2.toNat) := rfl
        have w1 : IntKind.i64.wrap (z.1 + b1 (v.l z.2.toNat)) = z.1 + b1 (v.l z.2.toNat) := wi (by omega) (by omega)
        have w2 : IntKind.i64.wrap (z.2 + 1) = z.2 + 1 := wi (by omega) (by omega)
        rw [w2]
        refine ⟨⟨⟨by show 0 ≤ z.2 + 1 ∧ z.2 + 1 ≤ 8; omega, ?_⟩, h⟩, by show (8 - (z.2 + 1)).toNat < (8 - z.2).toNat; omega⟩
        show IntKind.i64.wrap (z.1 + b1 (v.l z.2.toNat)) = tb v.l (z.2 + 1).toNat
        rw [w1, show (z.2 + 1).toNat = z.2.toNat + 1 by omega, t3, hzt]
      · have c : ¬ z.2 < 8 := of_decide_eq_false c
        refine Own.retP ?_ h.emp'
        rw [hacc, hzt, show z.2.toNat = 8 by omega]; simp
    have c : y.2 < ((r4.len : Nat) : Int) := of_decide_eq_true c
    have hi : y.2.toNat < ps.length ∧ y.2.toNat < (90 : Int).toNat := by
      have : (90 : Int).toNat = 90 := rfl
      omega
    have hwi : IntKind.i64.wrap (y.2 + 1) = y.2 + 1 := wi (by omega) (by omega)
    obtain ⟨p, hpi⟩ : ∃ p, ps[y.2.toNat]? = some p := ⟨_, List.getElem?_eq_getElem hi.1⟩
    have hdi := deedsF_at hpi hi.2
    have hdm : ds[y.2.toNat]? = some (deedF p.1) := by rw [hds, List.getElem?_map, hdi]; rfl
    have hlt : y.2.toNat < ds.length := (List.getElem?_eq_some_iff.1 hdm).1
    have hO := hp p (List.mem_of_getElem? hpi)
    have hD := deedF_ok hO
    refine w_call (flows_tri b v hv.q) h fun r w h => ?_
    obtain ⟨t, h⟩ := h.exP
    obtain ⟨⟨hr, htn⟩, h⟩ := h.purP
    rw [hr]
    refine w_new h fun n10 w h => w_setTo h n10 (sl8 t) rfl rfl rfl fun w h => ?_
    refine w_idx (s := r4) h hir.1 hlt (w_ldE h r4 y.2.toNat hdm rfl ?_)
    refine w_deedG (r4 := r4) (s := s) (ds := ds) h hv (by omega) hp hpi fun r w hre h => ?_
    obtain ⟨⟨t1, t2, t3, t4⟩, re⟩ := r
    dsimp only at hre h ⊢
    have hv' := do_ok hv (by omega) hD (p.2.take 6)
    have hb' := do_bk hv (by omega) hbk (by omega) (deedF p.1) (p.2.take 6)
    have ac := do_ac hv (by omega) hbk (by omega) (deedF p.1) (p.2.take 6)
    obtain ⟨D, hDD⟩ : ∃ D, D = doF v (deedF p.1) (p.2.take 6) := ⟨_, rfl⟩
    rw [← hDD] at h hre hv' hb' ac
    obtain ⟨⟨o, e⟩, v'⟩ := D
    dsimp only at h hre hv' hb'
    obtain ⟨a1, a2, a3, a4, a5⟩ := ac
    dsimp only at a1 a2 a3 a4 a5
    rw [hre]
    obtain ⟨_, h⟩ := h.outR (t1, t2, t3, t4)
    dsimp only at h
    have l1 := (h.rd (s := t1)).2
    have l2 := (h.rd (s := t2)).2
    have l3 := (h.rd (s := t3)).2
    refine w_new h fun n14 w h => w_setTo h n14 (Ks.mk KOu (t1, t2, t3, t4)) rfl rfl rfl fun w h => ?_
    refine w_call (flows_tri b v' hv'.q) h fun r w h => ?_
    obtain ⟨t', h⟩ := h.exP
    obtain ⟨⟨hr, htn'⟩, h⟩ := h.purP
    rw [hr]
    refine w_new h fun n16 w h => w_setTo h n16 (sl8 t') rfl rfl rfl fun w h => ?_
    have h : Own w0 S R w (blk n10 (sl8 t) ^ blk n16 (sl8 t') ^ blk n14 (Ks.mk KOu (t1, t2, t3, t4)) ^ arr t1 KS o.dep ^ arr t2 KS o.dr ^ flsR t v (List.range 8) ^ flsR t' v' (List.range 8) ^ mach b v' ^ arr r4 KD ds ^ opsE s ps) := h.fin
    refine w_join h (fun _ => blk n10 (sl8 t) ^ blk n16 (sl8 t') ^ blk n14 (Ks.mk KOu (t1, t2, t3, t4)) ^ arr t1 KS o.dep ^ arr t2 KS o.dr ^ flsR t v (List.range 8) ^ flsR t' v' (List.range 8) ^ mach b v' ^ arr r4 KD ds ^ opsE s ps) (fun z : Bool => z = false) (fun z w hz h => ?_) ?_
    rotate_left
    · refine w_ld (x := t1) h rfl (w_ite (fun c => ?_) fun _ => ?_)
      · exfalso
        have c : ((t1.len : Nat) : Int) > 1 := of_decide_eq_true c
        omega
      · refine w_ite (fun c => ?_) fun c => ?_
        · have c : e ≠ 0 := by simpa using c
          have ho := a2 c
          rw [ho] at l1 l2 l3
          refine w_ld (x := t1) h rfl (w_ld (x := t2) h rfl (w_ite (fun c => ?_) fun _ => ?_))
          · rw [l1, l2] at c; exact absurd c (by decide)
          · refine w_ld (x := t2) h rfl (w_ld (x := t3) h rfl ⟨?_, h⟩)
            rw [l2, l3]; rfl
        · refine w_ld (x := t2) h rfl (w_ld (x := t3) h rfl ⟨?_, h⟩)
          rw [l2, l3, a3]; simp
    rw [hz]
    refine w_ite (fun c => (by cases c)) fun _ => w_ld (x := t1) h rfl ?_
    refine w_loop (fun _ : Int => blk n10 (sl8 t) ^ blk n16 (sl8 t') ^ blk n14 (Ks.mk KOu (t1, t2, t3, t4)) ^ arr t1 KS o.dep ^ arr t2 KS o.dr ^ flsR t v (List.range 8) ^ flsR t' v' (List.range 8) ^ mach b v' ^ arr r4 KD ds ^ opsE s ps) (fun z : Int => 0 ≤ z ∧ z ≤ 8) (fun z : Int => (8 - z).toNat) h (by decide) ?_
    rintro (z : Int) w hzr h
    refine w_ite (fun c => ?_) fun c => ?_
    rotate_left
    · have w1 : IntKind.i64.wrap (y.1 + ((t1.len : Nat) : Int)) = y.1 + ((t1.len : Nat) : Int) := by
        have := tb_r hbk 8 (by omega)
        exact wi (by omega) (by omega)
      rw [w1, hwi]
      refine next (y.1 + ((t1.len : Nat) : Int), y.2 + 1) v' w ⟨⟨by show 0 ≤ y.2 + 1; omega, by show y.2 + 1 ≤ 90; omega⟩, hv', ?_, ?_, by show y.1 + ((t1.len : Nat) : Int) ≤ y.2 + 1; omega⟩ h.fin (by show (90 - (y.2 + 1)).toNat < (90 - y.2).toNat; omega)
      · show BkL ((y.2 + 1) * 2147483648) v'.l v'.q.fl
        exact hb'.le (by omega)
      · show y.1 + ((t1.len : Nat) : Int) = tb v'.l 8
        rw [a5, hacc, l1]
    have c : z < 8 := of_decide_eq_true c
    obtain ⟨j, hj⟩ : ∃ j : Nat, z = (j : Int) := ⟨z.toNat, by omega⟩
    have hj8 : j < 8 := by omega
    have hzj : z.toNat = j := by omega
    have hzw : IntKind.i64.wrap (z + 1) = z + 1 := wi (by omega) (by omega)
    haveI rd1 := rd_fls t v hj8
    haveI rd2 := rd_fls t' v' hj8
    have lo := (h.rd (s := t j)).2
    have ln := (h.rd (s := t' j)).2
    have bo := sg_le hv.q hj8
    have bn := sg_le hv'.q hj8
    have step : ∀ w : World, Own w0 S R w (blk n10 (sl8 t) ^ blk n16 (sl8 t') ^ blk n14 (Ks.mk KOu (t1, t2, t3, t4)) ^ arr t1 KS o.dep ^ arr t2 KS o.dr ^ flsR t v (List.range 8) ^ flsR t' v' (List.range 8) ^ mach b v' ^ arr r4 KD ds ^ opsE s ps) → ((0 ≤ z + 1 ∧ z + 1 ≤ 8) ∧ Own w0 S R w (blk n10 (sl8 t) ^ blk n16 (sl8 t') ^ blk n14 (Ks.mk KOu (t1, t2, t3, t4)) ^ arr t1 KS o.dep ^ arr t2 KS o.dr ^ flsR t v (List.range 8) ^ flsR t' v' (List.range 8) ^ mach b v' ^ arr r4 KD ds ^ opsE s ps)) ∧ (8 - (z + 1)).toNat < (8 - z).toNat := fun w h => ⟨⟨⟨by omega, by omega⟩, h⟩, by omega⟩
    rw [hzw]
    refine ⟨by omega, ?_⟩
    rw [hzj]
    refine w_ld (x := t j) h (sl8_at t hj8) ?_
    rcases a4 j hj8 with ⟨x, hx1, hx2, hx3⟩ | ⟨m1, m2, m3⟩
    · have l1 : t1.len = 1 := by rw [l1, hx1]; rfl
      have hd0 : o.dep[0]? = some x := by rw [hx1]; rfl
      have hdl : (0 : Int).toNat < o.dep.length := by rw [hx1]; show 0 < 1; decide
      refine w_join h (fun _ => blk n10 (sl8 t) ^ blk n16 (sl8 t') ^ blk n14 (Ks.mk KOu (t1, t2, t3, t4)) ^ arr t1 KS o.dep ^ arr t2 KS o.dr ^ flsR t v (List.range 8) ^ flsR t' v' (List.range 8) ^ mach b v' ^ arr r4 KD ds ^ opsE s ps) (fun g : Bool => g = true) (fun g w hg h => ?_) ?_
      rotate_left
      · refine w_ld (x := t1) h rfl (w_ite (fun _ => ?_) fun c => (by rw [l1] at c; cases c))
        refine w_ld (x := t1) h rfl (w_idx (s := t1) h (by decide) hdl (w_ldA h t1 0 0 x hd0 rfl (by decide) (x := sK x) rfl ⟨?_, h⟩))
        rw [hx2, hj]; simp
      rw [hg]
      refine w_ite (fun _ => ?_) fun c => (by cases c)
      refine w_join h (fun _ => blk n10 (sl8 t) ^ blk n16 (sl8 t') ^ blk n14 (Ks.mk KOu (t1, t2, t3, t4)) ^ arr t1 KS o.dep ^ arr t2 KS o.dr ^ flsR t v (List.range 8) ^ flsR t' v' (List.range 8) ^ mach b v' ^ arr r4 KD ds ^ opsE s ps) (fun g : Bool => g = false) (fun g w hg h => ?_) ?_
      · rw [hg]
        exact w_ite (fun c => (by cases c)) fun _ => step w h
      have lo2 : (t j).len = (sgO (v'.q.fl j)).length + 1 := by rw [lo, hx3]; rfl
      have ho0 : (sgO (v.q.fl j))[0]? = some x := by rw [hx3]; rfl
      have hol : (0 : Int).toNat < (sgO (v.q.fl j)).length := by rw [hx3]; show 0 < _ + 1; omega
      refine w_drw h fun w h => w_ite (fun c => ?_) fun _ => ?_
      · exfalso; rw [lo2] at c; simp at c; omega
      refine w_idx (s := t j) h (by decide) hol (w_ld (x := t1) h rfl (w_ldE h (t j) 0 (y := x) ho0 rfl ?_))
      refine w_idx (s := t1) h (by decide) hdl (w_ldE h t1 0 (y := x) hd0 rfl (w_ite (fun c => (by simp at c)) fun _ => ⟨by omega, ?_⟩))
      refine w_ld (x := t' j) h (sl8_at t' hj8) ?_
      refine w_slcR (s := t j) h (htn j hj8).1 1 (t j).len (t j).cap rfl rfl rfl rfl (by omega) (by omega) (htn j hj8).2 (Nat.le_refl _) fun _ hrd => ?_
      haveI := hrd
      refine w_chk h (sl8_chk t' hj8) ?_
      refine w_plain h (by omega) ?_ fun w h => ⟨rfl, h⟩
      rw [List.take_of_length_le (by omega), hx3]; rfl
    · refine w_join h (fun _ => blk n10 (sl8 t) ^ blk n16 (sl8 t') ^ blk n14 (Ks.mk KOu (t1, t2, t3, t4)) ^ arr t1 KS o.dep ^ arr t2 KS o.dr ^ flsR t v (List.range 8) ^ flsR t' v' (List.range 8) ^ mach b v' ^ arr r4 KD ds ^ opsE s ps) (fun g : Bool => g = false) (fun g w hg h => ?_) ?_
      rotate_left
      · refine w_ld (x := t1) h rfl (w_ite (fun c => ?_) fun _ => ⟨rfl, h⟩)
        have c : t1.len = 1 := by have c : ((t1.len : Nat) : Int) = 1 := by simpa using c
                                  omega
        obtain ⟨x, hx1⟩ : ∃ x, o.dep = [x] := List.length_eq_one_iff.1 (by omega)
        have hd0 : o.dep[0]? = some x := by rw [hx1]; rfl
        have hdl : (0 : Int).toNat < o.dep.length := by rw [hx1]; show 0 < 1; decide
        have hne := m1 x hx1
        refine w_ld (x := t1) h rfl (w_idx (s := t1) h (by decide) hdl (w_ldA h t1 0 0 x hd0 rfl (by decide) (x := sK x) rfl ⟨?_, h⟩))
        show (sK x == z) = false
        rw [beq_eq_false_iff_ne, hj]; exact hne
      rw [hg]
      refine w_ite (fun c => (by cases c)) fun _ => ?_
      refine w_join h (fun _ => blk n10 (sl8 t) ^ blk n16 (sl8 t') ^ blk n14 (Ks.mk KOu (t1, t2, t3, t4)) ^ arr t1 KS o.dep ^ arr t2 KS o.dr ^ flsR t v (List.range 8) ^ flsR t' v' (List.range 8) ^ mach b v' ^ arr r4 KD ds ^ opsE s ps) (fun g : Bool => g = true ↔ (e = 0 ∧ dK (deedF p.1) = 9 ∧ dS (deedF p.1) = (j : Int))) (fun g w hg h => ?_) ?_
      rotate_left
      · refine w_ite (fun c => ?_) fun c => ?_
        · have c : e = 0 := by simpa using c
          refine w_idx (s := r4) h hir.1 hlt (w_ldA h r4 y.2.toNat 0 (deedF p.1) hdm rfl (by decide) (x := dK (deedF p.1)) rfl (w_ite (fun c9 => ?_) fun c9 => ?_))
          · have c9 : dK (deedF p.1) = 9 := by simpa using c9
            refine w_idx (s := r4) h hir.1 hlt (w_ldA h r4 y.2.toNat 1 (deedF p.1) hdm rfl (by decide) (x := dS (deedF p.1)) rfl ⟨?_, h⟩)
            show (dS (deedF p.1) == z) = true ↔ _
            rw [beq_iff_eq, hj]
            exact ⟨fun x => ⟨c, c9, x⟩, fun x => x.2.2⟩
          · have c9 : ¬ dK (deedF p.1) = 9 := by simpa using c9
            exact ⟨⟨fun x => (by cases x), fun x => absurd x.2.1 c9⟩, h⟩
        · have c : ¬ e = 0 := by simpa using c
          exact ⟨⟨fun x => (by cases x), fun x => absurd x.1 c⟩, h⟩
      refine w_ite (fun c => ?_) fun c => ?_
      · obtain ⟨q1, q2, q3⟩ := hg.1 c
        obtain ⟨u1, u2⟩ := m2 q1 q2 q3
        refine ⟨by omega, w_ld (x := t' j) h (sl8_at t' hj8) (w_ite (fun c => ?_) fun _ => ?_)⟩
        · exfalso; rw [ln, u1] at c; exact absurd c (by decide)
        · refine w_ld (x := t2) h rfl (w_plain h (by rw [u2]; omega) u2 fun w h => ?_)
          exact w_ite (fun c => (by cases c)) fun _ => step w h
      · obtain ⟨tl, htl⟩ := m3 (fun x => by rw [hg.2 x] at c; cases c)
        have hle : (t j).len ≤ (t' j).len := by rw [lo, ln, htl, List.length_append]; omega
        refine ⟨by omega, w_ld (x := t' j) h (sl8_at t' hj8) (w_ite (fun c => ?_) fun _ => ⟨by omega, ?_⟩)⟩
        · exfalso
          have c : ((t' j).len : Int) < ((t j).len : Int) := of_decide_eq_true c
          omega
        · refine w_ld (x := t' j) h (sl8_at t' hj8) ?_
          refine w_slcR (s := t' j) h (htn' j hj8).1 0 (t j).len (t' j).cap rfl rfl rfl rfl (by omega) (by omega) (by have := (htn' j hj8).2; omega) (Nat.le_refl _) fun _ hrd => ?_
          haveI := hrd
          refine w_plain h (by rw [List.length_drop, List.length_take]; omega) ?_ fun w h => ?_
          · rw [List.drop_zero, htl, lo, List.take_left]
          · exact w_ite (fun c => (by cases c)) fun _ => step w h
end EgV

end Go.X
