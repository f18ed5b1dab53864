/- Contracts and plain facts: EgG EgH EgI EgJ EgK EgP EgQ ScW Bld BldT StrLay StrT ScA ScB ScC ScE ScF ScH. -/
import Derived.BigCall
import Derived.BigGuard
import Derived.CallsIn
import Derived.Laws.Externs
import Derived.Lib.AppendStr
import Derived.Lib.Builder
import Derived.Lib.ItoaMem
import Derived.Lib.ItoaNum
import Derived.Lib.LaidTab
import Derived.Lib.Strings
import Derived.Lib.UnsafeStr
import Derived.Lib.Walk
import Derived.Shelf.Strconv.Itoa3
import Derived.WalkKit
import Derived.Test.YtniflenfpbbikaaGreatDoorB0
import Derived.Test.YtniflenfpbbikaaGreatDoorB1
import Derived.Test.YtniflenfpbbikaaGreatDoorB2
import Derived.Test.YtniflenfpbbikaaGreatDoorB3
import Derived.Test.YtniflenfpbbikaaGreatDoorB4
import Derived.Test.YtniflenfpbbikaaGreatDoorB5
import Derived.Test.YtniflenfpbbikaaGreatDoorB6
import Derived.Test.YtniflenfpbbikaaGreatDoorB7
import Derived.Test.YtniflenfpbbikaaGreatDoorB8
import Derived.Test.YtniflenfpbbikaaGreatDoorK
import Derived.Test.YtniflenfpbbikaaGreatDoorF0
import Derived.Test.YtniflenfpbbikaaGreatDoorF1
import Derived.Test.YtniflenfpbbikaaGreatDoorF2
set_option linter.unusedVariables false
set_option linter.unusedSimpArgs false
set_option linter.unusedSectionVars false
namespace Go.X
open Go.Proofs
namespace EgG
open Arith ArithC FqM EgM
class NoS (A:SP):Prop where
 nos:∀ w S R,A.h w S R→∀ k,¬ S k
instance (s:Sl) (K:Ks) (xs:List (Ks.T K)):NoS (rarr s K xs):=⟨fun _ _ _ h=>h.2.1⟩
instance:NoS emp:=⟨fun _ _ _ h=>h.1⟩
instance (A B:SP) [a:NoS A] [b:NoS B]:NoS (A^B):=⟨fun _ _ _ ⟨_,_,_,_,h1,h2,hS,_⟩ k hk=>((hS k).1 hk).elim (a.nos _ _ _ h1 k) (b.nos _ _ _ h2 k)⟩
theorem noS_rl {α:Type} (f:α→SP) (h:∀ x,NoS (f x)):∀ l:List α,NoS (rl f l)
 | []=>by unfold rl;infer_instance
 | x :: l=>by have:=noS_rl f h l;have:=h x;unfold rl;infer_instance
instance {α:Type} (f:α→SP) (l:List α) [h:∀ x,NoS (f x)]:NoS (rl f l):=noS_rl f h l
instance (priority:=300) lend_take (A F G:SP) [t:Take A F G] [n:NoS A]:Lend A F:=⟨fun w S R h=>by
 obtain ⟨S1,R1,S2,R2,h1,h2,hS,hR,_⟩:=t.le w S R h
 have e:S1=fun _=>False:=funext fun k=>eq_false (n.nos _ _ _ h1 k)
 rw [e] at h1
 exact ⟨R1,h1,fun k hk=>.inr ((hR k).2 (.inl hk))⟩⟩
abbrev KR:Ks:=[.int .u64,.int .u64]
abbrev OpE:=Dd × List (Ks.T KR)
abbrev opsE (s:Sl) (ps:List OpE):SP:=rarr s KD (ps.map Prod.fst)^rl (fun p:OpE=>rarr (dR p.1) KR p.2) ps
def deedF (d:Dd):Dd:=(dK d,dS d,(if dL d > 200000 then 200000 else dL d),dU d,dA d,(if (dR d).len > 6 then (dR d).sub 0 6 (dR d).cap 2 else dR d),dC d)
def deedsF (most:Int) (ps:List OpE):List OpE:=(ps.take most.toNat).map fun p=>(deedF p.1,p.2.take 6)
structure OkE (p:OpE):Prop where
 l:-9223372036854775808≤dL p.1∧dL p.1 < 9223372036854775808
 u:U (dU p.1)
 a:U (dA p.1)
 c:0≤cH (dC p.1)∧U (cR (dC p.1))
 n:p.2.length≤9223372036854775807
 cp:(dR p.1).len≤(dR p.1).cap
theorem okE_of {p:OpE} (h:∀ k n,Lf.int k n∈Ks.mk KD p.1→(Lit.int k n).wf=true) (hm:p.2.length≤maxLen) (hc:(dR p.1).len≤(dR p.1).cap):OkE p where
 l:=Wf.i (h .i64 (dL p.1) (List.mem_of_getElem? (i:=2) rfl))
 u:=Wf.u (h .u64 (dU p.1) (List.mem_of_getElem? (i:=3) rfl))
 a:=Wf.u (h .u64 (dA p.1) (List.mem_of_getElem? (i:=4) rfl))
 c:=⟨(Wf.u (h .u64 (cH (dC p.1)) (List.mem_of_getElem? (i:=10) rfl))).1,Wf.u (h .u64 (cR (dC p.1)) (List.mem_of_getElem? (i:=11) rfl))⟩
 n:=hm
 cp:=hc
theorem rd_dR {ps:List OpE} {i:Nat} {o:OpE} (h:ps[i]?=some o):Rd (dR o.1) (rl (fun p:OpE=>rarr (dR p.1) KR p.2) ps) KR o.2:=rd_rl h (rd_rarr _ _ _)
theorem rd_deed (p:OpE) (F:SP) (hc:(dR p.1).len≤(dR p.1).cap) (hl:(dR p.1).len=p.2.length) [t:Rd (dR p.1) F KR p.2]:Rd (dR (deedF p.1)) F KR (p.2.take 6):=by
 show Rd (if (dR p.1).len > 6 then (dR p.1).sub 0 6 (dR p.1).cap 2 else dR p.1) F KR (p.2.take 6)
 by_cases h:(dR p.1).len > 6
 ·rw [if_pos h]
  exact rd_sub (dR p.1) F KR p.2 0 6 (dR p.1).cap (by omega) (by omega) (by omega)
 ·rw [if_neg h,List.take_of_length_le (by omega)];exact t
abbrev zD:List Lf:=[.int .i64 0,.int .i64 0,.int .i64 0,.int .u64 0,.int .u64 0,.sl ⟨none,0,0⟩,.int .i64 0,.int .i64 0,.int .i64 0,.int .i64 0,.int .u64 0,.int .u64 0,.bool false,.int .i64 0,.int .i64 0]
theorem deed_tri (d:Dd) (xs:List (Ks.T KR)) (hc:(dR d).len≤(dR d).cap):Tri Tryz.prog N_canterplay_Deed [.agg (Ks.mk KD d)] [.agg KD] (emp^rarr (dR d) KR xs) (fun r=>pur (r=deedF d) emp) :=
 tri_0 (call_canterplay_Deed d) fun w0 S R h=>by
  unfold W_canterplay_Deed
  have hs:=(h.drop.rd (s:=dR d)).2
  obtain ⟨R',hR'⟩:∃ R',R'=(if (dR d).len > 6 then (dR d).sub 0 6 (dR d).cap 2 else dR d):=⟨_,rfl⟩
  obtain ⟨L',hL'⟩:∃ L',L'=(if dL d > 200000 then 200000 else dL d):=⟨_,rfl⟩
  have e:deedF d=(dK d,dS d,L',dU d,dA d,R',dC d):=by rw [hL',hR'];rfl
  refine w_new h fun n1 w h=>w_new h fun n2 w h=>?_
  have h:Own w0 S R w (blk n1 (Ks.mk KD d)^blk n2 zD^rarr (dR d) KR xs^emp):=h.fin
  refine w_join h (fun _=>blk n1 (Ks.mk KD (dK d,dS d,dL d,dU d,dA d,R',dC d))^blk n2 zD^emp) (fun _=>True) (fun _ w _ h=>?_) ?_
  ·refine w_join h (fun _=>blk n1 (Ks.mk KD (dK d,dS d,L',dU d,dA d,R',dC d))^blk n2 zD^emp) (fun _=>True) (fun _ w _ h=>?_) ?_
   ·refine w_ldAll (b:=n1) (x:=((dK d,dS d,L',dU d,dA d,R',dC d):Dd)) h rfl (w_setAll h (by rfl) fun w h=>w_ldAll (b:=n2) (x:=((dK d,dS d,L',dU d,dA d,R',dC d):Dd)) h rfl ?_)
    exact Own.retP e.symm h.emp'
   ·refine w_ld (x:=dL d) h rfl (w_ite (fun c=>?_) fun c=>?_)
    ·have c:dL d > 200000:=of_decide_eq_true c
     rw [if_pos c] at hL'
     refine w_setTo h n1 (Ks.mk KD (dK d,dS d,L',dU d,dA d,R',dC d)) rfl rfl (by rw [hL'];rfl) fun w h=>?_
     exact ⟨trivial,h.fin⟩
    ·have c:¬ dL d > 200000:=of_decide_eq_false c
     rw [if_neg c] at hL'
     rw [hL']
     exact ⟨trivial,h⟩
  ·refine w_ld (x:=dR d) h rfl (w_ite (fun c=>?_) fun c=>?_)
   ·have c:(((dR d).len:Nat):Int) > 6:=of_decide_eq_true c
    have c2:(dR d).len > 6:=by omega
    rw [if_pos c2] at hR'
    have hN:Nrm (dR d):=Nrm.long (h.rd (s:=dR d)).1 (by omega)
    refine w_ld (x:=dR d) h rfl (w_slcR (K:=KR) (xs:=xs) (s:=dR d) h hN 0 6 (dR d).cap rfl rfl rfl rfl (by omega) (by omega) (by omega) (Nat.le_refl _) fun _ _=>?_)
    rw [← hR']
    refine w_setTo h n1 (Ks.mk KD (dK d,dS d,dL d,dU d,dA d,R',dC d)) rfl rfl rfl fun w h=>?_
    exact ⟨trivial,h.fin⟩
   ·have c:¬ (((dR d).len:Nat):Int) > 6:=of_decide_eq_false c
    have c2:¬ (dR d).len > 6:=by omega
    rw [if_neg c2] at hR'
    rw [hR']
    exact ⟨trivial,h.fin⟩
theorem deeds_tri (s:Sl) (ps:List OpE) (most:Int) (hm:0≤most∧most≤1000) (hp:∀ p∈ps,OkE p):Tri Tryz.prog N_canterplay_Deeds [.lf (.sl s),.lf (.int .i64 most)] [.lf .sl] (emp^opsE s ps) (fun r=>arr r KD ((deedsF most ps).map Prod.fst)) :=
 tri_0 (call_canterplay_Deeds s most) fun w0 S R h=>by
  unfold W_canterplay_Deeds
  have h:Own w0 S R w0 (rarr s KD (ps.map Prod.fst)^rl (fun p:OpE=>rarr (dR p.1) KR p.2) ps^emp):=h.fin
  have hsl:=(h.rd (s:=s)).2
  rw [List.length_map] at hsl
  have h:=h.nil KD
  have h:Own w0 S R w0 (arr ⟨none,0,0⟩ KD ((deedsF 0 ps).map Prod.fst)^rarr s KD (ps.map Prod.fst)^rl (fun p:OpE=>rarr (dR p.1) KR p.2) ps^emp):=h
  refine w_loopE (fun (y:Sl × Int) (_:Unit)=>arr y.1 KD ((deedsF y.2 ps).map Prod.fst)^rarr s KD (ps.map Prod.fst)^rl (fun p:OpE=>rarr (dR p.1) KR p.2) ps^emp) (fun (y:Sl × Int) _=>0≤y.2∧y.2≤most) (fun (y:Sl × Int) _=>(most - y.2).toNat) () h ⟨by decide,hm.1⟩ ?_
  rintro K (y:Sl × Int) _ w ⟨h0,h1⟩ h next
  obtain ⟨r,i⟩:=y
  dsimp only at h0 h1 h ⊢
  refine w_ite (fun c=>?_) fun c=>?_
  ·have c:i < ps.length∧i < most:=by
    have c:(decide (i < ((s.len:Nat):Int)) && decide (i < most))=true:=c
    rw [Bool.and_eq_true,decide_eq_true_eq,decide_eq_true_eq] at c
    omega
   have hi:i.toNat < ps.length:=by omega
   have hwi:IntKind.i64.wrap (i+1)=i+1:=wi (by omega) (by omega)
   have hin:(i+1).toNat=i.toNat+1:=by omega
   obtain ⟨p,hpi⟩:∃ p,ps[i.toNat]?=some p:=⟨_,List.getElem?_eq_getElem hi⟩
   have hpm:(ps.map Prod.fst)[i.toNat]?=some p.1:=by rw [List.getElem?_map,hpi];rfl
   haveI:=rd_dR hpi
   have hO:=hp p (List.mem_of_getElem? hpi)
   refine w_idx (s:=s) h h0 (by rw [List.length_map];exact hi) (w_ldE h s i.toNat hpm rfl ?_)
   refine w_callL (A:=emp) (Q:=rarr (dR p.1) KR p.2) (deed_tri p.1 p.2 hO.cp) (h.le ((star_emp _).trans (star_comm _ _))) fun q w h=>?_
   obtain ⟨hq,h⟩:=h.purP;rw [hq]
   refine w_new h fun n6 w h=>?_
   have h:=h.blkArr n6 KD [deedF p.1] rfl (by simp)
   have h:Own w0 S R w (arr ⟨some ⟨n6,0⟩,1,1⟩ KD [deedF p.1]^_):=h
   have hlen:((deedsF i ps).map Prod.fst).length≤i.toNat:=by rw [List.length_map,deedsF,List.length_map,List.length_take];omega
   refine w_app (K:=KD) (s:=r) (xs:=(deedsF i ps).map Prod.fst) h rfl (by simp only [List.length_singleton];omega) fun s' w _ h=>?_
   have e:(deedsF i ps).map Prod.fst++[deedF p.1]=(deedsF (i+1) ps).map Prod.fst:=by
    unfold deedsF
    rw [hin,List.take_add_one,hpi,List.map_append,List.map_append];rfl
   rw [e] at h
   rw [hwi]
   exact next (s',i+1) () w ⟨by show 0≤i+1;omega,by show i+1≤most;omega⟩ h.fin (by show (most - (i+1)).toNat < (most - i).toNat;omega)
  ·have e:deedsF i ps=deedsF most ps:=by
    unfold deedsF
    have c:¬ (i < ps.length∧i < most):=fun hh=>by
     have c:(decide (i < ((s.len:Nat):Int)) && decide (i < most))=false:=c
     rw [decide_eq_true (by omega),decide_eq_true hh.2] at c;cases c
    by_cases h2:i < most
    ·rw [List.take_of_length_le (by omega:ps.length≤i.toNat),List.take_of_length_le (by omega:ps.length≤most.toNat)]
    ·rw [show i=most by omega]
   rw [e] at h
   exact h.fin
end EgG

namespace EgH
open Arith ArithC TreeF FqM FqC SockC EgM EgA EgB EgC EgD EgE EgF
open SockM (Sk emitS doneS writeS loseS newS skFl skTso mayS)
open SockO (IvS)
open SockV (IvB)
theorem pump_ok {k:Int} {v:Mc} (hv:OkMc k v) {i:Nat} (hi:i < 8) {x:Sk} (hx:IvB k x) (hid:x.id=(i:Int)) (o:Ou):OkMc k (pumpM v i x o).2:=by
 have h:=pumpN_ok hv.un (fresh x+1) ⟨x,v.q,v.l,o⟩ (⟨hx,hid,hv.q⟩:OkPm k i ⟨x,v.q,v.l,o⟩)
 have h2:=upS_ok hv hi (x:=(pumpF i v.now ⟨x,v.q,v.l,o⟩).v) h.v h.id
 exact { h2 with q:=h.q }
theorem shut_ok {k:Int} {v:Mc} (hv:OkMc k v) (i:Nat) (o:Ou):OkMc k (shutM v i o).2:=by
 have h:=upN_ok hv i
 exact { h with q:=hv.q.close _ }
theorem pull_ok {k:Int} {v:Mc} (hv:OkMc k v) (o:Ou):OkMc k (pullF v o).2:=by
 have h:=FqN.deq_ok hv.q hv.un (rates_U hv)
 unfold pullF
 split
 ·rename_i s q e;rw [e] at h;exact { hv with q:=h }
 ·rename_i q e;rw [e] at h;exact { hv with q:=h }
theorem set_ok {k:Int} {v:Mc} (hv:OkMc k v) {c:Cf} (hc:0≤cH c∧U (cR c)):OkMc k (setM v c).2:=by
 have h:=hv.q.set hc
 unfold setM
 split
 ·rename_i h0
  refine { hv with q:=h,c:=?_ }
  unfold setF at h0
  by_cases hm:may c=true
  ·exact may_ok hm hc.1 hc.2
  ·rw [if_neg hm] at h0;cases h0
 ·exact { hv with q:=h }
theorem one_ok {k:Int} {v:Mc} (hv:OkMc k v) (hk:k < 1000000) (d:Dd) (xs:List (Int × Int)) (o:Ou):OkMc (k+1) (oneM v d xs o).2.2:=by
 have h1:=OkMc_le hv (j:=k+1) (by omega) (by omega)
 have hc:=hv.c.cap
 unfold oneM
 split
 ·exact h1
 ·rename_i hi
  have hi:0≤dS d∧dS d < 8:=Classical.not_not.1 hi
  have hi8:(dS d).toNat < 8:=by omega
  split
  ·split
   ·have hn:=SockV.new_ivB (dS d) (cMss v.c) (cCap v.c) ⟨by omega,by omega⟩
    exact upS_ok h1 hi8 (ivB_le hn h1.kr.1 (by omega)) (by show dS d=_;omega)
   ·exact h1
  ·rename_i x hx
   obtain ⟨hxi,hxd,_⟩:=hv.so _ x hx
   split
   ·exact h1
   ·split
    ·exact shut_ok h1 _ _
    ·obtain ⟨a,b⟩:=told_ok hxi hk hv.un d xs
     split
     ·exact pump_ok h1 hi8 a (b.trans hxd) o
     ·exact upS_ok h1 hi8 a (b.trans hxd)
theorem do_ok {k:Int} {v:Mc} (hv:OkMc k v) (hk:k < 1000000) {d:Dd} (hd:OkD d) (xs:List (Int × Int)):OkMc (k+1) (doF v d xs).2:=by
 have h1:=OkMc_le hv (j:=k+1) (by omega) (by omega)
 have e:(doF v d xs).2=(stepM v d xs).2.2:=by unfold doF;split<;>rfl
 rw [e]
 unfold stepM
 split
 ·have hn:=hv.now
  have ha:=hd.a
  unfold U at ha
  refine { h1 with now:=?_ }
  show 0≤(moveF v.now (dA d)).2∧(moveF v.now (dA d)).2≤4611686018427387904
  unfold moveF
  split
  ·exact hn
  ·split
   ·exact hn
   ·exact ⟨ha.1,by show dA d≤_;omega⟩
 ·split
  ·exact pull_ok h1 _
  ·split
   ·exact set_ok h1 hd.c
   ·split
    ·exact one_ok hv hk d xs ou0
    ·exact h1
theorem new_ok {c:Cf} (hc:OkC c):OkMc 0 (newM c) where
 c:=hc
 now:=by show (0:Int)≤0∧(0:Int)≤4611686018427387904;decide
 q:=OkQ.new hc
 so:=fun i x h=>by cases h
 kr:=by decide
abbrev plainC:Cf:=(3000,15000,100,50,10000000000,0,false,100000,1000)
theorem outs_tri (a b:Ks.T KOu) (x y:Ou) (hx:x.dep.length≤4294967296∧x.dr.length≤4294967296∧x.ft.length≤4294967296) (ha:a.2.2.2=x.wd) (hb:b.2.2.2=y.wd):Tri Tryz.prog N_canterhelp_Out [.agg (Ks.mk KOu a),.agg (Ks.mk KOu b)] [.lf .bool]
  (emp^((rarr a.1 KS x.dep^rarr a.2.1 KS x.dr^rarr a.2.2.1 KI x.ft)^rarr b.1 KS y.dep^rarr b.2.1 KS y.dr^rarr b.2.2.1 KI y.ft)) (fun r=>pur (r=true↔x=y) emp) :=
 tri_0 (call_canterhelp_Out a b) fun w0 S R h=>by
  unfold W_canterhelp_Out
  have hxy:x=y↔x.dep=y.dep∧x.dr=y.dr∧x.ft=y.ft∧x.wd=y.wd:=by
   cases x;cases y;simp
  refine w_new h fun n1 w h=>w_new h fun n2 w h=>w_ld (x:=a.1) h rfl (w_ld (x:=b.1) h rfl ?_)
  have h:Own w0 S R w (emp^rarr a.1 KS x.dep^rarr b.1 KS y.dep^rarr a.2.1 KS x.dr^rarr b.2.1 KS y.dr^rarr a.2.2.1 KI x.ft^rarr b.2.2.1 KI y.ft^blk n1 (Ks.mk KOu a)^blk n2 (Ks.mk KOu b)^emp):=h.fin
  refine w_callL (A:=emp) (Q:=rarr a.1 KS x.dep^rarr b.1 KS y.dep) (Segs.seg_plain_tri a.1 b.1 x.dep y.dep hx.1) h fun r w h=>?_
  obtain ⟨h1,h⟩:=h.purP
  refine w_ite (fun c=>?_) fun c=>?_
  ·refine w_ld (x:=a.2.1) h rfl (w_ld (x:=b.2.1) h rfl ?_)
   refine w_callL (A:=emp) (Q:=rarr a.2.1 KS x.dr^rarr b.2.1 KS y.dr) (Segs.seg_plain_tri a.2.1 b.2.1 x.dr y.dr hx.2.1) h fun r w h=>?_
   obtain ⟨h2,h⟩:=h.purP
   refine w_ite (fun c2=>?_) fun c2=>?_
   ·refine w_ld (x:=a.2.2.1) h rfl (w_ld (x:=b.2.2.1) h rfl ?_)
    refine w_callL (A:=emp) (Q:=rarr a.2.2.1 KI x.ft^rarr b.2.2.1 KI y.ft) (Ints.int_plain_tri a.2.2.1 b.2.2.1 x.ft y.ft hx.2.2) h fun r w h=>?_
    obtain ⟨h3,h⟩:=h.purP
    refine w_ite (fun c3=>?_) fun c3=>?_
    ·refine w_ld (x:=a.2.2.2) h rfl (w_ld (x:=b.2.2.2) h rfl ?_)
     refine Own.retP ?_ h.emp'
     rw [hxy,ha,hb,beq_iff_eq]
     exact ⟨fun e=>⟨h1.1 c,h2.1 c2,h3.1 c3,e⟩,fun e=>e.2.2.2⟩
    ·exact Own.retP ⟨fun e=>(by cases e),fun e=>(by rw [h3.2 (hxy.1 e).2.2.1] at c3;cases c3)⟩ h.emp'
   ·exact Own.retP ⟨fun e=>(by cases e),fun e=>(by rw [h2.2 (hxy.1 e).2.1] at c2;cases c2)⟩ h.emp'
  ·exact Own.retP ⟨fun e=>(by cases e),fun e=>(by rw [h1.2 (hxy.1 e).1] at c;cases c)⟩ h.emp'
end EgH

namespace EgI
open Arith ArithC TreeF FqM FqC SockC EgM EgA EgB EgC EgD EgE EgF EgG EgH
open SockM (Sk emitS doneS writeS loseS newS skFl skTso mayS)
theorem deedF_ok {p:OpE} (h:OkE p):OkD (deedF p.1) where
 l:=by
  show (if dL p.1 > 200000 then 200000 else dL p.1) < 9223372036854775808
  split<;>omega
 u:=h.u
 a:=h.a
 c:=h.c
end EgI

namespace EgJ
open Arith ArithC TreeF FqM FqC SockC EgM EgA EgB EgC EgD EgE EgF EgG EgH EgI
open SockM (Sk emitS doneS writeS loseS newS skFl skTso mayS)
open SockO (IvS)
open SockV (IvB)
abbrev b0 (c:Ct):Int:=c.2.1
abbrev b1 (c:Ct):Int:=c.2.2.1
abbrev b2 (c:Ct):Int:=c.2.2.2.1
abbrev b3 (c:Ct):Int:=c.2.2.2.2.1
abbrev b4 (c:Ct):Int:=c.2.2.2.2.2.1
abbrev b5 (c:Ct):Int:=c.2.2.2.2.2.2.1
end EgJ

namespace EgK
open Arith ArithC TreeF FqM FqC SockC EgM EgA EgB EgC EgD EgE EgF EgG EgH EgI EgJ
open SockM (Sk emitS doneS writeS loseS newS skFl skTso mayS)
section
variable {w0 w : World} {S R : Nat → Prop}
end
abbrev c8 (c:Ct):List Int:=[c.1,b0 c,b1 c,b2 c,b3 c,b4 c,b5 c,cWt c]
end EgK

namespace EgP
open Arith ArithC TreeF FqM FqC SockC EgM EgA EgB EgC EgD EgE EgF EgG EgH EgI EgJ EgK
open SockM (Sk emitS doneS writeS loseS newS skFl skTso mayS)
section
variable {w0 w : World} {S R : Nat → Prop}
end
def fill {α:Type} (f:Nat→α) (z:α) (y:Nat):List α:=[if 0 < y then f 0 else z,if 1 < y then f 1 else z,if 2 < y then f 2 else z,if 3 < y then f 3 else z,if 4 < y then f 4 else z,if 5 < y then f 5 else z,if 6 < y then f 6 else z,if 7 < y then f 7 else z]
abbrev fC (v:Mc) (j:Nat):Ks.T KCt:=countL v.l (j:Int)
end EgP

namespace EgQ
open Arith ArithC TreeF FqM FqC SockC EgM EgA EgB EgC EgD EgE EgF EgG EgH EgI EgJ EgK
open SockM (Sk emitS doneS writeS loseS newS skFl skTso mayS)
abbrev d0:Dd:=(0,0,0,0,0,⟨none,0,0⟩,0,0,0,0,0,0,false,0,0)
abbrev pAt (ps:List OpE) (j:Nat):OpE:=ps.getD j (d0,[])
def runM (v:Mc) (ps:List OpE):Nat→Mc
 | 0=>v
 | j+1=>(doF (runM v ps j) (pAt ps j).1 (pAt ps j).2).2
def errsM (v:Mc) (ps:List OpE):Nat→List Int
 | 0=>[]
 | j+1=>errsM v ps j++[(doF (runM v ps j) (pAt ps j).1 (pAt ps j).2).1.2]
theorem errs_len (v:Mc) (ps:List OpE):∀ j,(errsM v ps j).length=j
 | 0=>rfl
 | j+1=>by show (errsM v ps j++[_]).length=_;rw [List.length_append,errs_len v ps j];rfl
theorem runM_ok {c:Cf} (hc:OkC c) {ps:List OpE} (hd:∀ p∈ps,OkD p.1):∀ j:Nat,j≤1000→j≤ps.length→OkMc (j:Int) (runM (newM c) ps j)
 | 0,_,_=>new_ok hc
 | j+1,h1,h2=>by
  have hj:pAt ps j=ps[j]:=by unfold pAt;rw [List.getD_eq_getElem?_getD,List.getElem?_eq_getElem (by omega)];rfl
  have:=do_ok (runM_ok hc hd j (by omega) (by omega)) (by omega) (hd (pAt ps j) (by rw [hj];exact List.getElem_mem _)) (pAt ps j).2
  rw [show (j:Int)+1=((j+1:Nat):Int) by omega] at this
  exact this
end EgQ

namespace ScW
section
variable {w0 w : World} {S0 R0 : Nat → Prop} {F G : SP}
theorem w_req {p:Prop} {A:WP} (hp:p) (k:A w):req p A w:=⟨hp,k⟩
end
end ScW

set_option maxRecDepth 100000
namespace Bld
open Go.RowKit
abbrev tB:TypeId:=72
abbrev tE:TypeId:=5
theorem app_own {P:Program} {w:World} {t u ty e:TypeId} {i:TypeInfo} (ht:P.underlying t=some (.slice e)) (hu:P.underlying u=some .string) (hi:P.info? e=some i) (hz:i.zero=some (.int .u8 0)) (hsize:i.size=1) (hby:i.bytes=1)
  {v:Value} {n:Nat} {xs:List Value} (hown:w.ownsRow 0 e 1 v n xs) {s:ByteArray} (hb:n+s.size≤140737488355328) {v':Value} {w':World}
  (hr:(Builtin.append_ #[t,u] ty #[v,.string s]).run P w=.ok v' w') (hnil:v'=.slice none 0 0↔v=.slice none 0 0∧s.size=0):∀ k,v'.ownBlock=some k→v.ownBlock=some k∨w.heap.size≤k:=by
 have hxl:xs.length=n:=by simpa using hown.1
 rcases hown.2 with ⟨rfl,rfl⟩ | ⟨g,cap,cur,rfl,hbg,hg,hnc,hcm,hcs,htake⟩
 ·by_cases h0:s.size=0
  ·rw [hnil.2 ⟨rfl,h0⟩]
   intro k hk
   cases hk
  ·have h:=run_append_nil_string (P:=P) w t u ty e i (.int .u8 0) ht hu hi hz s (by omega) (by omega) (by rw [hby];omega)
   rw [h] at hr
   injection hr with h1 _
   rw [← h1]
   intro k hk
   simp only [Value.ownBlock,Option.some.injEq] at hk
   exact .inr (by omega)
 ·by_cases hroom:n+s.size≤cap
  ·have h:=Lib.run_append_room_string (P:=P) w t u ty e i ht hu hi hsize g n cap cur hg s hroom (by omega)
   rw [h] at hr
   injection hr with h1 _
   rw [← h1]
   exact fun k hk=>.inl hk
  ·have h:=Lib.run_append_grow_string (P:=P) w t u ty e i (.int .u8 0) ht hu hi hz ⟨g,0,none⟩ n cap xs (by rw [hsize];simpa using hxl) (hown.cells (g:=g) rfl) s (by omega) (by omega) (by rw [hby];exact growslice_fits (by omega) (by omega))
   rw [h] at hr
   injection hr with h1 _
   rw [← h1]
   intro k hk
   simp only [Value.ownBlock,Option.some.injEq] at hk
   exact .inr (by omega)
theorem wpl_app {P:Program} {w:World} {ops:Array Oper} {rest:List Oper} {o:Oper} {a:Act} {Q:Exit→Act→World→Prop} (hgd:o.guard=none) (sl x:Operand) (t u:TypeId)
  (ho:o.op=.call { callee:=.builtin .append,args:=#[sl,x],argTypes:=#[t,u] })
  (e:TypeId) (i:TypeInfo) (ht:P.underlying t=some (.slice e)) (hu:P.underlying u=some .string) (hi:P.info? e=some i) (hz:i.zero=some (.int .u8 0))
  (hsize:i.size=1) (hby:i.bytes=1)
  (v:Value) (n:Nat) (xs:List Value) (hs:a.eval sl=v) (hown:w.ownsRow 0 e 1 v n xs) (s:ByteArray) (hx:a.eval x=.string s)
  (hb:n+s.size≤140737488355328)
  (h:∀ v' w',w'.ownsRow 0 e 1 v' (n+s.size) (xs++Lib.strCells s)→w.grownBy w' v.ownBlock→(∀ k,v'.ownBlock=some k→v.ownBlock=some k∨w.heap.size≤k)→(v'=.slice none 0 0↔v=.slice none 0 0∧s.size=0)→wpList P ops Q rest (a.put o.dst v') w'):wpList P ops Q (o :: rest) a w:=by
 refine wpList_plain hgd fun K hK=>?_
 obtain ⟨v',w',hr,h2,h3,h4⟩:=Lib.run_append_own_string (P:=P) w 0 t u o.type e i ht hu hi hz hsize hby v n xs hown s (by unfold maxLen;omega) hb (Nat.zero_le _)
 have h5:=app_own ht hu hi hz hsize hby hown hb hr h4
 unfold Oper.wp execOp
 simp only [ho,resolve,invoke,builtin,Sem.run_bind,Sem.run_pure,Result.andThen_ok,List.map_toArray,List.map_cons,List.map_nil,hs,hx,hr]
 exact hK _ _ (h v' w' h2 h3 h5 h4)
theorem uB:Tryz.prog.underlying 70=some (.pointer tB):=by kernel_rfl
theorem uU:Tryz.prog.underlying 179=some .unsafePointer:=by kernel_rfl
theorem uS:Tryz.prog.underlying 42=some (.slice tE):=by kernel_rfl
theorem uT:Tryz.prog.underlying 9=some .string:=by kernel_rfl
theorem cc_used (b:Nat) (w:World) (h0:w.cell? ⟨b,0,none⟩=some (.pointer (some ⟨b,0,none⟩))) :
  Calls Tryz.prog 53 #[.pointer (some ⟨b,0,none⟩)] w fun e w'=>e=.returned (.tuple #[])∧w'=w:=by
 obtain ⟨j,hj⟩:=Option.isSome_iff_exists.1 (show (Tryz.prog.info? tB).isSome=true by kernel_rfl)
 go_enter Tryz.func53,Tryz.ntmps53
 go_wp2
 rw [Lib.run_neq_ptr_same w _ uB hj]
 go_wp2
 go_end0
 exact ⟨rfl,rfl⟩
theorem cc_fresh (b:Nat) (w:World) (h0:w.cell? ⟨b,0,none⟩=some (.pointer none)) (hsh:w.shape? b=some (tB,2)) (hfz:w.frozen? ⟨b,0,none⟩=false) :
  Calls Tryz.prog 53 #[.pointer (some ⟨b,0,none⟩)] w fun e w'=>e=.returned (.tuple #[])∧w'=w.setCell ⟨b,0,none⟩ (.pointer (some ⟨b,0,none⟩)):=by
 obtain ⟨j,hj,hs⟩:=Option.map_eq_some_iff.1 (show (Tryz.prog.info? tB).map (·.size)=some 2 by kernel_rfl)
 go_enter Tryz.func53,Tryz.ntmps53
 go_wp2
 rw [Lib.run_to_unsafe w ⟨b,0,none⟩ uB uU hj (by rw [hs];decide) hsh (Nat.zero_lt_succ 1)]
 simp only [Result.andThen]
 rw [Oper.upon_value]
 go_wp2
 rw [run_callFunc_extern Tryz.func81 (by kernel_rfl) (by kernel_rfl) (by kernel_rfl) (e:=Extern.AbiNoEscape.same) (by kernel_rfl)]
 rw [Lib.run_noEscape]
 simp only [Result.andThen]
 rw [Oper.upon_value]
 go_wp2
 rw [Lib.run_from_unsafe w ⟨b,0,none⟩ uU uB hj hsh (by kernel_rfl)]
 simp only [Result.andThen]
 rw [Oper.upon_value]
 go_wp2
 go_end0
 exact ⟨rfl,rfl⟩
def At (b:Nat) (l:List UInt8) (w:World) (S:Nat→Prop):Prop :=
 ∃ p v,(p=.pointer none∨p=.pointer (some ⟨b,0,none⟩))∧w.heap[b]?=some (.cells #[p,v] tB (0,0))∧w.ownsRow 0 tE 1 v l.length (Lib.byteCells l)∧v.ownBlock≠some b∧(∀ k,S k↔k=b∨v.ownBlock=some k)∧(l=[]→v=.slice none 0 0)
theorem At.cells {b:Nat} {l:List UInt8} {w:World} {S:Nat→Prop} (h:At b l w S) {k:Nat} (hk:S k):∃ c t,w.heap[k]?=some (.cells c t (0,0)):=by
 obtain ⟨p,v,hp,hb,ho,hn,hS,hz⟩:=h
 rcases (hS k).1 hk with rfl | hk
 ·exact ⟨_,_,hb⟩
 ·rcases ho.2 with ⟨rfl,_⟩ | ⟨g,cap,cur,rfl,_,hg,_⟩
  ·cases hk
  ·simp only [Value.ownBlock,Option.some.injEq] at hk
   exact ⟨_,_,hk ▸ hg⟩
theorem At.ext {b:Nat} {l:List UInt8} {w w':World} {S:Nat→Prop} (h:At b l w S) (os:w'.os=w.os) (tape:w'.tape=w.tape) (output:w'.output=w.output) (size:w.heap.size≤w'.heap.size) (same:∀ k,k < w.heap.size→¬ S k→w'.heap[k]?=w.heap[k]?):Ext S w w' :=
 ⟨os,tape,output,size,same,fun k hk=>by
  by_cases hs:S k
  ·obtain ⟨c,t,e⟩:=h.cells hs
   rw [e] at hk;cases hk
  ·rw [same k (Array.getElem?_eq_some_iff.1 hk).1 hs];exact hk⟩
theorem cc (b:Nat) (l:List UInt8) (w:World) (S:Nat→Prop) (h:At b l w S):Calls Tryz.prog 53 #[.pointer (some ⟨b,0,none⟩)] w fun e w'=>e=.returned (.tuple #[])∧(∃ v,w'.heap[b]?=some (.cells #[.pointer (some ⟨b,0,none⟩),v] tB (0,0))∧w'.ownsRow 0 tE 1 v l.length (Lib.byteCells l)∧v.ownBlock≠some b∧(∀ k,S k↔k=b∨v.ownBlock=some k)∧(l=[]→v=.slice none 0 0))∧w.grownBy w' (some b)∧w'.heap.size=w.heap.size:=by
 obtain ⟨p,v,hp,hb,ho,hn,hS,hz⟩:=h
 have c0:w.cell? ⟨b,0,none⟩=some p:=by rw [Lib.cell_of_heap hb];rfl
 rcases hp with rfl | rfl
 ·refine (cc_fresh b w c0 (by simp [World.shape?,hb]) (Lib.frozen_of_heap hb 0)).mono ?_
  rintro e w' ⟨rfl,rfl⟩
  have hg:w.grownBy (w.setCell ⟨b,0,none⟩ (.pointer (some ⟨b,0,none⟩))) (some b):=⟨rfl,rfl,rfl,by simp [World.setCell],fun k _ hk=>Below.heap_setCell _ _ _ _ (fun e=>hk (by simp [e]))⟩
  refine ⟨rfl,⟨v,?_,ho.kept hg (.inr hn),hn,hS,hz⟩,hg,by simp [World.setCell]⟩
  simp [World.setCell,Array.getElem?_modify,hb]
 ·refine (cc_used b w c0).mono ?_
  rintro e w' ⟨rfl,rfl⟩
  exact ⟨rfl,⟨v,hb,ho,hn,hS,hz⟩,⟨rfl,rfl,rfl,Nat.le_refl _,fun _ _ _=>rfl⟩,rfl⟩
theorem ws (b:Nat) (l:List UInt8) (s:ByteArray) (w:World) (S:Nat→Prop) (h:At b l w S) (hlen:l.length+s.size≤140737488355328) :
  Calls Tryz.prog 31 #[.pointer (some ⟨b,0,none⟩),.string s] w fun e w'=>e=.returned (.tuple #[.int .i64 s.size,.nilIface])∧∃ S',At b (l++s.data.toList) w' S'∧(∀ k,S' k→S k∨w.heap.size≤k)∧Ext S w w':=by
 obtain ⟨i0,hi,hzz⟩:=Option.map_eq_some_iff.1 (show (Tryz.prog.info? tE).map (fun i=>(i.zero,i.size,i.bytes))=some (some (.int .u8 0),1,1) by kernel_rfl)
 simp only [Prod.mk.injEq] at hzz
 obtain ⟨hz0,hz1,hz2⟩:=hzz
 go_enter Tryz.func31,Tryz.ntmps31
 go_wp2_with (go_at_call 53;refine (cc b l _ S h).mono ?_)
 rintro e w1 ⟨rfl,⟨v,hbk,hown,hne,hS,hz⟩,hg1,hsz1⟩
 have c0:w1.cell? ⟨b,0,none⟩=some (.pointer (some ⟨b,0,none⟩)):=by rw [Lib.cell_of_heap hbk];rfl
 have c1:w1.cell? ⟨b,1,none⟩=some v:=by rw [Lib.cell_of_heap hbk];rfl
 go_wp2_with (at_builtin;refine wpl_app rfl _ _ 42 9 rfl tE i0 uS uT hi hz0 hz1 hz2 _ _ _ rfl hown s rfl hlen ?_)
 intro v' w2 hown' hgrow hv' hni
 have hlt:b < w1.heap.size:=by
  rcases Nat.lt_or_ge b w1.heap.size with h' | h'
  ·exact h'
  ·simp [Array.getElem?_eq_none h'] at hbk
 have hb2:w2.heap[b]?=some (.cells #[.pointer (some ⟨b,0,none⟩),v] tB (0,0)):=by
  rw [hgrow.block b hlt (fun e=>hne e.symm)]
  exact hbk
 have d0:w2.cell? ⟨b,0,none⟩=some (.pointer (some ⟨b,0,none⟩)):=by rw [Lib.cell_of_heap hb2];rfl
 have d1:w2.cell? ⟨b,1,none⟩=some v:=by rw [Lib.cell_of_heap hb2];rfl
 have f1:w2.frozen? ⟨b,1,none⟩=false:=Lib.frozen_of_heap hb2 1
 obtain ⟨ao,n',cap,rfl⟩:∃ ao n' cap,v'=.slice ao n' cap:=by
  rcases hown'.2 with ⟨hv,_⟩ | ⟨g,cap,cur,hv,_⟩
  ·exact ⟨_,_,_,hv⟩
  ·exact ⟨_,_,_,hv⟩
 go_wp2
 go_ret2
 have hne':(Value.slice ao n' cap).ownBlock≠some b:=fun e=>by
  rcases hv' b e with e | e
  ·exact hne e
  ·omega
 have hg3:w2.grownBy (w2.setCell ⟨b,1,none⟩ (.slice ao n' cap)) (some b):=⟨rfl,rfl,rfl,by simp [World.setCell],fun k _ hk=>Below.heap_setCell _ _ _ _ (fun e=>hk (by simp [e]))⟩
 have hl:(l++s.data.toList).length=l.length+s.size:=by rw [List.length_append,Array.length_toList];rfl
 have hc:Lib.byteCells (l++s.data.toList)=Lib.byteCells l++Lib.strCells s:=by unfold Lib.byteCells Lib.strCells;rw [List.map_append]
 refine ⟨rfl,fun k=>k=b∨(Value.slice ao n' cap).ownBlock=some k,⟨_,_,.inr rfl,by simp [World.setCell,Array.getElem?_modify,hb2],?_,hne',fun _=>Iff.rfl,fun e=>?_⟩,?_,?_⟩
 ·rw [hl,hc];exact hown'.kept hg3 (.inr hne')
 ·obtain ⟨e1,e2⟩:=List.append_eq_nil_iff.1 e
  have e3:s.size=0:=by
   have:s.data.toList.length=0:=by rw [e2];rfl
   rw [Array.length_toList] at this;exact this
  exact hni.2 ⟨hz e1,by simpa using e3⟩
 ·rintro k (rfl | hk)
  ·exact .inl ((hS k).2 (.inl rfl))
  ·rcases hv' k hk with e | e
   ·exact .inl ((hS k).2 (.inr e))
   ·exact .inr e
 ·refine h.ext (hg3.os.trans (hgrow.os.trans hg1.os)) (hg3.tape.trans (hgrow.tape.trans hg1.tape)) (hg3.output.trans (hgrow.output.trans hg1.output)) (Nat.le_trans hg1.size (Nat.le_trans hgrow.size hg3.size)) fun k hk hs=>?_
  have k1:k≠b:=fun e=>hs ((hS k).2 (.inl e))
  have k2:v.ownBlock≠some k:=fun e=>hs ((hS k).2 (.inr e))
  have b1:=hg1.block k hk (fun e=>k1 (Option.some.inj e))
  have b2:=hgrow.block k (Nat.lt_of_lt_of_le hk hg1.size) (fun e=>k2 e.symm)
  have b3:=hg3.block k (Nat.lt_of_lt_of_le hk (Nat.le_trans hg1.size hgrow.size)) (fun e=>k1 (Option.some.inj e))
  exact b3.trans (b2.trans b1)
theorem st_nil (b:Nat) (p:Value) (w:World) (hbk:w.heap[b]?=some (.cells #[p,.slice none 0 0] tB (0,0))) :
  Calls Tryz.prog 35 #[.pointer (some ⟨b,0,none⟩)] w fun e w'=>e=.returned (.string ⟨#[]⟩)∧w'=w.drew:=by
 have hUS:∀ W q,(Builtin.unsafeString_ #[124,3] 9 #[.pointer q,.int .i64 0]).run Tryz.prog W=.ok (.string .empty) W:=fun W q=>Lib.run_unsafeString_none W _ _ _ q
 have c1:w.drew.cell? ⟨b,1,none⟩=some (.slice none 0 0):=by
  have:w.drew.heap[b]?=some (.cells #[p,.slice none 0 0] tB (0,0)):=hbk
  rw [Lib.cell_of_heap this];rfl
 have hSD:(Builtin.unsafeSliceData_ #[42] 124 #[.slice none 0 0]).run Tryz.prog w.drew=.ok (.pointer none) w.drew:=rfl
 go_enter Tryz.func35,Tryz.ntmps35
 go_wp2
 go_region
 all_goals (go_wp2;go_ret;exact ⟨rfl,rfl⟩)
theorem st_some (b g cap:Nat) (p:Value) (cur:Array Value) (l:List UInt8) (w:World) (h0:l≠[]) (hbk:w.heap[b]?=some (.cells #[p,.slice (some ⟨g,0,none⟩) l.length cap] tB (0,0))) (hg:w.heap[g]?=some (.cells cur tE (0,0))) (hnc:l.length≤cap) (hcm:cap≤maxLen) (hcs:cur.size=cap * 1)
  (hc:∀ j u,(Lib.byteCells l)[j]?=some u→w.cell? ((⟨g,0,none⟩:Addr).add j)=some u) :
  Calls Tryz.prog 35 #[.pointer (some ⟨b,0,none⟩)] w fun e w'=>e=.returned (.string ⟨l.toArray⟩)∧w'=w.drew.freeze ⟨g,0,none⟩ l.length:=by
 have hl0:l.length≠0:=by simpa using h0
 have c1:w.drew.cell? ⟨b,1,none⟩=some (.slice (some ⟨g,0,none⟩) l.length cap):=by
  have:w.drew.heap[b]?=some (.cells #[p,.slice (some ⟨g,0,none⟩) l.length cap] tB (0,0)):=hbk
  rw [Lib.cell_of_heap this];rfl
 have hSD:(Builtin.unsafeSliceData_ #[42] 124 #[.slice (some ⟨g,0,none⟩) l.length cap]).run Tryz.prog w.drew=.ok (.pointer (some ⟨g,0,none⟩)) w.drew :=
  Lib.run_unsafeSliceData_row _ _ _ _ _ _ (by omega)
 have hUS:(Builtin.unsafeString_ #[124,3] 9 #[.pointer (some ⟨g,0,none⟩),.int .i64 l.length]).run Tryz.prog w.drew=.ok (.string ⟨l.toArray⟩) (w.drew.freeze ⟨g,0,none⟩ l.length):=by
  refine Lib.run_unsafeString_row w.drew 124 3 9 tE (by kernel_rfl) (by kernel_rfl) g cur.size (by have hg':w.drew.heap[g]?=some (.cells cur tE (0,0)):=hg;simp [World.shape?,hg']) l h0 (by omega) (by unfold maxLen at hcm;omega) ?_
  intro j x hx
  exact hc j (.int .u8 x.toNat) (by simp [Lib.byteCells,hx])
 clear hc
 go_enter Tryz.func35,Tryz.ntmps35
 go_wp2
 go_region
 all_goals (go_wp2;go_ret;exact ⟨rfl,rfl⟩)
theorem strg (b:Nat) (l:List UInt8) (w:World) (S:Nat→Prop) (h:At b l w S):Calls Tryz.prog 35 #[.pointer (some ⟨b,0,none⟩)] w fun e w'=>e=.returned (.string ⟨l.toArray⟩)∧Ext S w w':=by
 have h':=h
 obtain ⟨p,v,hp,hb,ho,hn,hS,hz⟩:=h
 by_cases h0:l=[]
 ·rw [hz h0] at hb
  refine (st_nil b p w hb).mono ?_
  rintro e w' ⟨rfl,rfl⟩
  rw [h0]
  exact ⟨rfl,h'.ext rfl rfl rfl (Nat.le_refl _) fun _ _ _=>rfl⟩
 ·rcases ho.2 with ⟨_,hz0⟩ | ⟨g,cap,cur,rfl,_,hg,hnc,hcm,hcs,_⟩
  ·exact absurd (List.eq_nil_of_length_eq_zero hz0) h0
  ·refine (st_some b g cap p cur l w h0 hb hg hnc hcm hcs (ho.cells (g:=g) rfl)).mono ?_
   rintro e w' ⟨rfl,rfl⟩
   have hbl:=Lib.below_freeze (Below.drew (Below.refl 0 w)) (p:=⟨g,0,none⟩) (Nat.zero_le _) l.length
   refine ⟨rfl,h'.ext hbl.os hbl.tape hbl.output hbl.size fun k hk hs=>?_⟩
   ·have:k≠g:=fun e=>hs ((hS k).2 (.inr (by rw [e];rfl)))
    unfold World.freeze
    split
    ·rfl
    ·show (Array.modify w.heap g _)[k]?=_
     rw [Array.getElem?_modify,if_neg (fun e=>this e.symm)]
end Bld

namespace BldT
open Bld
def bld (b:Nat) (l:List UInt8):SP where
 h w S R:=At b l w S∧∀ k,¬ R k
 st:=by
  rintro w w' S R ⟨⟨p,v,hp,hb,ho,hn,hS,hz⟩,hR⟩ hw
  refine ⟨⟨p,v,hp,by rw [hw b (.inl ((hS b).2 (.inl rfl)))];exact hb,⟨ho.1,?_⟩,hn,hS,hz⟩,hR⟩
  rcases ho.2 with h | ⟨g,cap,cur,rfl,h1,h2,h3⟩
  ·exact .inl h
  ·exact .inr ⟨g,cap,cur,rfl,h1,by rw [hw g (.inl ((hS g).2 (.inr rfl)))];exact h2,h3⟩
 nd:=by
  rintro w S R k ⟨h,hR⟩ hk
  rcases hk with hk | hk
  ·obtain ⟨c,t,e⟩:=h.cells hk
   exact ⟨_,e,by simp [openD]⟩
  ·exact (hR k hk).elim
section
variable {w0 w : World} {S0 R0 : Nat → Prop} {F : SP}
theorem w_newT {K:Nat→WP} (h:Own w0 S0 R0 w F) (k:∀ b w',Own w0 S0 R0 w' (bld b []^F)→K b w'):newT tB [.ptr none,.sl ⟨none,0,0⟩] K w :=
 fun w' he hb _=>k _ w' (h.more he (B:=bld w.heap.size []) (S':=fun k=>k=w.heap.size) ⟨⟨.pointer none,.slice none 0 0,.inl rfl,hb,World.ownsRow_nil _ _ _ _,by simp [Value.ownBlock],fun k=>by simp [Value.ownBlock],fun _=>rfl⟩,fun _ h=>h⟩ (fun _ hk=>by rw [hk];exact Nat.le_refl _))
end
theorem callE_of {f:FuncId} {args:List Value} {w:World} {R:Value→World→Prop} (he:ent Tryz.prog f=true) (h:Calls Tryz.prog f args.toArray w fun e w'=>∃ v,e=.returned v∧R v w'):CallX Tryz.prog f args w R :=
 .enters ⟨he,callsIn_wide.2 h⟩
theorem ws_tri (b:Nat) (l:List UInt8) (s:ByteArray) (hl:l.length+s.size≤140737488355328):Tri Tryz.prog N_strings_Builder_WriteString [.lf (.ptr (some ⟨b,0⟩)),.lf (.str s)] [.lf (.int .i64),.lf .ifc] (bld b l) (fun _=>bld b (l++s.data.toList)):=by
 rintro w S R ⟨h,hR⟩
 refine callE_of (by kernel_rfl) ((ws b l s w S h hl).mono ?_)
 rintro e w' ⟨rfl,S',h1,h2,h3⟩
 exact ⟨_,rfl,((s.size:Int),()),rfl,h3,S',fun _=>False,⟨h1,fun _ h=>h⟩,h2,fun _ h=>h.elim⟩
theorem st_tri (b:Nat) (l:List UInt8):Tri Tryz.prog N_strings_Builder_String [.lf (.ptr (some ⟨b,0⟩))] [.lf .str] (bld b l) (fun r=>pur (r=⟨l.toArray⟩) emp):=by
 rintro w S R ⟨h,hR⟩
 refine callE_of (by kernel_rfl) ((strg b l w S h).mono ?_)
 rintro e w' ⟨rfl,h3⟩
 exact ⟨_,rfl,⟨l.toArray⟩,rfl,h3,fun _=>False,fun _=>False,⟨rfl,fun _ h=>h,fun _ h=>h⟩,fun _ h=>h.elim,fun _ h=>h.elim⟩
def powT:Array Value:=(Lib.pow10Tab.map fun z=>Value.int .u64 z).toArray
def tab:SP where
 h w S R:=(∃ T fr,w.heap[0]?=some (.cells powT T fr))∧(∀ k,¬ S k)∧∀ k,R k↔k=0
 st:=by
  rintro w w' S R ⟨⟨T,fr,h⟩,hS,hR⟩ hw
  exact ⟨⟨T,fr,by rw [hw _ (.inr ((hR _).2 rfl))];exact h⟩,hS,hR⟩
 nd:=by
  rintro w S R k ⟨⟨T,fr,h⟩,hS,hR⟩ hk
  rcases hk with hk | hk
  ·exact (hS k hk).elim
  ·rw [(hR k).1 hk];exact ⟨_,h,by simp [openD]⟩
theorem tab_is {w : World} {S R : Nat → Prop} (h : tab.h w S R) : Lib.TabIs Tryz.prog w "internal/strconv.uint64pow10" .u64 Lib.pow10Tab := by
 obtain ⟨⟨T,fr,h⟩,_⟩:=h
 have hg : Tryz.prog.globalNamed "internal/strconv.uint64pow10" = some 0 := by kernel_rfl
 simp [Lib.TabIs,World.var?,hg,h,powT]
end BldT

namespace StrLay
open Go.Shelf Go.Lib Go.RowKit Go.Sort
def lays283_ren:Go.Shelf.Ren:=⟨fun | 283=>83 | n=>n,fun | 3=>3 | 9=>9 | 4=>4 | n=>n,fun | n=>n⟩
theorem lays283:Go.Proofs.Lays.n283 Tryz.prog lays283_ren:={
 mixed:=by kernel_rfl
 f283:=Tryz.func83.trans (congrArg some (by kernel_rfl))
 t3:=Tryz.underlying3
 a3:=Tryz.isAgg3
 z3:=Tryz.sizeOf3
 v3:=Tryz.zeroValue3
 t4:=Tryz.underlying4
 a4:=Tryz.isAgg4
 z4:=Tryz.sizeOf4
 v4:=Tryz.zeroValue4
 t9:=Tryz.underlying9
 a9:=Tryz.isAgg9
 z9:=Tryz.sizeOf9
 v9:=Tryz.zeroValue9 }
theorem internal_strconv_small (i:Nat) (h:i < 100) (w:World) :
  Calls Tryz.prog 83 #[.int .i64 i] w fun e w'=>e=.returned (.string ⟨(Lib.decDigits i).toArray⟩)∧w'=w:=Any.internal_strconv_small lays283 i h w
def laysM284_ren:Go.Shelf.Ren:=⟨fun | 284=>84 | 129=>136 | 317=>135 | 318=>137 | n=>n,fun | 53=>22 | 3=>3 | 212=>250 | 0=>0 | 4=>4 | 46=>48 | 5=>5 | 9=>9 | n=>n,fun | 17=>0 | n=>n⟩
theorem laysM284:Go.Proofs.LaysM.n284 Tryz.prog laysM284_ren:={
 mixed:=by kernel_rfl
 f129:=Tryz.func136.trans (congrArg some (by kernel_rfl))
 f284:=Tryz.func84.trans (congrArg some (by kernel_rfl))
 f317:=Tryz.func135.trans (congrArg some (by kernel_rfl))
 f318:=Tryz.func137.trans (congrArg some (by kernel_rfl))
 t0:=Tryz.underlying0
 a0:=Tryz.isAgg0
 z0:=Tryz.sizeOf0
 v0:=Tryz.zeroValue0
 t3:=Tryz.underlying3
 a3:=Tryz.isAgg3
 z3:=Tryz.sizeOf3
 v3:=Tryz.zeroValue3
 t4:=Tryz.underlying4
 a4:=Tryz.isAgg4
 z4:=Tryz.sizeOf4
 v4:=Tryz.zeroValue4
 t5:=Tryz.underlying5
 a5:=Tryz.isAgg5
 z5:=Tryz.sizeOf5
 v5:=Tryz.zeroValue5
 t9:=Tryz.underlying9
 a9:=Tryz.isAgg9
 z9:=Tryz.sizeOf9
 v9:=Tryz.zeroValue9
 t46:=Tryz.underlying48
 a46:=Tryz.isAgg48
 z46:=Tryz.sizeOf48
 v46:=Tryz.zeroValue48
 t53:=Tryz.underlying22
 a53:=Tryz.isAgg22
 z53:=Tryz.sizeOf22
 v53:=Tryz.zeroValue22
 t212:=Tryz.underlying250
 a212:=Tryz.isAgg250
 z212:=Tryz.sizeOf250
 v212:=Tryz.zeroValue250
 g17:=by kernel_rfl
 i0:=by kernel_rfl
 i3:=by kernel_rfl
 i4:=by kernel_rfl
 i5:=by kernel_rfl
 i9:=by kernel_rfl
 i46:=by kernel_rfl
 i53:=by kernel_rfl
 i212:=by kernel_rfl
 m17:=by kernel_rfl }
theorem internal_strconv_numDigits (u : Nat) (h1 : 1 ≤ u) (h2 : u < 18446744073709551616) (w : World) (htab : Lib.TabIs Tryz.prog w "internal/strconv.uint64pow10" .u64 Lib.pow10Tab) :
  Calls Tryz.prog 84 #[.int .u64 u] w fun e w'=>e=.returned (.int .i64 (Lib.nDigits u))∧w'=w:=Any.internal_strconv_numDigits laysM284 u h1 h2 w htab
def lays285_ren:Go.Shelf.Ren:=⟨fun | 285=>85 | n=>n,fun | 37=>42 | 53=>22 | 3=>3 | 4=>4 | 51=>251 | 9=>9 | 5=>5 | 0=>0 | n=>n,fun | n=>n⟩
theorem lays285:Go.Proofs.Lays.n285 Tryz.prog lays285_ren:={
 mixed:=by kernel_rfl
 f285:=Tryz.func85.trans (congrArg some (by kernel_rfl))
 t0:=Tryz.underlying0
 a0:=Tryz.isAgg0
 z0:=Tryz.sizeOf0
 v0:=Tryz.zeroValue0
 t3:=Tryz.underlying3
 a3:=Tryz.isAgg3
 z3:=Tryz.sizeOf3
 v3:=Tryz.zeroValue3
 t4:=Tryz.underlying4
 a4:=Tryz.isAgg4
 z4:=Tryz.sizeOf4
 v4:=Tryz.zeroValue4
 t5:=Tryz.underlying5
 a5:=Tryz.isAgg5
 z5:=Tryz.sizeOf5
 v5:=Tryz.zeroValue5
 t9:=Tryz.underlying9
 a9:=Tryz.isAgg9
 z9:=Tryz.sizeOf9
 v9:=Tryz.zeroValue9
 t37:=Tryz.underlying42
 a37:=Tryz.isAgg42
 z37:=Tryz.sizeOf42
 v37:=Tryz.zeroValue42
 t51:=Tryz.underlying251
 a51:=Tryz.isAgg251
 z51:=Tryz.sizeOf251
 v51:=Tryz.zeroValue251
 t53:=Tryz.underlying22
 a53:=Tryz.isAgg22
 z53:=Tryz.sizeOf22
 v53:=Tryz.zeroValue22 }
theorem internal_strconv_formatBase10 (blk off cap:Nat) (u:Nat) (d:Array UInt8) (w:World) (hH:_root_.Go.Sort.Holds (fun (b:UInt8)=>Value.int .u8 (b.toNat:Int)) w blk off d) (hu:u < 10^d.size) (hu64:u < 18446744073709551616) (hsz:d.size < 4611686018427387904) :
  Calls Tryz.prog 85 #[.slice (some ⟨blk,off,none⟩) d.size cap,.int .u64 u] w fun e w' =>
   e=.returned (.tuple #[])∧∃ (n v':Nat) (dk:Array UInt8),w'=(putRow (fun (b:UInt8)=>Value.int .u8 (b.toNat:Int)) w blk off dk).drewN n∧FmtInv d.size u 0 v' dk:=Any.internal_strconv_formatBase10 lays285 blk off cap u d w hH hu hu64 hsz
def laysM171_ren:Go.Shelf.Ren:=⟨fun | 171=>54 | 243=>82 | 246=>134 | 283=>83 | 284=>84 | 285=>85 | 286=>86 | 129=>136 | 317=>135 | 318=>137 | 319=>138 | 320=>139 | 337=>205 | 338=>206 | n=>n,fun | 3=>3 | 9=>9 | 2=>2 | 4=>4 | 171=>181 | 0=>0 | 53=>22 | 37=>42 | 5=>5 | 173=>184 | 212=>250 | 51=>251 | 20=>20 | 213=>252 | 46=>48 | 232=>368 | 233=>369 | n=>n,fun | 17=>0 | 18=>1 | 19=>2 | n=>n⟩
theorem laysM171:Go.Proofs.LaysM.n171 Tryz.prog laysM171_ren:={
 mixed:=by kernel_rfl
 f129:=Tryz.func136.trans (congrArg some (by kernel_rfl))
 f171:=Tryz.func54.trans (congrArg some (by kernel_rfl))
 f243:=Tryz.func82.trans (congrArg some (by kernel_rfl))
 f246:=Tryz.func134.trans (congrArg some (by kernel_rfl))
 f283:=Tryz.func83.trans (congrArg some (by kernel_rfl))
 f284:=Tryz.func84.trans (congrArg some (by kernel_rfl))
 f285:=Tryz.func85.trans (congrArg some (by kernel_rfl))
 f286:=Tryz.func86.trans (congrArg some (by kernel_rfl))
 f317:=Tryz.func135.trans (congrArg some (by kernel_rfl))
 f318:=Tryz.func137.trans (congrArg some (by kernel_rfl))
 f319:=Tryz.func138.trans (congrArg some (by kernel_rfl))
 f320:=Tryz.func139.trans (congrArg some (by kernel_rfl))
 f337:=Tryz.func205.trans (congrArg some (by kernel_rfl))
 f338:=Tryz.func206.trans (congrArg some (by kernel_rfl))
 t0:=Tryz.underlying0
 a0:=Tryz.isAgg0
 z0:=Tryz.sizeOf0
 v0:=Tryz.zeroValue0
 t2:=Tryz.underlying2
 a2:=Tryz.isAgg2
 z2:=Tryz.sizeOf2
 v2:=Tryz.zeroValue2
 t3:=Tryz.underlying3
 a3:=Tryz.isAgg3
 z3:=Tryz.sizeOf3
 v3:=Tryz.zeroValue3
 t4:=Tryz.underlying4
 a4:=Tryz.isAgg4
 z4:=Tryz.sizeOf4
 v4:=Tryz.zeroValue4
 t5:=Tryz.underlying5
 a5:=Tryz.isAgg5
 z5:=Tryz.sizeOf5
 v5:=Tryz.zeroValue5
 t9:=Tryz.underlying9
 a9:=Tryz.isAgg9
 z9:=Tryz.sizeOf9
 v9:=Tryz.zeroValue9
 t20:=Tryz.underlying20
 a20:=Tryz.isAgg20
 z20:=Tryz.sizeOf20
 v20:=Tryz.zeroValue20
 t37:=Tryz.underlying42
 a37:=Tryz.isAgg42
 z37:=Tryz.sizeOf42
 v37:=Tryz.zeroValue42
 t46:=Tryz.underlying48
 a46:=Tryz.isAgg48
 z46:=Tryz.sizeOf48
 v46:=Tryz.zeroValue48
 t51:=Tryz.underlying251
 a51:=Tryz.isAgg251
 z51:=Tryz.sizeOf251
 v51:=Tryz.zeroValue251
 t53:=Tryz.underlying22
 a53:=Tryz.isAgg22
 z53:=Tryz.sizeOf22
 v53:=Tryz.zeroValue22
 t171:=Tryz.underlying181
 a171:=Tryz.isAgg181
 z171:=Tryz.sizeOf181
 v171:=Tryz.zeroValue181
 t173:=Tryz.underlying184
 a173:=Tryz.isAgg184
 z173:=Tryz.sizeOf184
 v173:=Tryz.zeroValue184
 t212:=Tryz.underlying250
 a212:=Tryz.isAgg250
 z212:=Tryz.sizeOf250
 v212:=Tryz.zeroValue250
 t213:=Tryz.underlying252
 a213:=Tryz.isAgg252
 z213:=Tryz.sizeOf252
 t232:=Tryz.underlying368
 a232:=Tryz.isAgg368
 z232:=Tryz.sizeOf368
 v232:=Tryz.zeroValue368
 t233:=Tryz.underlying369
 a233:=Tryz.isAgg369
 z233:=Tryz.sizeOf369
 v233:=Tryz.zeroValue369
 g17:=by kernel_rfl
 g18:=by kernel_rfl
 g19:=by kernel_rfl
 i0:=by kernel_rfl
 i2:=by kernel_rfl
 i3:=by kernel_rfl
 i4:=by kernel_rfl
 i5:=by kernel_rfl
 i9:=by kernel_rfl
 i20:=by kernel_rfl
 i37:=by kernel_rfl
 i46:=by kernel_rfl
 i51:=by kernel_rfl
 i53:=by kernel_rfl
 i171:=by kernel_rfl
 i173:=by kernel_rfl
 i212:=by kernel_rfl
 i232:=by kernel_rfl
 i233:=by kernel_rfl
 m17:=by kernel_rfl
 m18:=by kernel_rfl
 m19:=by kernel_rfl }
theorem strconv_Itoa (n : Int) (h0 : -9223372036854775808 ≤ n) (h1 : n ≤ 9223372036854775807) (w : World) (htab : Lib.TabIs Tryz.prog w "internal/strconv.uint64pow10" .u64 Lib.pow10Tab) :
  Calls Tryz.prog 54 #[.int .i64 n] w fun e w'=>e=.returned (.string ⟨(Lib.itoa n).toArray⟩)∧∃ k os,w'=grow (w.drewN k) os:=Any.strconv_Itoa laysM171 n h0 h1 w htab
def lays171_ren:Go.Shelf.Ren:=⟨fun | 171=>54 | 243=>82 | 246=>134 | 283=>83 | 284=>84 | 285=>85 | 286=>86 | 129=>136 | 317=>135 | 318=>137 | 319=>138 | 320=>139 | 337=>205 | 338=>206 | n=>n,fun | 3=>3 | 9=>9 | 2=>2 | 4=>4 | 171=>181 | 0=>0 | 53=>22 | 37=>42 | 5=>5 | 173=>184 | 212=>250 | 51=>251 | 20=>20 | 213=>252 | 46=>48 | 232=>368 | 233=>369 | n=>n,fun | 17=>0 | 18=>1 | 19=>2 | n=>n⟩
theorem lays171:Go.Proofs.Lays.n171 Tryz.prog lays171_ren:={
 mixed:=by kernel_rfl
 f129:=Tryz.func136.trans (congrArg some (by kernel_rfl))
 f171:=Tryz.func54.trans (congrArg some (by kernel_rfl))
 f243:=Tryz.func82.trans (congrArg some (by kernel_rfl))
 f246:=Tryz.func134.trans (congrArg some (by kernel_rfl))
 f283:=Tryz.func83.trans (congrArg some (by kernel_rfl))
 f284:=Tryz.func84.trans (congrArg some (by kernel_rfl))
 f285:=Tryz.func85.trans (congrArg some (by kernel_rfl))
 f286:=Tryz.func86.trans (congrArg some (by kernel_rfl))
 f317:=Tryz.func135.trans (congrArg some (by kernel_rfl))
 f318:=Tryz.func137.trans (congrArg some (by kernel_rfl))
 f319:=Tryz.func138.trans (congrArg some (by kernel_rfl))
 f320:=Tryz.func139.trans (congrArg some (by kernel_rfl))
 f337:=Tryz.func205.trans (congrArg some (by kernel_rfl))
 f338:=Tryz.func206.trans (congrArg some (by kernel_rfl))
 t0:=Tryz.underlying0
 a0:=Tryz.isAgg0
 z0:=Tryz.sizeOf0
 v0:=Tryz.zeroValue0
 t2:=Tryz.underlying2
 a2:=Tryz.isAgg2
 z2:=Tryz.sizeOf2
 v2:=Tryz.zeroValue2
 t3:=Tryz.underlying3
 a3:=Tryz.isAgg3
 z3:=Tryz.sizeOf3
 v3:=Tryz.zeroValue3
 t4:=Tryz.underlying4
 a4:=Tryz.isAgg4
 z4:=Tryz.sizeOf4
 v4:=Tryz.zeroValue4
 t5:=Tryz.underlying5
 a5:=Tryz.isAgg5
 z5:=Tryz.sizeOf5
 v5:=Tryz.zeroValue5
 t9:=Tryz.underlying9
 a9:=Tryz.isAgg9
 z9:=Tryz.sizeOf9
 v9:=Tryz.zeroValue9
 t20:=Tryz.underlying20
 a20:=Tryz.isAgg20
 z20:=Tryz.sizeOf20
 v20:=Tryz.zeroValue20
 t37:=Tryz.underlying42
 a37:=Tryz.isAgg42
 z37:=Tryz.sizeOf42
 v37:=Tryz.zeroValue42
 t46:=Tryz.underlying48
 a46:=Tryz.isAgg48
 z46:=Tryz.sizeOf48
 v46:=Tryz.zeroValue48
 t51:=Tryz.underlying251
 a51:=Tryz.isAgg251
 z51:=Tryz.sizeOf251
 v51:=Tryz.zeroValue251
 t53:=Tryz.underlying22
 a53:=Tryz.isAgg22
 z53:=Tryz.sizeOf22
 v53:=Tryz.zeroValue22
 t171:=Tryz.underlying181
 a171:=Tryz.isAgg181
 z171:=Tryz.sizeOf181
 v171:=Tryz.zeroValue181
 t173:=Tryz.underlying184
 a173:=Tryz.isAgg184
 z173:=Tryz.sizeOf184
 v173:=Tryz.zeroValue184
 t212:=Tryz.underlying250
 a212:=Tryz.isAgg250
 z212:=Tryz.sizeOf250
 v212:=Tryz.zeroValue250
 t213:=Tryz.underlying252
 a213:=Tryz.isAgg252
 z213:=Tryz.sizeOf252
 t232:=Tryz.underlying368
 a232:=Tryz.isAgg368
 z232:=Tryz.sizeOf368
 v232:=Tryz.zeroValue368
 t233:=Tryz.underlying369
 a233:=Tryz.isAgg369
 z233:=Tryz.sizeOf369
 v233:=Tryz.zeroValue369
 g17:=by kernel_rfl
 g18:=by kernel_rfl
 g19:=by kernel_rfl }
theorem strconv_Itoa_small (i:Nat) (hi:i < 100) (w:World) :
  Calls Tryz.prog 54 #[.int .i64 i] w fun e w'=>e=.returned (.string ⟨(Lib.decDigits i).toArray⟩)∧w'=w:=Any.strconv_Itoa_small lays171 i hi w
end StrLay

namespace StrT
open StrLay Go.Lib Go.Sort Go.RowKit Bld BldT
abbrev tA:TypeId:=181
abbrev enB:UInt8→Value:=fun b=>.int .u8 (b.toNat:Int)
theorem holds0 (w:World) (T:TypeId) (n:Nat) (h:n≤24):_root_.Go.Sort.Holds enB (w.alloc (.cells zeros24 T)) w.heap.size 0 (Array.replicate n (0:UInt8)):=fun j hj=>by
 rw [Array.size_replicate] at hj
 refine ⟨?_,World.frozen?_alloc_new _ _ _ _⟩
 rw [Nat.zero_add,World.cell?_alloc_new,zeros24_at j (by omega)]
 simp [enB,hj]
set_option maxHeartbeats 3200000 in
set_option maxRecDepth 100000 in
theorem fu_big (u : Nat) (h1 : 100 ≤ u) (h2 : u < 18446744073709551616) (w : World) (htab : TabIs Tryz.prog w "internal/strconv.uint64pow10" .u64 pow10Tab) :
  Calls Tryz.prog 55 #[.int .u64 u,.int .i64 10] w fun e w'=>e=.returned (.string ⟨(decDigits u).toArray⟩)∧∃ k os,w'=grow (w.drewN k) os:=by
 have hnd20:nDigits u≤20:=by have:=numDigits_eq u (by omega) h2;split at this<;>omega
 have hal:Tryz.prog.arrayLen tA=24:=by kernel_rfl
 have hsl:∀ W,(Instr.sliceAt tA (.pointer (some ⟨w.heap.size,0,none⟩)) none (some (.int .i64 (nDigits u:Int))) none).run Tryz.prog W=.ok (.slice (some ⟨w.heap.size,0,none⟩) (nDigits u) 24) W:=fun W=>by
  rw [run_sliceAt_array_h W tA ⟨w.heap.size,0,none⟩ (by kernel_rfl) .i64 (nDigits u:Int) (by omega) (by rw [hal];omega)]
  rw [hal]
  rfl
 have hH0:=holds0 w tA (nDigits u) (by omega)
 have hfmt:=internal_strconv_formatBase10 w.heap.size 0 24 u (Array.replicate (nDigits u) 0) (w.alloc (.cells zeros24 tA)) hH0 (by rw [Array.size_replicate];exact lt_pow_nDigits u) h2 (by rw [Array.size_replicate];omega)
 rw [Array.size_replicate] at hfmt
 have HH0:=hid hH0
 clear hH0 hal
 go_enter Tryz.func55,Tryz.ntmps55
 go_wp2_with (first
  | (go_at_call 84;refine (internal_strconv_numDigits u (by omega) h2 _ (tabIs_alloc htab _)).mono ?_;rintro e w' ⟨rfl,rfl⟩))
 go_at_call 85
 refine hfmt.mono ?_
 rintro e w' ⟨rfl,k,v',dk,rfl,hF⟩
 have hcv:(convert 42 9 (.slice (some ⟨w.heap.size,0,none⟩) (nDigits u) 24)).run Tryz.prog ((putRow (fun (b:UInt8)=>Value.int .u8 (b.toNat:Int)) (w.alloc (.cells zeros24 tA)) w.heap.size 0 dk).drewN k)=.ok (.string ⟨(decDigits u).toArray⟩) ((putRow (fun (b:UInt8)=>Value.int .u8 (b.toNat:Int)) (w.alloc (.cells zeros24 tA)) w.heap.size 0 dk).drewN k):=by
  have h:=run_convert_bytes_back (P:=Tryz.prog) ((putRow enB (w.alloc (.cells zeros24 tA)) w.heap.size 0 dk).drewN k) 42 9 5 ⟨w.heap.size,0,none⟩ 24 (decDigits u) (by kernel_rfl) (by kernel_rfl) (by kernel_rfl) (fun j hj=>by
   rw [row_is_numeral hF j hj,add_plain,World.cell?_drewN]
   exact cell?_putRow enB _ w.heap.size 0 _ dk HH0.out (by rw [hF.size,Array.size_replicate]) j (by rw [hF.size];rw [decDigits_length] at hj;exact hj))
  rw [decDigits_length] at h
  exact h
 go_wp2
 go_ret
 refine ⟨rfl,k,?_⟩
 rw [alloc_eq_grow]
 obtain ⟨os',_,e⟩:=putRow_grow_new enB w #[.cells zeros24 tA] w.heap.size 0 dk (Nat.le_refl _)
 exact ⟨os',by rw [e];rfl⟩
theorem fu_small (u:Nat) (h1:u < 100) (w:World):Calls Tryz.prog 55 #[.int .u64 u,.int .i64 10] w fun e w'=>e=.returned (.string ⟨(decDigits u).toArray⟩)∧w'=w:=by
 go_enter Tryz.func55,Tryz.ntmps55
 go_wp2_with (go_at_call 83;refine (internal_strconv_small u h1 _).mono ?_;rintro e w' ⟨rfl,rfl⟩)
 go_ret
 exact ⟨rfl,rfl⟩
theorem fo_big (u : Nat) (h1 : 100 ≤ u) (h2 : u < 18446744073709551616) (w : World) (htab : TabIs Tryz.prog w "internal/strconv.uint64pow10" .u64 pow10Tab) :
  Calls Tryz.prog 34 #[.int .u64 u,.int .i64 10] w fun e w'=>e=.returned (.string ⟨(decDigits u).toArray⟩)∧∃ k os,w'=grow (w.drewN k) os:=by
 go_enter Tryz.func34,Tryz.ntmps34
 go_wp2_with (go_at_call 55;refine (fu_big u h1 h2 _ htab).mono ?_;rintro e w' ⟨rfl,k,os,rfl⟩)
 go_ret
 exact ⟨rfl,k,os,rfl⟩
theorem fo_small (u:Nat) (h1:u < 100) (w:World):Calls Tryz.prog 34 #[.int .u64 u,.int .i64 10] w fun e w'=>e=.returned (.string ⟨(decDigits u).toArray⟩)∧w'=w:=by
 go_enter Tryz.func34,Tryz.ntmps34
 go_wp2_with (go_at_call 55;refine (fu_small u h1 _).mono ?_;rintro e w' ⟨rfl,rfl⟩)
 go_ret
 exact ⟨rfl,rfl⟩
def dgB (n:Int):ByteArray:=⟨(decDigits n.toNat).toArray⟩
theorem ext_grow (w:World) (k:Nat) (os:Array Obj):Ext no1 w (grow (w.drewN k) os):=by
 have hs:(grow (w.drewN k) os).heap=w.heap++os:=rfl
 have hk:∀ i,i < w.heap.size→(grow (w.drewN k) os).heap[i]?=w.heap[i]?:=fun i hi=>by rw [hs,Array.getElem?_append_left hi]
 exact ⟨rfl,rfl,rfl,by rw [hs,Array.size_append];omega,fun i hi _=>hk i hi,fun i hi=>by rw [hk i (Array.getElem?_eq_some_iff.1 hi).1];exact hi⟩
def tabF (big:Bool):SP:=cond big tab emp
theorem tabF_S {big:Bool} {w:World} {S R:Nat→Prop} (h:(tabF big).h w S R):∀ k,¬ S k:=by
 cases big
 ·exact h.1
 ·exact h.2.1
instance lend_tab (big:Bool) (F G:SP) [t:Take (tabF big) F G]:Lend (tabF big) F:=⟨fun w S R h=>by
 obtain ⟨S1,R1,S2,R2,h1,_,_,hR,_⟩:=t.le w S R h
 have:S1=fun _=>False:=funext fun k=>propext ⟨fun hk=>tabF_S h1 k hk,fun hk=>hk.elim⟩
 exact ⟨R1,this ▸ h1,fun k hk=>.inr ((hR k).2 (.inl hk))⟩⟩
theorem own_pur {w w':World} {S R:Nat→Prop} {p:Prop} (hp:p) (he:Ext no1 w w'):Own w S R w' (pur p emp) :=
 ⟨he.mono fun _ _ h=>h.elim,fun _=>False,fun _=>False,⟨hp,fun _ h=>h,fun _ h=>h⟩,fun _ h=>h.elim,fun _ h=>h.elim⟩
theorem itoa_tri (big:Bool) (n:Int) (h0:0≤n) (h1:n < 9223372036854775808) (hb:big=false→n < 100):Tri Tryz.prog N_strconv_Itoa [.lf (.int .i64 n)] [.lf .str] (emp^tabF big) (fun r=>pur (r=dgB n) emp):=by
 rintro w S' R' ⟨_,_,S,R,_,h,_⟩
 obtain ⟨u,rfl⟩:∃ u:Nat,n=u:=⟨n.toNat,by omega⟩
 have e:dgB (u:Int)=⟨(decDigits u).toArray⟩:=by unfold dgB;rw [Int.toNat_natCast]
 cases big with
 | false =>
  have hb:=hb rfl
  refine callE_of (by kernel_rfl) ((strconv_Itoa_small u (by omega) w).mono ?_)
  rintro e' w' ⟨rfl,rfl⟩
  exact ⟨_,rfl,⟨(decDigits u).toArray⟩,rfl,own_pur e.symm (Ext.refl _ _)⟩
 | true =>
  refine callE_of (by kernel_rfl) ((strconv_Itoa u (by omega) (by omega) w (tab_is h)).mono ?_)
  rintro e' w' ⟨rfl,k,os,rfl⟩
  rw [itoa_nonneg]
  exact ⟨_,rfl,⟨(decDigits u).toArray⟩,rfl,own_pur e.symm (ext_grow w k os)⟩
theorem fmtu_tri (big:Bool) (n:Int) (h0:0≤n) (h1:n < 18446744073709551616) (hb:big=false→n < 100):Tri Tryz.prog N_strconv_FormatUint [.lf (.int .u64 n),.lf (.int .i64 10)] [.lf .str] (emp^tabF big) (fun r=>pur (r=dgB n) emp):=by
 rintro w S' R' ⟨_,_,S,R,_,h,_⟩
 obtain ⟨u,rfl⟩:∃ u:Nat,n=u:=⟨n.toNat,by omega⟩
 have e:dgB (u:Int)=⟨(decDigits u).toArray⟩:=by unfold dgB;rw [Int.toNat_natCast]
 by_cases hu:u < 100
 ·refine callE_of (by kernel_rfl) ((fo_small u hu w).mono ?_)
  rintro e' w' ⟨rfl,rfl⟩
  exact ⟨_,rfl,⟨(decDigits u).toArray⟩,rfl,own_pur e.symm (Ext.refl _ _)⟩
 ·cases big with
  | false=>have:=hb rfl;omega
  | true =>
   refine callE_of (by kernel_rfl) ((fo_big u (by omega) (by omega) w (tab_is h)).mono ?_)
   rintro e' w' ⟨rfl,k,os,rfl⟩
   exact ⟨_,rfl,⟨(decDigits u).toArray⟩,rfl,own_pur e.symm (ext_grow w k os)⟩
theorem digits_tri (big:Bool) (v:Int) (h1:v < 9223372036854775808) (hb:big=false→v < 100):Tri Tryz.prog N_script_digits [.lf (.int .i64 v)] [.lf .str] (emp^tabF big) (fun r=>pur (r=dgB v) emp) :=
 tri_0 (call_script_digits v) fun w0 S R h=>by
  unfold W_script_digits
  have e:(if (0:Int) > v then (0:Int) else v)=(v.toNat:Int):=by split<;>omega
  rw [e]
  refine w_callL (A:=emp) (Q:=tabF big) (itoa_tri big (v.toNat:Int) (by omega) (by omega) (fun hh=>by have:=hb hh;omega)) h fun r w h=>?_
  obtain ⟨hr,h⟩:=h.purP
  refine Own.retP ?_ h.emp'
  rw [hr];unfold dgB;rw [Int.toNat_natCast]
end StrT

namespace ScA
open ScM ScW BldT StrT
theorem dgB_eq (n:Int):dgB n=bA (dg n):=rfl
theorem mx:IntKind.i64.max=9223372036854775807:=rfl
theorem req_sz {a b:List UInt8} {A:WP} {w:World} (h:a.length+b.length≤1000000000000) (k:A w):req ((((bA a).size+(bA b).size:Nat):Int)≤IntKind.i64.max) A w:=by
 refine ⟨?_,k⟩
 rw [bA_size,bA_size,mx];omega
theorem bld_d (b:Nat) (l m:List UInt8):bld b (l++(bA m).data.toList)=bld b (l++m):=rfl
end ScA

namespace ScB
open ScM ScW BldT StrT ScA
abbrev KS:Ks:=[.int .i64,.int .u64,.int .i64,.int .u64,.bool]
abbrev zS:List Lf:=[.int .i64 0,.int .u64 0,.int .i64 0,.int .u64 0,.bool false]
theorem l32:(⟨#[32]⟩:ByteArray)=bA [32]:=rfl
theorem l58:(⟨#[58]⟩:ByteArray)=bA [58]:=rfl
theorem l10:(⟨#[10]⟩:ByteArray)=bA [10]:=rfl
theorem l43:(⟨#[43]⟩:ByteArray)=bA [43]:=rfl
theorem l45:(⟨#[45]⟩:ByteArray)=bA [45]:=rfl
theorem l3264:(⟨#[32,64]⟩:ByteArray)=bA [32,64]:=rfl
structure Few (s:Sg):Prop where
 a:s.1 < 100
 b:s.2.1 < 100
 c:s.2.2.1 < 100
theorem segs_tri (big:Bool) (sg:List UInt8) (hsg:sg.length≤1) (l:Sl) (xs:List Sg) (hx:∀ s∈xs,OkS s) (hl:xs.length≤100000) (hb:big=false→∀ s∈xs,Few s) :
  Tri Tryz.prog N_script_segs [.lf (.str (bA sg)),.lf (.sl l)] [.lf .str] (emp^tabF big^rarr l KS xs) (fun r=>pur (r=bA (sgL (32 :: sg) xs)) emp) :=
 tri_0 (call_script_segs (bA sg) l) fun w0 S R h=>by
  unfold W_script_segs
  rw [l32,l58]
  have hll:=((h.take (rarr l KS xs)).rd (s:=l)).2
  refine w_newT h fun n1 w h=>?_
  have h:Own w0 S R w (bld n1 (sgL (32 :: sg) (xs.take (0:Int).toNat))^tabF big^rarr l KS xs):=Own.fin (A:=bld n1 []^tabF big^rarr l KS xs) h
  refine w_loop (fun y:Int=>bld n1 (sgL (32 :: sg) (xs.take y.toNat))^tabF big^rarr l KS xs) (fun y:Int=>0≤y∧y≤xs.length) (fun y:Int=>xs.length - y.toNat) h ⟨Int.le_refl 0,by omega⟩ ?_
  rintro (i:Int) w ⟨h0,h1⟩ h
  refine w_ite (fun c=>?_) fun c=>?_
  ·have c:i < ((l.len:Nat):Int):=of_decide_eq_true c
   have hi:i.toNat < xs.length:=by omega
   obtain ⟨s,hs⟩:∃ s,xs[i.toNat]?=some s:=⟨_,at_some hi⟩
   have hm:=List.mem_of_getElem? hs
   have ok:=hx s hm
   have fw:=fun e=>hb e s hm
   have d1:=dg_len (n:=s.1) (by have:=ok.k;omega)
   have d2:=dg_len ok.f.2
   have d3:=dg_len (n:=s.2.2.1) (by have:=ok.n;omega)
   have hlen:=sgL_len (sign:=32 :: sg) (by simp only [List.length_cons];omega) (l:=xs.take i.toNat) (fun q hq=>hx q (List.mem_of_mem_take hq))
   rw [List.length_take] at hlen
   have e:(i+1).toNat=i.toNat+1:=by omega
   have hsg':(32 :: sg).length≤2:=by simp only [List.length_cons];omega
   refine w_idx (s:=l) (h.take (rarr l KS xs)) h0 hi (w_ldE (h.take (rarr l KS xs)) l i.toNat hs rfl (w_new h fun n6 w h=>w_setAll h (by rfl) fun w h=>w_drw h fun w h=>?_))
   refine req_sz (by simp only [List.length_singleton];omega) (w_ld (x:=s.1) h rfl (w_ld (x:=s.2.1) h rfl (w_ld (x:=s.2.2.1) h rfl ?_)))
   rw [bA_app]
   refine w_callL (A:=emp) (Q:=tabF big) (digits_tri big s.1 ok.k (fun e=>(fw e).a)) h fun r w h=>?_
   obtain ⟨hr,h⟩:=h.purP;rw [hr,dgB_eq]
   refine w_chk h rfl (w_chk h rfl ?_)
   rw [bA_app,bA_app]
   refine req_sz (by simp only [List.length_append,List.length_cons,List.length_nil];omega) (req_sz (by simp only [List.length_append,List.length_cons,List.length_nil];omega) ?_)
   refine w_callL (A:=emp) (Q:=tabF big) (fmtu_tri big s.2.1 ok.f.1 ok.f.2 (fun e=>(fw e).b)) h fun r w h=>?_
   obtain ⟨hr,h⟩:=h.purP;rw [hr,dgB_eq]
   refine w_chk h rfl ?_
   rw [bA_app,bA_app]
   refine req_sz (by simp only [List.length_append,List.length_cons,List.length_nil];omega) (req_sz (by simp only [List.length_append,List.length_cons,List.length_nil];omega) ?_)
   refine w_callL (A:=emp) (Q:=tabF big) (digits_tri big s.2.2.1 ok.n (fun e=>(fw e).c)) h fun r w h=>?_
   obtain ⟨hr,h⟩:=h.purP;rw [hr,dgB_eq]
   rw [bA_app]
   refine req_sz (by simp only [List.length_append,List.length_cons,List.length_nil];omega) ?_
   have et:[32]++sg++dg s.1++[58]++dg s.2.1++[58]++dg s.2.2.1=(32 :: sg)++sgT s:=by unfold sgT;simp [List.append_assoc]
   rw [et]
   have hT:=sgT_len ok
   refine w_call (ws_tri n1 (sgL (32 :: sg) (xs.take i.toNat)) (bA ((32 :: sg)++sgT s)) (by rw [bA_size,List.length_append];omega)) h fun _ w h=>?_
   rw [bld_d] at h
   have h:Own w0 S R w (bld n1 (sgL (32 :: sg) (xs.take i.toNat)++((32 :: sg)++sgT s))^tabF big^rarr l KS xs):=h.fin
   rw [← sgL_take hs,← e] at h
   rw [wi (n:=i+1) (by omega) (by omega)]
   exact ⟨⟨⟨by omega,by omega⟩,h⟩,by omega⟩
  ·have c:¬ i < ((l.len:Nat):Int):=of_decide_eq_false c
   have e:xs.take i.toNat=xs:=List.take_of_length_le (by omega)
   rw [e] at h
   refine w_call (st_tri n1 (sgL (32 :: sg) xs)) h fun r w h=>?_
   obtain ⟨hr,h⟩:=h.purP
   exact Own.retP hr h.emp'
end ScB

namespace ScC
open ScM ScW BldT StrT ScA ScB
abbrev KOu:Ks:=[.sl,.sl,.sl,.int .u64]
abbrev KI:Ks:=[.int .i64]
abbrev OT:=Ks.T KOu × List Sg × List Sg
def otF (p:OT):Ot:=(p.2.1,p.2.2,p.1.2.2.2)
def outP (p:OT):SP:=rarr p.1.1 KS p.2.1^rarr p.1.2.1 KS p.2.2
def outsP (o:Sl) (os:List OT):SP:=rarr o KOu (os.map Prod.fst)^rl outP os
theorem rd_dep {os:List OT} {i:Nat} {p:OT} (h:os[i]?=some p):Rd p.1.1 (rl outP os) KS p.2.1:=rd_rl h (by unfold outP;infer_instance)
theorem rd_drp {os:List OT} {i:Nat} {p:OT} (h:os[i]?=some p):Rd p.1.2.1 (rl outP os) KS p.2.2:=rd_rl h (by unfold outP;infer_instance)
structure FewT (o:Ot):Prop where
 a:∀ s∈o.1,Few s
 b:∀ s∈o.2.1,Few s
 w:o.2.2 < 100
theorem text_tri (big:Bool) (o e:Sl) (os:List OT) (es:List Int) (ho:∀ p∈os,OkT (otF p)) (he:∀ x∈es,x < 9223372036854775808) (hl:es.length≤1000) (hb:big=false→(∀ p∈os,FewT (otF p))∧∀ x∈es,x < 100) :
  Tri Tryz.prog N_script_Text [.lf (.sl o),.lf (.sl e)] [.lf .str] (emp^tabF big^outsP o os^rarr e KI es) (fun r=>pur (r=bA (txF (os.map otF) es)) emp) :=
 tri_0 (call_script_Text o e) fun w0 S R h=>by
  unfold W_script_Text
  rw [l43,l45,l10,l3264]
  have h:Own w0 S R w0 (tabF big^rarr o KOu (os.map Prod.fst)^rl outP os^rarr e KI es):=h.drop.le (star_mono Le.rfl (star_assoc _ _ _))
  have hol:=((h.take (rarr o KOu (os.map Prod.fst))).rd (s:=o)).2
  rw [List.length_map] at hol
  have hel:=((h.take (rarr e KI es)).rd (s:=e)).2
  have hT:∀ t∈os.map otF,OkT t:=fun t ht=>by
   obtain ⟨p,hp,rfl⟩:=List.mem_map.1 ht
   exact ho p hp
  have he':∀ x∈es,x < 18446744073709551616:=fun x hx=>by have:=he x hx;omega
  have hall:(txF (os.map otF) es).length≤12800043 * es.length:=txP_len hT he' es.length
  refine w_newT h fun n1 w h=>?_
  have h:Own w0 S R w (bld n1 (txP (os.map otF) es (0:Int).toNat)^tabF big^rarr o KOu (os.map Prod.fst)^rl outP os^rarr e KI es):=h
  refine w_loop (fun y:Int=>bld n1 (txP (os.map otF) es y.toNat)^tabF big^rarr o KOu (os.map Prod.fst)^rl outP os^rarr e KI es) (fun y:Int=>0≤y∧y≤es.length) (fun y:Int=>es.length - y.toNat) h ⟨Int.le_refl 0,by omega⟩ ?_
  rintro (i:Int) w ⟨h0,h1⟩ h
  refine w_ite (fun c=>?_) fun c=>?_
  ·have c:i < ((e.len:Nat):Int):=of_decide_eq_true c
   have hi:i.toNat < es.length:=by omega
   obtain ⟨x,hx⟩:∃ x,es[i.toNat]?=some x:=⟨_,at_some hi⟩
   have hxm:=List.mem_of_getElem? hx
   have hxl:=he x hxm
   have d1:=dg_len (n:=x) (by omega)
   have hlen:=txP_len hT he' i.toNat
   have ei:(i+1).toNat=i.toNat+1:=by omega
   refine w_idx (s:=e) (h.take (rarr e KI es)) h0 hi (w_ldE (h.take (rarr e KI es)) e i.toNat hx rfl ?_)
   refine w_callL (A:=emp) (Q:=tabF big) (digits_tri big x hxl (fun hb0=>(hb hb0).2 x hxm)) h fun r w h=>?_
   obtain ⟨hr,h⟩:=h.purP;rw [hr,dgB_eq]
   refine w_call (ws_tri n1 (txP (os.map otF) es i.toNat) (bA (dg x)) (by rw [bA_size];omega)) h fun _ w h=>?_
   rw [bld_d] at h
   obtain ⟨M,hM⟩:∃ M,M=(match (os.map otF)[i.toNat]? with | some o=>outT o | none=>([]:List UInt8)):=⟨_,rfl⟩
   have hfin:txP (os.map otF) es (i.toNat+1)=txP (os.map otF) es i.toNat++dg x++M++[10]:=by
    have:lnT (os.map otF) i.toNat x=dg x++(M++[10]):=by rw [hM];rfl
    rw [txP_at hx,this];simp [List.append_assoc]
   have hMl:M.length≤12800022:=by
    rw [hM];split
    ·rename_i t ht;exact outT_len (hT t (List.mem_of_getElem? ht))
    ·exact Nat.zero_le _
   have h:Own w0 S R w (bld n1 (txP (os.map otF) es i.toNat++dg x)^tabF big^rarr o KOu (os.map Prod.fst)^rl outP os^rarr e KI es):=h.fin
   refine w_join h (fun _=>bld n1 (txP (os.map otF) es i.toNat++dg x++M)^tabF big^rarr o KOu (os.map Prod.fst)^rl outP os^rarr e KI es) (fun _=>True) (fun _ w _ h=>?_) ?_
   ·refine w_call (ws_tri n1 (txP (os.map otF) es i.toNat++dg x++M) (bA [10]) (by rw [bA_size];simp only [List.length_append,List.length_singleton];omega)) h fun _ w h=>?_
    rw [bld_d,← hfin,← ei] at h
    rw [wi (n:=i+1) (by omega) (by omega)]
    exact ⟨⟨⟨by omega,by omega⟩,h⟩,by omega⟩
   ·refine w_ite (fun c2=>?_) fun c2=>?_
    ·have c2:i < ((o.len:Nat):Int):=of_decide_eq_true c2
     have hio:i.toNat < os.length:=by omega
     obtain ⟨p,hp⟩:∃ p,os[i.toNat]?=some p:=⟨_,at_some hio⟩
     have hpm:=List.mem_of_getElem? hp
     have hpf:(os.map Prod.fst)[i.toNat]?=some p.1:=by rw [List.getElem?_map,hp];rfl
     have hpt:(os.map otF)[i.toNat]?=some (otF p):=by rw [List.getElem?_map,hp];rfl
     have ok:=ho p hpm
     have hMe:M=outT (otF p):=by rw [hM,hpt]
     haveI:=rd_dep hp
     haveI:=rd_drp hp
     have fw:=fun hb0=>(hb hb0).1 p hpm
     have la:=sgL_len (sign:=[32,43]) (by decide) ok.a
     have lb:=sgL_len (sign:=[32,45]) (by decide) ok.b
     have lla:=ok.la
     have llb:=ok.lb
     refine w_idx (s:=o) (h.take (rarr o KOu (os.map Prod.fst))) h0 (by rw [List.length_map];exact hio) (w_ldE (h.take (rarr o KOu (os.map Prod.fst))) o i.toNat hpf rfl (w_new h fun n12 w h=>w_setAll h (by rfl) fun w h=>w_drw h fun w h=>?_))
     refine w_ld (x:=p.1.1) h rfl (w_ld (x:=p.1.2.1) h rfl ?_)
     have h:Own w0 S R w (tabF big^blk n12 (Ks.mk KOu p.1)^bld n1 (txP (os.map otF) es i.toNat++dg x)^rl outP os^rarr o KOu (os.map Prod.fst)^rarr e KI es):=h.fin
     refine w_callL (A:=emp) (Q:=tabF big^rarr p.1.1 KS p.2.1) (segs_tri big [43] (by decide) p.1.1 p.2.1 ok.a ok.la (fun hb0=>(fw hb0).a)) h fun r w h=>?_
     obtain ⟨hr,h⟩:=h.purP;rw [hr]
     refine w_chk h rfl ?_
     refine w_callL (A:=emp) (Q:=tabF big^rarr p.1.2.1 KS p.2.2) (segs_tri big [45] (by decide) p.1.2.1 p.2.2 ok.b ok.lb (fun hb0=>(fw hb0).b)) h fun r w h=>?_
     obtain ⟨hr,h⟩:=h.purP;rw [hr]
     refine req_sz (by show (sgL [32,43] (otF p).1).length+(sgL [32,45] (otF p).2.1).length≤_;omega) ?_
     rw [bA_app]
     refine w_call (ws_tri n1 (txP (os.map otF) es i.toNat++dg x) (bA (sgL [32,43] p.2.1++sgL [32,45] p.2.2)) (by
      rw [bA_size];simp only [List.length_append]
      show _+_+((sgL [32,43] (otF p).1).length+(sgL [32,45] (otF p).2.1).length)≤_;omega)) h fun _ w h=>?_
     rw [bld_d] at h
     refine w_ld (x:=p.1.2.2.2) h rfl (w_ite (fun c3=>?_) fun c3=>?_)
     ·have c3:p.1.2.2.2≠0:=by simpa using c3
      have dw:=dg_len ok.w.2
      refine w_ld (x:=p.1.2.2.2) h rfl (w_callL (A:=emp) (Q:=tabF big) (fmtu_tri big p.1.2.2.2 ok.w.1 ok.w.2 (fun hb0=>(fw hb0).w)) h fun r w h=>?_)
      obtain ⟨hr,h⟩:=h.purP;rw [hr,dgB_eq]
      have dw:(dg p.1.2.2.2).length≤20:=dw
      refine req_sz (by simp only [List.length_cons,List.length_nil];omega) ?_
      rw [bA_app]
      refine w_call (ws_tri n1 (txP (os.map otF) es i.toNat++dg x++(sgL [32,43] p.2.1++sgL [32,45] p.2.2)) (bA ([32,64]++dg p.1.2.2.2)) (by
       rw [bA_size];simp only [List.length_append,List.length_cons,List.length_nil]
       show _+_+((sgL [32,43] (otF p).1).length+(sgL [32,45] (otF p).2.1).length)+_≤_;omega)) h fun _ w h=>?_
      rw [bld_d] at h
      have em:txP (os.map otF) es i.toNat++dg x++(sgL [32,43] p.2.1++sgL [32,45] p.2.2)++([32,64]++dg p.1.2.2.2)=txP (os.map otF) es i.toNat++dg x++M:=by
       rw [hMe]
       show _=_++(sgL [32,43] p.2.1++(sgL [32,45] p.2.2++(if p.1.2.2.2=0 then [] else [32,64]++dg p.1.2.2.2)))
       rw [if_neg c3]
       simp [List.append_assoc]
      rw [em] at h
      exact ⟨trivial,h.fin⟩
     ·have c3:p.1.2.2.2=0:=by simpa using c3
      have em:txP (os.map otF) es i.toNat++dg x++(sgL [32,43] p.2.1++sgL [32,45] p.2.2)=txP (os.map otF) es i.toNat++dg x++M:=by
       rw [hMe]
       show _=_++(sgL [32,43] p.2.1++(sgL [32,45] p.2.2++(if p.1.2.2.2=0 then [] else [32,64]++dg p.1.2.2.2)))
       rw [if_pos c3]
       simp [List.append_assoc]
      rw [em] at h
      exact ⟨trivial,h.fin⟩
    ·have c2:¬ i < ((o.len:Nat):Int):=of_decide_eq_false c2
     have hn:(os.map otF)[i.toNat]?=none:=List.getElem?_eq_none (by rw [List.length_map];omega)
     have hMe:M=[]:=by rw [hM,hn]
     rw [hMe,List.append_nil]
     exact ⟨trivial,h⟩
  ·have c:¬ i < ((e.len:Nat):Int):=of_decide_eq_false c
   have ei:i.toNat=es.length:=by omega
   rw [ei] at h
   refine w_call (st_tri n1 (txP (os.map otF) es es.length)) h fun r w h=>?_
   obtain ⟨hr,h⟩:=h.purP
   exact Own.retP hr h.emp'
end ScC

namespace ScE
abbrev K8:Ks:=[.int .u8]
abbrev KD:Ks:=[.int .i64,.int .i64,.int .i64,.int .u64,.int .u64,.sl,.int .i64,.int .i64,.int .i64,.int .i64,.int .u64,.int .u64,.bool,.int .i64,.int .i64]
abbrev zD:List Lf:=[.int .i64 0,.int .i64 0,.int .i64 0,.int .u64 0,.int .u64 0,.sl ⟨none,0,0⟩,.int .i64 0,.int .i64 0,.int .i64 0,.int .i64 0,.int .u64 0,.int .u64 0,.bool false,.int .i64 0,.int .i64 0]
abbrev Six:=Int × Int × Int × Int × Int × Int
structure OkX (x:Six):Prop where
 a:0≤x.1∧x.1 < 256
 b:0≤x.2.1∧x.2.1 < 256
 c:0≤x.2.2.1∧x.2.2.1 < 256
 d:0≤x.2.2.2.1∧x.2.2.2.1 < 256
 e:0≤x.2.2.2.2.1∧x.2.2.2.2.1 < 256
 f:0≤x.2.2.2.2.2∧x.2.2.2.2.2 < 256
def odd (x:Six):Bool:=x.2.2.2.2.2.tmod 2 == 1
def dd (x:Six) (z:Sl):Ks.T KD:=(x.1.tmod 10,x.2.1.tmod 9,x.2.2.1 * 100,x.2.2.2.1 * 1000+x.2.2.2.2.1,x.2.2.2.1 * 100000000+x.2.2.2.2.1 * 1000000,z,x.2.2.1 * 100,15000,x.2.2.2.2.1,50,10000000000,x.2.2.2.1 * 10000,odd x,100000,1000)
def ds (x:Six):List (Int × Int):=if odd x=true then [(x.2.2.2.2.1 * 100,x.2.2.2.2.1 * 100+x.2.2.2.2.2 * 100)] else []
def six (xs:List Int) (i:Nat):Six:=(xs.getD (6 * i) 0,xs.getD (6 * i+1) 0,xs.getD (6 * i+2) 0,xs.getD (6 * i+3) 0,xs.getD (6 * i+4) 0,xs.getD (6 * i+5) 0)
def nD (xs:List Int):Nat:=min 300 ((xs.length+5) / 6)
def Byt (xs:List Int):Prop:=∀ x∈xs,0≤x∧x < 256
theorem byt_get {xs:List Int} (h:Byt xs) (j:Nat):0≤xs.getD j 0∧xs.getD j 0 < 256:=by
 rw [List.getD_eq_getElem?_getD]
 cases hh:xs[j]? with
 | none=>exact ⟨by show (0:Int)≤0;omega,by show (0:Int) < 256;omega⟩
 | some x=>exact h x (List.mem_of_getElem? hh)
theorem six_ok {xs:List Int} (h:Byt xs) (i:Nat):OkX (six xs i):=⟨byt_get h _,byt_get h _,byt_get h _,byt_get h _,byt_get h _,byt_get h _⟩
abbrev DX:=Six × Sl
def dv (p:DX):Ks.T KD:=dd p.1 p.2
def sO (p:DX):SP:=arr p.2 KR (ds p.1)
section
variable {w0 w : World} {S0 R0 : Nat → Prop}
instance {α:Type} (f:α→SP) (l:List α) [a:∀ x,NoR (f x)]:NoR (rl f l):=by
 induction l with
 | nil=>exact inferInstanceAs (NoR emp)
 | cons x l ih=>exact inferInstanceAs (NoR (f x^rl f l))
instance (p:DX):NoR (sO p):=by unfold sO;infer_instance
theorem rl_snoc {α:Type} (f:α→SP) (x:α):∀ l:List α,Le (rl f l^f x) (rl f (l++[x]))
 | []=>(star_comm _ _)
 | y :: l=>(star_assoc _ _ _).trans (star_mono Le.rfl (rl_snoc f x l))
end
abbrev pl:Ks.T [.int .i64,.int .i64,.int .i64,.int .i64,.int .u64,.int .u64,.bool,.int .i64,.int .i64]:=(3000,15000,100,50,10000000000,0,false,100000,1000)
theorem splain_tri:Tri Tryz.prog N_script_Plain [] [.agg [.int .i64,.int .i64,.int .i64,.int .i64,.int .u64,.int .u64,.bool,.int .i64,.int .i64]] emp (fun r=>pur (r=pl) emp) :=
 tri_0 call_script_Plain fun w S R h=>by
  unfold W_script_Plain
  repeat' (first
   | (refine w_drw h fun w h=>?_)
   | (refine w_deref ?_)
   | (refine w_ldAll h rfl ?_)
   | (refine w_ld h rfl ?_)
   | (refine w_chkAll h ?_)
   | (refine w_chk h rfl ?_)
   | (refine w_setAll h (by rfl) fun w h=>?_)
   | (refine w_new h fun n w h=>?_)
   | (refine w_leave h fun w h=>?_)
   | (refine w_set h rfl fun w h=>?_;dsimp only [upd,over] at h))
  all_goals exact Own.retP rfl h.emp'
theorem rplain_tri:Tri Tryz.prog N_canterref20_Plain [] [.agg [.int .i64,.int .i64,.int .i64,.int .i64,.int .u64,.int .u64,.bool,.int .i64,.int .i64]] emp (fun r=>pur (r=pl) emp) :=
 tri_0 call_canterref20_Plain fun w S R h=>by
  unfold W_canterref20_Plain
  repeat' (first
   | (refine w_drw h fun w h=>?_)
   | (refine w_deref ?_)
   | (refine w_ldAll h rfl ?_)
   | (refine w_ld h rfl ?_)
   | (refine w_chkAll h ?_)
   | (refine w_chk h rfl ?_)
   | (refine w_setAll h (by rfl) fun w h=>?_)
   | (refine w_new h fun n w h=>?_)
   | (refine w_leave h fun w h=>?_)
   | (refine w_set h rfl fun w h=>?_;dsimp only [upd,over] at h))
  all_goals exact Own.retP rfl h.emp'
theorem deed_tri (x:Six) (hx:OkX x):Tri Tryz.prog N_script_deed [.agg (Ks.mk [.int .i64,.int .i64,.int .i64,.int .i64,.int .i64,.int .i64] x)] [.agg KD] emp (fun r=>ex fun z=>pur (r=dd x z) (arr z KR (ds x))) :=
 tri_0 (call_script_deed x) fun w0 S R h=>by
  unfold W_script_deed
  have ha:=hx.a
  have hb:=hx.b
  have hc:=hx.c
  have hd:=hx.d
  have he:=hx.e
  have hf:=hx.f
  refine w_new h fun n1 w h=>w_new h fun n2 w h=>w_drw h fun w h=>?_
  refine ScW.w_req (by decide) (ScW.w_req (by decide) (ScW.w_req (by decide) (ScW.w_req (by decide) (ScW.w_req (by decide) (ScW.w_req (by decide) ?_)))))
  refine w_ld (x:=x.1) h rfl (w_ld (x:=x.2.1) h rfl (w_ld (x:=x.2.2.1) h rfl (w_ld (x:=x.2.2.2.1) h rfl (w_ld (x:=x.2.2.2.2.1) h rfl (w_ld (x:=x.2.2.2.2.2) h rfl ?_)))))
  refine w_chk h rfl (w_chk h rfl (w_chk h rfl (w_chk h rfl (w_chk h rfl (w_chk h rfl (w_chk h rfl (w_chk h rfl (w_chk h rfl (w_chk h rfl (w_chk h rfl (w_chk h rfl (w_chk h rfl (w_chk h rfl (w_chk h rfl ?_))))))))))))))
  refine w_call splain_tri (h.le ((star_emp _).trans (star_comm _ _))) fun r w h=>?_
  obtain ⟨hr,h⟩:=h.purP;rw [hr]
  have h:=h.drop
  have e1:IntKind.i64.wrap (x.2.2.1 * 100)=x.2.2.1 * 100:=wi (by omega) (by omega)
  have e2:IntKind.i64.wrap (x.2.2.2.1 * 1000)=x.2.2.2.1 * 1000:=wi (by omega) (by omega)
  have e3:IntKind.i64.wrap (x.2.2.2.1 * 1000+x.2.2.2.2.1)=x.2.2.2.1 * 1000+x.2.2.2.2.1:=wi (by omega) (by omega)
  have e4:IntKind.u64.wrap (x.2.2.2.1 * 1000+x.2.2.2.2.1)=x.2.2.2.1 * 1000+x.2.2.2.2.1:=wu (by omega) (by omega)
  have e5:IntKind.i64.wrap (x.2.2.2.1 * 100000000)=x.2.2.2.1 * 100000000:=wi (by omega) (by omega)
  have e6:IntKind.i64.wrap (x.2.2.2.2.1 * 1000000)=x.2.2.2.2.1 * 1000000:=wi (by omega) (by omega)
  have e7:IntKind.i64.wrap (x.2.2.2.1 * 100000000+x.2.2.2.2.1 * 1000000)=x.2.2.2.1 * 100000000+x.2.2.2.2.1 * 1000000:=wi (by omega) (by omega)
  have e8:IntKind.u64.wrap (x.2.2.2.1 * 100000000+x.2.2.2.2.1 * 1000000)=x.2.2.2.1 * 100000000+x.2.2.2.2.1 * 1000000:=wu (by omega) (by omega)
  have e9:IntKind.i64.wrap (x.2.2.2.2.1 * 100)=x.2.2.2.2.1 * 100:=wi (by omega) (by omega)
  have e10:IntKind.u64.wrap (x.2.2.2.2.1 * 100)=x.2.2.2.2.1 * 100:=wu (by omega) (by omega)
  have e11:IntKind.i64.wrap (x.2.2.2.2.2 * 100)=x.2.2.2.2.2 * 100:=wi (by omega) (by omega)
  have e12:IntKind.i64.wrap (x.2.2.2.2.1 * 100+x.2.2.2.2.2 * 100)=x.2.2.2.2.1 * 100+x.2.2.2.2.2 * 100:=wi (by omega) (by omega)
  have e13:IntKind.u64.wrap (x.2.2.2.2.1 * 100+x.2.2.2.2.2 * 100)=x.2.2.2.2.1 * 100+x.2.2.2.2.2 * 100:=wu (by omega) (by omega)
  have e14:IntKind.i64.wrap (x.2.2.2.1 * 10000)=x.2.2.2.1 * 10000:=wi (by omega) (by omega)
  have e15:IntKind.u64.wrap (x.2.2.2.1 * 10000)=x.2.2.2.1 * 10000:=wu (by omega) (by omega)
  rw [e1,e2,e3,e4,e5,e6,e7,e8,e9,e10,e11,e12,e13,e14,e15]
  refine w_new h fun n10 w h=>w_setAll h (by rfl) fun w h=>?_
  refine w_join h (fun _=>ex fun z=>blk n10 [.int .i64 (x.1.tmod 10),.int .i64 (x.2.1.tmod 9),.int .i64 (x.2.2.1 * 100),.int .u64 (x.2.2.2.1 * 1000+x.2.2.2.2.1),.int .u64 (x.2.2.2.1 * 100000000+x.2.2.2.2.1 * 1000000),.sl z,.int .i64 3000,.int .i64 15000,.int .i64 100,.int .i64 50,.int .u64 10000000000,.int .u64 0,.bool false,.int .i64 100000,.int .i64 1000]^blk n2 zD^arr z KR (ds x)) (fun _=>True) (fun _ w _ h=>?_) ?_
  ·obtain ⟨z,h⟩:=(h.le (star_emp _)).exP
   refine w_setTo h n10 [.int .i64 (x.1.tmod 10),.int .i64 (x.2.1.tmod 9),.int .i64 (x.2.2.1 * 100),.int .u64 (x.2.2.2.1 * 1000+x.2.2.2.2.1),.int .u64 (x.2.2.2.1 * 100000000+x.2.2.2.2.1 * 1000000),.sl z,.int .i64 (x.2.2.1 * 100),.int .i64 15000,.int .i64 100,.int .i64 50,.int .u64 10000000000,.int .u64 0,.bool false,.int .i64 100000,.int .i64 1000] rfl rfl rfl fun w h=>?_
   refine w_setTo h n10 [.int .i64 (x.1.tmod 10),.int .i64 (x.2.1.tmod 9),.int .i64 (x.2.2.1 * 100),.int .u64 (x.2.2.2.1 * 1000+x.2.2.2.2.1),.int .u64 (x.2.2.2.1 * 100000000+x.2.2.2.2.1 * 1000000),.sl z,.int .i64 (x.2.2.1 * 100),.int .i64 15000,.int .i64 100,.int .i64 50,.int .u64 10000000000,.int .u64 (x.2.2.2.1 * 10000),.bool false,.int .i64 100000,.int .i64 1000] rfl rfl rfl fun w h=>?_
   refine w_setTo h n10 [.int .i64 (x.1.tmod 10),.int .i64 (x.2.1.tmod 9),.int .i64 (x.2.2.1 * 100),.int .u64 (x.2.2.2.1 * 1000+x.2.2.2.2.1),.int .u64 (x.2.2.2.1 * 100000000+x.2.2.2.2.1 * 1000000),.sl z,.int .i64 (x.2.2.1 * 100),.int .i64 15000,.int .i64 x.2.2.2.2.1,.int .i64 50,.int .u64 10000000000,.int .u64 (x.2.2.2.1 * 10000),.bool false,.int .i64 100000,.int .i64 1000] rfl rfl rfl fun w h=>?_
   refine w_setTo h n10 [.int .i64 (x.1.tmod 10),.int .i64 (x.2.1.tmod 9),.int .i64 (x.2.2.1 * 100),.int .u64 (x.2.2.2.1 * 1000+x.2.2.2.2.1),.int .u64 (x.2.2.2.1 * 100000000+x.2.2.2.2.1 * 1000000),.sl z,.int .i64 (x.2.2.1 * 100),.int .i64 15000,.int .i64 x.2.2.2.2.1,.int .i64 50,.int .u64 10000000000,.int .u64 (x.2.2.2.1 * 10000),.bool (odd x),.int .i64 100000,.int .i64 1000] rfl rfl rfl fun w h=>?_
   refine w_ldAll (x:=dd x z) h rfl ?_
   refine w_setAll h (by rfl) fun w h=>?_
   refine w_ldAll (x:=dd x z) h rfl ?_
   exact Own.retE z (Own.retP rfl h.fin)
  ·refine w_ite (fun c=>?_) fun c=>?_
   ·have hds:ds x=[(x.2.2.2.2.1 * 100,x.2.2.2.2.1 * 100+x.2.2.2.2.2 * 100)]:=if_pos c
    refine w_new h fun n13 w h=>w_setTo h n10 [.int .i64 (x.1.tmod 10),.int .i64 (x.2.1.tmod 9),.int .i64 (x.2.2.1 * 100),.int .u64 (x.2.2.2.1 * 1000+x.2.2.2.2.1),.int .u64 (x.2.2.2.1 * 100000000+x.2.2.2.2.1 * 1000000),.sl ⟨some ⟨n13,0⟩,1,1⟩,.int .i64 3000,.int .i64 15000,.int .i64 100,.int .i64 50,.int .u64 10000000000,.int .u64 0,.bool false,.int .i64 100000,.int .i64 1000] rfl rfl rfl fun w h=>?_
    have h:=h.blkArr n13 KR [(x.2.2.2.2.1 * 100,x.2.2.2.2.1 * 100+x.2.2.2.2.2 * 100)] rfl (by simp)
    have h:=h.arrEq (s:=⟨some ⟨n13,0⟩,1,1⟩) (K:=KR) (ys:=ds x) hds.symm
    exact ⟨trivial,Own.retE ⟨some ⟨n13,0⟩,1,1⟩ h.fin⟩
   ·have hds:ds x=[]:=if_neg (by intro h';rw [odd] at h';rw [h'] at c;cases c)
    have h:=h.nil KR
    have h:=h.arrEq (s:=⟨none,0,0⟩) (K:=KR) (ys:=ds x) hds.symm
    exact ⟨trivial,Own.retE ⟨none,0,0⟩ h.fin⟩
end ScE

namespace ScF
open ScE
theorem range_snoc (f:Nat→Six) (k:Nat):(List.range (k+1)).map f=(List.range k).map f++[f k]:=by rw [List.range_succ,List.map_append];rfl
def cell (l:List Int) (i j:Nat):Int:=if j < i then l.getD j 0 else 0
def cells (l:List Int) (i:Nat):List Lf:=[.int .i64 (cell l i 0),.int .i64 (cell l i 1),.int .i64 (cell l i 2),.int .i64 (cell l i 3),.int .i64 (cell l i 4),.int .i64 (cell l i 5)]
theorem cells_s (l:List Int) {i:Nat} (hi:i < 6) {x:Int} (hx:l[i]?=some x):upd (cells l i) (0+i * 1) [.int .i64 x]=cells l (i+1):=by
 have e:x=l.getD i 0:=by rw [List.getD_eq_getElem?_getD,hx];rfl
 rw [e]
 have:i=0∨i=1∨i=2∨i=3∨i=4∨i=5:=by omega
 rcases this with h | h | h | h | h | h<;>rw [h]<;>rfl
theorem cell_e (l:List Int) (j:Nat):cell l l.length j=l.getD j 0:=by
 unfold cell
 split
 ·rfl
 ·rw [List.getD_eq_getElem?_getD,List.getElem?_eq_none (by omega)];rfl
theorem cells_e (l:List Int):cells l l.length=Ks.mk [.int .i64,.int .i64,.int .i64,.int .i64,.int .i64,.int .i64] (l.getD 0 0,l.getD 1 0,l.getD 2 0,l.getD 3 0,l.getD 4 0,l.getD 5 0):=by
 unfold cells
 simp only [cell_e]
 rfl
theorem get_chunk (xs:List Int) (k j:Nat) (hj:j < 6):((xs.drop k).take (min 6 (xs.drop k).length)).getD j 0=xs.getD (k+j) 0:=by
 rw [List.getD_eq_getElem?_getD,List.getD_eq_getElem?_getD,List.getElem?_take,List.getElem?_drop]
 split
 ·rfl
 ·rw [List.getElem?_eq_none (by rw [List.length_drop] at *;omega)]
theorem chunk_six (xs:List Int) (i:Nat):∀ l:List Int,l=(xs.drop (6 * i)).take (min 6 (xs.drop (6 * i)).length)→(l.getD 0 0,l.getD 1 0,l.getD 2 0,l.getD 3 0,l.getD 4 0,l.getD 5 0)=six xs i:=by
 intro l hl
 rw [hl,get_chunk _ _ _ (by decide),get_chunk _ _ _ (by decide),get_chunk _ _ _ (by decide),get_chunk _ _ _ (by decide),get_chunk _ _ _ (by decide),get_chunk _ _ _ (by decide)]
 rfl
def dsP (r:Sl) (ps:List DX):SP:=arr r KD (ps.map dv)^rl sO ps
instance (r:Sl) (ps:List DX):NoR (dsP r ps):=by unfold dsP;infer_instance
def Upto (xs:List Int) (ps:List DX):Prop:=ps.map Prod.fst=(List.range ps.length).map (six xs)
theorem upto_snoc {xs:List Int} {ps:List DX} (h:Upto xs ps) (z:Sl):Upto xs (ps++[(six xs ps.length,z)]):=by
 unfold Upto at *
 rw [List.map_append,h,List.length_append]
 exact (range_snoc _ _).symm
section
variable {w0 w : World} {S0 R0 : Nat → Prop} {G : SP}
theorem nrm_of {s:Sl} {K:Ks} {xs:List (Ks.T K)} {F:SP} (h:Own w0 S0 R0 w F) [Rd s F K xs] (hl:s.len≠0):Nrm s:=Nrm.long (h.rd (s:=s)).1 hl
end
theorem decode_tri (b:Sl) (xs:List Int) (hb:b.len≤b.cap) (hx:Byt xs) (hl:xs.length≤1000000) :
  Tri Tryz.prog N_script_Decode [.lf (.sl b)] [.lf .sl] (emp^rarr b K8 xs) (fun r=>ex fun ps:List DX=>pur (Upto xs ps∧ps.length=nD xs) (dsP r ps)) :=
 tri_0 (call_script_Decode b) fun w0 S R h=>by
  unfold W_script_Decode
  have h:=(h.drop.nil KD)
  have h:Own w0 S R w0 (rarr b K8 xs^dsP ⟨none,0,0⟩ []):=Own.fin (A:=rarr b K8 xs^arr ⟨none,0,0⟩ KD []^emp) h
  refine w_loopE (fun (y:Sl × Sl) (ps:List DX)=>rarr b K8 xs^dsP y.2 ps) (fun (y:Sl × Sl) (ps:List DX)=>Upto xs ps∧Rd y.1 (rarr b K8 xs) K8 (xs.drop (6 * ps.length))∧y.1.len≤y.1.cap∧ps.length≤300∧6 * ps.length < xs.length+6) (fun (y:Sl × Sl) (ps:List DX)=>xs.length - 6 * ps.length) [] h ⟨rfl,by show Rd b _ K8 (xs.drop 0);rw [List.drop_zero];infer_instance,hb,Nat.zero_le _,by show 6 * 0 < _;omega⟩ ?_
  rintro K (⟨c,d⟩:Sl × Sl) ps w ⟨hu,hr,hc,h3,h6⟩ h next
  dsimp only at hr hc h ⊢
  haveI:=hr
  have h:Own w0 S R w (rarr b K8 xs^arr d KD (ps.map dv)^rl sO ps):=h
  have hcl:=(h.rd (s:=c)).2
  have hdl:=((h.take (arr d KD (ps.map dv))).rd (s:=d)).2
  rw [List.length_drop] at hcl
  rw [List.length_map] at hdl
  refine w_ite (fun c1=>?_) fun c1=>?_
  ·have c1:((c.len:Nat):Int) > 0:=of_decide_eq_true c1
   refine w_ite (fun c2=>?_) fun c2=>?_
   ·have c2:((d.len:Nat):Int)=300:=by simpa using c2
    exact Own.retE ps (Own.retP ⟨hu,by unfold nD;omega⟩ (Own.fin (A:=arr d KD (ps.map dv)^rl sO ps) h))
   ·have c2:¬ ((d.len:Nat):Int)=300:=by simpa using c2
    have hN:=nrm_of (s:=c) h (by omega)
    obtain ⟨m,hm⟩:∃ m,m=min 6 c.len:=⟨_,rfl⟩
    have em:(if (6:Int) < ((c.len:Nat):Int) then (6:Int) else ((c.len:Nat):Int))=((m:Nat):Int):=by split<;>omega
    rw [em]
    obtain ⟨l,hl'⟩:∃ l,l=(xs.drop (6 * ps.length)).take (min 6 (xs.drop (6 * ps.length)).length):=⟨_,rfl⟩
    have hll:l.length=m:=by rw [hl',List.length_take,List.length_drop];omega
    have elm:(xs.drop (6 * ps.length)).take m=l:=by rw [hl',List.length_drop];congr 1;omega
    refine w_new h fun n3 w h=>?_
    refine w_slcR (s:=c) h hN 0 m c.cap rfl rfl rfl rfl (Nat.zero_le _) (by rw [List.length_drop];omega) (by omega) (by omega) fun hs4 hr4=>?_
    rw [elm,List.drop_zero] at hr4
    have hr4b:=rd_sub c (rarr b K8 xs) K8 (xs.drop (6 * ps.length)) 0 m c.cap (Nat.zero_le _) (by rw [List.length_drop];omega) (by omega)
    rw [elm,List.drop_zero] at hr4b
    haveI:Rd (c.sub 0 m c.cap 1) (rarr b K8 xs) K8 l:=hr4b
    have h:Own w0 S R w (blk n3 (cells l (0:Int).toNat)^rarr b K8 xs^arr d KD (ps.map dv)^rl sO ps):=h
    refine w_loop (fun i:Int=>blk n3 (cells l i.toNat)^rarr b K8 xs^arr d KD (ps.map dv)^rl sO ps) (fun i:Int=>0≤i∧i≤m) (fun i:Int=>m - i.toNat) h ⟨Int.le_refl 0,by omega⟩ ?_
    rintro (i:Int) w ⟨i0,i1⟩ h
    refine w_ite (fun c3=>?_) fun c3=>?_
    ·have c3:i < (((c.sub 0 m c.cap 1).len:Nat):Int):=of_decide_eq_true c3
     rw [hs4] at c3
     have hi:i.toNat < l.length:=by omega
     obtain ⟨x,hx1⟩:∃ x,l[i.toNat]?=some x:=⟨_,at_some hi⟩
     have hxm:x∈xs:=List.mem_of_mem_drop (List.mem_of_mem_take (by rw [← hl'];exact List.mem_of_getElem? hx1))
     have hxb:=hx x hxm
     refine w_idx (s:=c.sub 0 m c.cap 1) h i0 hi (w_ldE h (c.sub 0 m c.cap 1) i.toNat hx1 rfl (ScW.w_req ⟨i0,by omega⟩ ?_))
     rw [wi (n:=x) (by omega) (by omega)]
     have ei:(i+1).toNat=i.toNat+1:=by omega
     refine w_setTo h n3 (cells l (i.toNat+1)) rfl ?_ (cells_s l (by omega) hx1) fun w h=>?_
     ·show Nat.ble (0+i.toNat * 1+1) 6=true
      rw [Nat.ble_eq];omega
     ·rw [wi (n:=i+1) (by omega) (by omega)]
      refine ⟨⟨⟨by show (0:Int)≤i+1;omega,by show i+1≤_;omega⟩,?_⟩,by show m - (i+1).toNat < _;omega⟩
      show Own w0 S R w (blk n3 (cells l (i+1).toNat)^_)
      rw [ei]
      exact h
    ·have c3:¬ i < (((c.sub 0 m c.cap 1).len:Nat):Int):=of_decide_eq_false c3
     rw [hs4] at c3
     have ei:i.toNat=l.length:=by omega
     rw [ei,cells_e,chunk_six xs ps.length l hl'] at h
     refine w_slcR (s:=c) h hN m c.len c.cap rfl rfl rfl rfl (by omega) (by rw [List.length_drop];omega) hc (Nat.le_refl _) fun hs9 _=>?_
     have hr9:=rd_sub c (rarr b K8 xs) K8 (xs.drop (6 * ps.length)) m c.len c.cap (by omega) (by rw [List.length_drop];omega) hc
     refine w_ldAll (x:=six xs ps.length) h rfl ?_
     refine w_call (deed_tri (six xs ps.length) (six_ok hx _)) (h.le ((star_emp _).trans (star_comm _ _))) fun r w h=>?_
     obtain ⟨z,h⟩:=h.exP
     obtain ⟨hr',h⟩:=h.purP
     rw [hr']
     refine w_new h fun n12 w h=>?_
     have h:=h.blkArr n12 KD [dd (six xs ps.length) z] rfl (by simp)
     have h:Own w0 S R w (arr ⟨some ⟨n12,0⟩,1,1⟩ KD [dd (six xs ps.length) z]^arr d KD (ps.map dv)^rarr b K8 xs^rl sO ps^arr z KR (ds (six xs ps.length))):=h.fin
     refine w_app (s:=d) (x:=⟨some ⟨n12,0⟩,1,1⟩) h rfl (by rw [List.length_map,List.length_singleton];omega) fun s13 w hs13 h=>?_
     have h:Own w0 S R w ((rarr b K8 xs^arr s13 KD (ps.map dv++[dd (six xs ps.length) z]))^(rl sO ps^arr z KR (ds (six xs ps.length)))):=h.fin
     have h:=h.le (star_mono Le.rfl (rl_snoc sO (six xs ps.length,z) ps))
     have ed:ps.map dv++[dd (six xs ps.length) z]=(ps++[(six xs ps.length,z)]).map dv:=by rw [List.map_append];rfl
     rw [ed] at h
     refine next (c.sub m c.len c.cap 1,s13) (ps++[(six xs ps.length,z)]) w ⟨upto_snoc hu z,?_,?_,?_,?_⟩ (h.le (star_assoc _ _ _)) ?_
     ·have e1:(((xs.drop (6 * ps.length)).take c.len).drop m)=xs.drop (6 * (ps++[(six xs ps.length,z)]).length):=by
       rw [List.take_of_length_le (by rw [List.length_drop];omega),List.drop_drop,List.length_append,List.length_singleton]
       by_cases hh:6≤c.len
       ·congr 1;omega
       ·rw [List.drop_eq_nil_of_le (by omega),List.drop_eq_nil_of_le (by omega)]
      rw [e1] at hr9
      exact hr9
     ·show c.len - m≤c.cap - m
      omega
     ·rw [List.length_append,List.length_singleton];omega
     ·rw [List.length_append,List.length_singleton];omega
     ·show xs.length - 6 * (ps++[(six xs ps.length,z)]).length < xs.length - 6 * ps.length
      rw [List.length_append,List.length_singleton];omega
  ·have c1:¬ ((c.len:Nat):Int) > 0:=of_decide_eq_false c1
   exact Own.retE ps (Own.retP ⟨hu,by unfold nD;omega⟩ (Own.fin (A:=arr d KD (ps.map dv)^rl sO ps) h))
end ScF

namespace ScH
open ScE ScF
theorem dsP_split {w0 w:World} {S0 R0:Nat→Prop} {F:SP} {r:Sl} {ps:List DX} (h:Own w0 S0 R0 w (dsP r ps^F)):Own w0 S0 R0 w (arr r KD (ps.map dv)^rl sO ps^F):=h.le (star_assoc _ _ _)
instance (F:SP):Lend (ScC.outsP ⟨none,0,0⟩ []) F:=by
 unfold ScC.outsP
 exact inferInstanceAs (Lend (rarr ⟨none,0,0⟩ ScC.KOu []^emp) F)
theorem l53:(⟨#[53,10]⟩:ByteArray)=ScM.bA [53,10]:=rfl
theorem awake_tri:Tri Tryz.prog N_canterlaw28_awake [] [.lf .bool] emp (fun r=>pur (r=true) emp) :=
 tri_0 call_canterlaw28_awake fun w0 S R h=>by
  unfold W_canterlaw28_awake
  refine w_new h fun n1 w h=>?_
  have h:=h.blkArr n1 K8 [1,2] rfl (by simp)
  refine w_callL (A:=emp) (Q:=rarr ⟨some ⟨n1,0⟩,2,2⟩ K8 [1,2]) (decode_tri ⟨some ⟨n1,0⟩,2,2⟩ [1,2] (Nat.le_refl _) (by intro x hx;simp at hx;omega) (by decide)) (h.le ((star_emp _).trans (star_comm _ _))) fun r w h=>?_
  obtain ⟨ps,h⟩:=h.exP
  obtain ⟨⟨hu,hn⟩,h⟩:=h.purP
  have h:=dsP_split h
  have hn:ps.length=1:=hn
  obtain ⟨p,hp⟩:∃ p,ps[0]?=some p:=⟨_,at_some (by omega)⟩
  have hp1:p.1=(1,2,0,0,0,0):=by
   unfold Upto at hu
   rw [hn] at hu
   have:=congrArg (fun l=>l[0]?) hu
   simp only [List.getElem?_map,hp,Option.map_some] at this
   have h2:some p.1=some ((1,2,0,0,0,0):Six):=this
   exact Option.some.inj h2
  have hpf:(ps.map dv)[0]?=some (dv p):=by rw [List.getElem?_map,hp];rfl
  have hr:=(h.rd (s:=r)).2
  rw [List.length_map,hn] at hr
  have hl1:(0:Int).toNat < (ps.map dv).length:=by rw [List.length_map,hn];decide
  refine w_ite (fun _=>?_) fun c=>absurd c (by rw [hr];decide)
  refine w_idx (s:=r) h (Int.le_refl 0) hl1 (w_ldA h r 0 0 (dv p) hpf rfl (by decide) (x:=(dv p).1) rfl ?_)
  refine w_ite (fun _=>?_) fun c=>absurd c (by unfold dv;rw [hp1];show ¬ ((_:Bool)=false);simp [dd])
  refine w_idx (s:=r) h (Int.le_refl 0) hl1 (w_ldA h r 0 1 (dv p) hpf rfl (by decide) (x:=(dv p).2.1) rfl ?_)
  refine w_ite (fun _=>?_) fun c=>absurd c (by unfold dv;rw [hp1];show ¬ ((_:Bool)=false);simp [dd])
  refine w_new h fun n7 w h=>?_
  have h:=h.blkArr n7 ScC.KI [5] rfl (by simp)
  have h:Own w0 S R w (StrT.tabF false^arr ⟨some ⟨n7,0⟩,1,1⟩ ScC.KI [5]):=h.keep.le ((star_emp _).trans (star_comm _ _))
  refine w_callL (A:=emp) (Q:=StrT.tabF false^ScC.outsP ⟨none,0,0⟩ []^rarr ⟨some ⟨n7,0⟩,1,1⟩ ScC.KI [5]) (ScC.text_tri false ⟨none,0,0⟩ ⟨some ⟨n7,0⟩,1,1⟩ [] [5] (fun _ h=>by cases h) (by decide) (by decide) (fun _=>⟨fun _ h=>(by cases h),by decide⟩)) (h.le ((star_emp _).trans (star_comm _ _))) fun r8 w h=>?_
  obtain ⟨hr8,h⟩:=h.purP
  have h:=h.drop
  have e5:ScM.txF (([]:List ScC.OT).map ScC.otF) [5]=[53,10]:=by
   show (ScM.dg 5++([]++[10]):List UInt8)=_
   rw [show ScM.dg 5=[53] from _root_.Go.Lib.decDigits_one (i:=5) (by decide)]
   rfl
  refine w_ite (fun _=>?_) fun c=>absurd c (by rw [hr8,e5,l53];simp)
  refine w_call splain_tri (h.le ((star_emp _).trans (star_comm _ _))) fun r9 w h=>?_
  obtain ⟨hr9,h⟩:=h.purP
  refine w_call rplain_tri h fun r10 w h=>?_
  obtain ⟨hr10,h⟩:=h.purP
  rw [hr9,hr10]
  exact Own.retP rfl h.emp'
end ScH

end Go.X
