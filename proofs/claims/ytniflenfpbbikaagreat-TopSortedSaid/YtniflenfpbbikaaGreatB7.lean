/- Contracts and plain facts: SockA SockB SockM SockC SockD SockE SockF SockG SockH SockI SockJ SockK SockL SockN SockO SockP. -/
import Derived.Test.YtniflenfpbbikaaGreatB0
import Derived.Test.YtniflenfpbbikaaGreatB1
import Derived.Test.YtniflenfpbbikaaGreatB5
import Derived.Test.YtniflenfpbbikaaGreatB6
import Derived.Test.YtniflenfpbbikaaGreatK
import Derived.Test.YtniflenfpbbikaaGreatF0
import Derived.Test.YtniflenfpbbikaaGreatF1
import Derived.Test.YtniflenfpbbikaaGreatF2
set_option linter.unusedVariables false
set_option linter.unusedSimpArgs false
set_option linter.unusedSectionVars false
namespace Go.X
open Go.Proofs
namespace SockA
open Arith ArithC
abbrev Bf:=Int × Int × Int × Int
abbrev KBf:Ks:=[.int .u64,.int .u64,.int .u64,.int .u64]
abbrev bW (b:Bf):Int:=b.1
abbrev bN (b:Bf):Int:=b.2.1
abbrev bU (b:Bf):Int:=b.2.2.1
abbrev bL (b:Bf):Int:=b.2.2.2
structure OkBf (b:Bf):Prop where
 u:0≤bU b
 un:bU b≤bN b
 nw:bN b≤bW b
 l:bW b - bU b≤bL b
 ll:bL b≤1073741824
 w:bW b≤4611686018427387904
def wrF (b:Bf) (n:Int):Int × Bf:=if n < 1 then (1,b) else if n > bL b - (bW b - bU b) then (5,b) else (0,(bW b+n,bN b,bU b,bL b))
def tkF (b:Bf) (most:Int):((Int × Int) × Bool) × Bf:=if most ≥ 1∧bW b - bN b≠0 then (((bN b,bN b+min (bW b - bN b) most),true),(bW b,bN b+min (bW b - bN b) most,bU b,bL b)) else (((0,0),false),b)
def akF (b:Bf) (upto:Int):Int × Bf:=if upto > bN b then (11,b) else (0,(bW b,bN b,if upto > bU b then upto else bU b,bL b))
theorem OkBf.ak {b:Bf} (h:OkBf b) (upto:Int):OkBf (akF b upto).2:=by
 have h1:=h.u
 have h2:=h.un
 have h3:=h.nw
 have h4:=h.l
 unfold akF
 split
 ·exact h
 ·refine ⟨?_,?_,h3,?_,h.ll,h.w⟩
  ·show 0≤if upto > bU b then upto else bU b
   split<;>omega
  ·show (if upto > bU b then upto else bU b)≤bN b
   split<;>omega
  ·show bW b - (if upto > bU b then upto else bU b)≤bL b
   split<;>omega
theorem bnew_tri (n:Int):Tri Tryz.prog N_buffer_New [.lf (.int .i64 n)] [.lf .ptr] emp (fun r=>ex fun p:Nat=>pur (r=some ⟨p,0⟩) (blk p (Ks.mk KBf (0,0,0,IntKind.u64.wrap (if (1073741824:Int) < (if (0:Int) > n then (0:Int) else n) then (1073741824:Int) else (if (0:Int) > n then (0:Int) else n)))))) :=
 tri_0 (call_buffer_New n) fun w0 S R h=>by
  unfold W_buffer_New
  refine w_new h fun p w h=>?_
  exact Own.retE p (Own.retP rfl h.keep)
theorem bunsent_tri (p:Nat) (b:Bf) (hb:OkBf b):Tri Tryz.prog N_buffer_Buffer_Unsent [.lf (.ptr (some ⟨p,0⟩))] [.lf (.int .u64)] (blk p (Ks.mk KBf b)) (fun r=>pur (r=bW b - bN b) (blk p (Ks.mk KBf b))) :=
 tri_0 (call_buffer_Buffer_Unsent (some ⟨p,0⟩)) fun w0 S R h=>by
  unfold W_buffer_Buffer_Unsent
  have h2:=hb.un
  have h3:=hb.nw
  have h4:=hb.u
  have h5:=hb.w
  refine w_ite (fun c=>(by simp at c)) fun _=>w_drw h fun w h=>w_deref (w_deref (w_ld h rfl (w_ld h rfl ?_)))
  exact Own.retP (wu (n:=bW b - bN b) (by omega) (by omega)) h
theorem bheld_tri (p:Nat) (b:Bf) (hb:OkBf b):Tri Tryz.prog N_buffer_Buffer_Held [.lf (.ptr (some ⟨p,0⟩))] [.lf (.int .u64)] (blk p (Ks.mk KBf b)) (fun r=>pur (r=bW b - bU b) (blk p (Ks.mk KBf b))) :=
 tri_0 (call_buffer_Buffer_Held (some ⟨p,0⟩)) fun w0 S R h=>by
  unfold W_buffer_Buffer_Held
  have h2:=hb.un
  have h3:=hb.nw
  have h4:=hb.u
  have h5:=hb.w
  refine w_ite (fun c=>(by simp at c)) fun _=>w_drw h fun w h=>w_deref (w_deref (w_ld h rfl (w_ld h rfl ?_)))
  exact Own.retP (wu (n:=bW b - bU b) (by omega) (by omega)) h
theorem bwrite_tri (p:Nat) (b:Bf) (hb:OkBf b) (n:Int) (hn:n < 9223372036854775808):Tri Tryz.prog N_buffer_Buffer_Write [.lf (.ptr (some ⟨p,0⟩)),.lf (.int .i64 n)] [.lf (.int .i64)] (blk p (Ks.mk KBf b)) (fun r=>pur (r=(wrF b n).1) (blk p (Ks.mk KBf (wrF b n).2))) :=
 tri_0 (call_buffer_Buffer_Write (some ⟨p,0⟩) n) fun w0 S R h=>by
  unfold W_buffer_Buffer_Write
  have h1:=hb.un
  have h2:=hb.nw
  have h3:=hb.u
  have h4:=hb.l
  have h5:=hb.ll
  have h6:=hb.w
  refine w_ite (fun c=>(by simp at c)) fun _=>w_ite (fun c=>?_) fun c=>?_
  ·have c:n < 1:=of_decide_eq_true c
   have e:wrF b n=(1,b):=by unfold wrF;rw [if_pos c]
   rw [e]
   exact Own.retP rfl h
  have c:¬ n < 1:=of_decide_eq_false c
  refine w_drw h fun w h=>w_deref (w_ld h rfl (w_call (bheld_tri p b hb) h fun r w h=>?_))
  obtain ⟨hr,h⟩:=h.purP;rw [hr]
  refine w_chk h rfl (w_ite (fun c2=>?_) fun c2=>?_)
  ·have c2:=of_decide_eq_true c2
   have c2:IntKind.u64.wrap n > IntKind.u64.wrap (bL b - (bW b - bU b)):=c2
   rw [wu (n:=n) (by omega) (by omega),wu (n:=bL b - (bW b - bU b)) (by omega) (by omega)] at c2
   have e:wrF b n=(5,b):=by unfold wrF;rw [if_neg c,if_pos c2]
   rw [e]
   exact Own.retP rfl h.fin
  ·have c2:=of_decide_eq_false c2
   have c2:¬ IntKind.u64.wrap n > IntKind.u64.wrap (bL b - (bW b - bU b)):=c2
   rw [wu (n:=n) (by omega) (by omega),wu (n:=bL b - (bW b - bU b)) (by omega) (by omega)] at c2
   have e:wrF b n=(0,(bW b+n,bN b,bU b,bL b)):=by unfold wrF;rw [if_neg c,if_neg c2]
   rw [e]
   have ew:IntKind.u64.wrap (bW b+IntKind.u64.wrap n)=bW b+n:=by rw [wu (n:=n) (by omega) (by omega)];exact wu (by omega) (by omega)
   refine w_deref (w_ld h rfl (w_deref ?_))
   rw [show IntKind.u64.wrap (b.1+IntKind.u64.wrap n)=bW b+n from ew]
   refine w_setTo h p (Ks.mk KBf (bW b+n,bN b,bU b,bL b)) rfl rfl rfl fun w h=>?_
   exact Own.retP rfl h.fin
theorem btake_tri (p:Nat) (b:Bf) (hb:OkBf b) (most:Int) (hm:most < 9223372036854775808):Tri Tryz.prog N_buffer_Buffer_Take [.lf (.ptr (some ⟨p,0⟩)),.lf (.int .i64 most)] [.agg [.int .u64,.int .u64],.lf .bool] (blk p (Ks.mk KBf b)) (fun r=>pur (r=(tkF b most).1) (blk p (Ks.mk KBf (tkF b most).2))) :=
 tri_0 (call_buffer_Buffer_Take (some ⟨p,0⟩) most) fun w0 S R h=>by
  unfold W_buffer_Buffer_Take
  have h1:=hb.un
  have h2:=hb.nw
  have h3:=hb.u
  have h6:=hb.w
  refine w_new h fun n1 w h=>w_new h fun n2 w h=>w_setAll h (by rfl) fun w h=>?_
  refine w_join h (fun _=>blk n1 [.int .u64 0,.int .u64 0]^blk n2 [.int .u64 (tkF b most).1.1.1,.int .u64 (tkF b most).1.1.2]^blk p (Ks.mk KBf (tkF b most).2)) (fun y:Bool=>y=(tkF b most).1.2) (fun (y:Bool) w hy h=>?_) ?_
  ·refine w_ldAll (b:=n2) (x:=(tkF b most).1.1) h rfl (w_setAll h (by rfl) fun w h=>w_ldAll (b:=n1) (x:=(tkF b most).1.1) h rfl ?_)
   refine Own.retP ?_ h.fin
   rw [hy]
  ·have no:∀ {w:World},¬ (most ≥ 1∧bW b - bN b≠0)→Own w0 S R w (blk n1 [.int .u64 0,.int .u64 0]^blk n2 [.int .u64 0,.int .u64 0]^blk p (Ks.mk KBf b))→(fun y:Bool=>y=(tkF b most).1.2) false∧Own w0 S R w (blk n1 [.int .u64 0,.int .u64 0]^blk n2 [.int .u64 (tkF b most).1.1.1,.int .u64 (tkF b most).1.1.2]^blk p (Ks.mk KBf (tkF b most).2)):=fun {w} c h=>by
    have e:tkF b most=(((0,0),false),b):=by unfold tkF;rw [if_neg c]
    rw [e]
    exact ⟨rfl,h⟩
   have h:Own w0 S R w (blk n1 [.int .u64 0,.int .u64 0]^blk n2 [.int .u64 0,.int .u64 0]^blk p (Ks.mk KBf b)):=h.fin
   refine w_loop (fun _:Bool=>blk n1 [.int .u64 0,.int .u64 0]^blk n2 [.int .u64 0,.int .u64 0]^blk p (Ks.mk KBf b)) (fun y:Bool=>y=false) (fun _=>0) h rfl ?_
   rintro (y:Bool) w hy h
   rw [hy]
   refine w_ite (fun c=>?_) fun c=>?_
   ·have c:most ≥ 1:=of_decide_eq_true c
    refine w_call (bunsent_tri p b hb) h fun r w h=>?_
    obtain ⟨hr,h⟩:=h.purP;rw [hr]
    have ek:(if bW b - bN b < IntKind.u64.wrap most then bW b - bN b else IntKind.u64.wrap most)=min (bW b - bN b) most:=by
     rw [wu (n:=most) (by omega) (by omega)]
     split<;>omega
    rw [ek]
    refine w_ite (fun c2=>?_) fun c2=>?_
    ·have c2:min (bW b - bN b) most=0:=by simpa using c2
     exact no (by omega) h.fin
    ·have c2:¬ min (bW b - bN b) most=0:=by simpa using c2
     have e:tkF b most=(((bN b,bN b+min (bW b - bN b) most),true),(bW b,bN b+min (bW b - bN b) most,bU b,bL b)):=by unfold tkF;rw [if_pos ⟨c,by omega⟩]
     have ew:IntKind.u64.wrap (bN b+min (bW b - bN b) most)=bN b+min (bW b - bN b) most:=wu (by omega) (by omega)
     rw [e]
     refine w_drw h fun w h=>w_deref (w_deref (w_ld h rfl (w_ld h rfl ?_)))
     rw [show IntKind.u64.wrap (b.2.1+min (bW b - bN b) most)=bN b+min (bW b - bN b) most from ew]
     refine w_setAll h (by rfl) fun w h=>w_deref (w_ld h rfl (w_deref ?_))
     rw [show IntKind.u64.wrap (b.2.1+min (bW b - bN b) most)=bN b+min (bW b - bN b) most from ew]
     refine w_setTo h p (Ks.mk KBf (bW b,bN b+min (bW b - bN b) most,bU b,bL b)) rfl rfl rfl fun w h=>?_
     exact ⟨rfl,h.fin⟩
   ·have c:¬ most ≥ 1:=of_decide_eq_false c
    exact no (fun x=>c x.1) h
theorem backed_tri (p:Nat) (b:Bf) (upto:Int):Tri Tryz.prog N_buffer_Buffer_Acked [.lf (.ptr (some ⟨p,0⟩)),.lf (.int .u64 upto)] [.lf (.int .i64)] (blk p (Ks.mk KBf b)) (fun r=>pur (r=(akF b upto).1) (blk p (Ks.mk KBf (akF b upto).2))) :=
 tri_0 (call_buffer_Buffer_Acked (some ⟨p,0⟩) upto) fun w0 S R h=>by
  unfold W_buffer_Buffer_Acked
  refine w_ite (fun c=>(by simp at c)) fun _=>w_deref (w_ld h rfl (w_ite (fun c=>?_) fun c=>?_))
  ·have c:upto > bN b:=of_decide_eq_true c
   have e:akF b upto=(11,b):=by unfold akF;rw [if_pos c]
   rw [e]
   exact Own.retP rfl h
  ·have c:¬ upto > bN b:=of_decide_eq_false c
   have e:akF b upto=(0,(bW b,bN b,if upto > bU b then upto else bU b,bL b)):=by unfold akF;rw [if_neg c]
   rw [e]
   refine w_deref (w_ld h rfl (w_deref (w_setTo h p (Ks.mk KBf (bW b,bN b,if upto > bU b then upto else bU b,bL b)) rfl rfl rfl fun w h=>?_)))
   exact Own.retP rfl h.fin
end SockA

namespace SockB
open Arith ArithC
abbrev Sp:=Int × Int × Int × Int × Bool × Int × Int × Int × Bool × Int × Int
abbrev KSp:Ks:=[.int .u64,.int .u64,.int .u64,.int .u64,.bool,.int .u64,.int .u64,.int .u64,.bool,.int .u64,.int .u64]
abbrev KSn:Ks:=[.int .u64,.int .u64,.int .u64,.int .u64,.bool]
abbrev Sn:=Int × Int × Int × Int × Bool
abbrev KSa:Ks:=[.int .u64,.int .u64,.int .u64,.int .u64,.int .u64,.int .u64,.int .u64,.int .u64,.bool]
abbrev Sa:=Int × Int × Int × Int × Int × Int × Int × Int × Bool
abbrev pD (s:Sp):Int:=s.1
abbrev pT (s:Sp):Int:=s.2.1
abbrev pF (s:Sp):Int:=s.2.2.1
abbrev pL (s:Sp):Int:=s.2.2.2.1
abbrev pH (s:Sp):Bool:=s.2.2.2.2.1
abbrev pG (s:Sp):Int:=s.2.2.2.2.2.1
abbrev pPd (s:Sp):Int:=s.2.2.2.2.2.2.1
abbrev pPt (s:Sp):Int:=s.2.2.2.2.2.2.2.1
abbrev pPl (s:Sp):Bool:=s.2.2.2.2.2.2.2.2.1
abbrev pSi (s:Sp):Int:=s.2.2.2.2.2.2.2.2.2.1
abbrev pAi (s:Sp):Int:=s.2.2.2.2.2.2.2.2.2.2
structure OkSp (s:Sp):Prop where
 d:U (pD s)
 t:U (pT s)
 f:U (pF s)
 l:U (pL s)
 g:U (pG s)
 pd:U (pPd s)
 pt:U (pPt s)
 si:U (pSi s)
 ai:U (pAi s)
def sp0:Sp:=(0,0,0,0,false,0,0,0,false,0,0)
theorem sp0_ok:OkSp sp0:=⟨U_lit 0,U_lit 0,U_lit 0,U_lit 0,U_lit 0,U_lit 0,U_lit 0,U_lit 0,U_lit 0⟩
def touch (s:Sp) (now flight:Int):Sp:=if flight=0 then (pD s,now,now,pL s,pH s,pG s,pPd s,pPt s,pPl s,pSi s,pAi s) else s
def sentP (s:Sp) (now flight:Int):Sn × Sp:=((now,pD (touch s now flight),pT (touch s now flight),pF (touch s now flight),decide (pL (touch s now flight)≠0)),touch s now flight)
def limitP (s:Sp) (flight:Int):Sp:=(pD s,pT s,pF s,(if addI (pD s) flight > 1 then addI (pD s) flight else 1),pH s,pG s,pPd s,pPt s,pPl s,pSi s,pAi s)
def longI (a b:Int):Int:=if b≤(if a≤0 then 0 else a) then (if a≤0 then 0 else a) else b
def takeP (s:Sp) (now lost flight:Int):Sa × Sp:=(if pH s then (now,pD s,pPd s,longI (pSi s) (subI now (pPt s)),pAi s,pG s,lost,flight,pPl s) else (now,pD s,0,0,0,0,lost,flight,false),(pD s,pT s,pF s,pL s,false,0,0,0,false,0,0))
theorem new_tri:Tri Tryz.prog N_sampler_New [] [.lf .ptr] emp (fun r=>ex fun p:Nat=>pur (r=some ⟨p,0⟩) (blk p (Ks.mk KSp sp0))) :=
 tri_0 call_sampler_New fun w0 S R h=>by
  unfold W_sampler_New
  refine w_new h fun p w h=>?_
  exact Own.retE p (Own.retP rfl h.keep)
theorem sent_tri (p:Nat) (s:Sp) (now flight:Int):Tri Tryz.prog N_sampler_Sampler_Sent [.lf (.ptr (some ⟨p,0⟩)),.lf (.int .u64 now),.lf (.int .u64 flight)] [.agg KSn] (blk p (Ks.mk KSp s)) (fun r=>pur (r=(sentP s now flight).1) (blk p (Ks.mk KSp (sentP s now flight).2))) :=
 tri_0 (call_sampler_Sampler_Sent (some ⟨p,0⟩) now flight) fun w0 S R h=>by
  unfold W_sampler_Sampler_Sent
  refine w_new h fun n1 w h=>w_ite (fun c=>(by simp at c)) fun _=>?_
  refine w_join h (fun _=>blk n1 [.int .u64 0,.int .u64 0,.int .u64 0,.int .u64 0,.bool false]^blk p (Ks.mk KSp (touch s now flight))) (fun _=>True) (fun _ w _ h=>?_) ?_
  ·refine w_drw h fun w h=>w_deref (w_deref (w_deref (w_deref (w_ld h rfl (w_ld h rfl (w_ld h rfl (w_ld h rfl ?_)))))))
   have eb:((touch s now flight).2.2.2.1 != (0:Int))=decide (pL (touch s now flight)≠0):=by
    rw [Bool.eq_iff_iff];simp
   rw [eb]
   refine w_setAll h (by rfl) fun w h=>w_ldAll (b:=n1) (x:=(sentP s now flight).1) h rfl ?_
   refine Own.retP rfl ?_
   rw [show (sentP s now flight).2=touch s now flight from rfl]
   exact h.fin
  ·refine w_ite (fun c=>?_) fun c=>?_
   ·have c:flight=0:=by simpa using c
    have e:touch s now flight=(pD s,now,now,pL s,pH s,pG s,pPd s,pPt s,pPl s,pSi s,pAi s):=by unfold touch;rw [if_pos c]
    rw [e]
    refine w_deref (w_setTo h p (Ks.mk KSp (pD s,pT s,now,pL s,pH s,pG s,pPd s,pPt s,pPl s,pSi s,pAi s)) rfl rfl rfl fun w h=>?_)
    refine w_deref (w_setTo h p (Ks.mk KSp (pD s,now,now,pL s,pH s,pG s,pPd s,pPt s,pPl s,pSi s,pAi s)) rfl rfl rfl fun w h=>?_)
    exact ⟨trivial,h.fin⟩
   ·have c:¬ flight=0:=by simpa using c
    have e:touch s now flight=s:=by unfold touch;rw [if_neg c]
    rw [e]
    exact ⟨trivial,h⟩
theorem limit_tri (p:Nat) (s:Sp) (hs:OkSp s) (flight:Int) (hf:U flight):Tri Tryz.prog N_sampler_Sampler_Limit [.lf (.ptr (some ⟨p,0⟩)),.lf (.int .u64 flight)] [] (blk p (Ks.mk KSp s)) (fun _=>blk p (Ks.mk KSp (limitP s flight))) :=
 tri_0 (call_sampler_Sampler_Limit (some ⟨p,0⟩) flight) fun w0 S R h=>by
  unfold W_sampler_Sampler_Limit
  refine w_ite (fun _=>?_) fun c=>(by simp at c)
  refine w_deref (w_ld h rfl (w_call (satadd_tri (pD s) flight hs.d hf) h fun r w h=>?_))
  obtain ⟨hr,h⟩:=h.purP;rw [hr]
  refine w_deref (w_setTo h p (Ks.mk KSp (limitP s flight)) rfl rfl rfl fun w h=>?_)
  exact h.fin
theorem longest_tri (sl:Sl) (a b:Int):Tri Tryz.prog N_sampler_longest [.lf (.sl sl)] [.lf (.int .u64)] (emp^rarr sl KU [a,b]) (fun r=>pur (r=longI a b) emp) :=
 tri_0 (call_sampler_longest sl) fun w0 S R h=>by
  unfold W_sampler_longest
  have h:Own w0 S R w0 (rarr sl KU [a,b]^emp):=h.fin
  have hs:sl.len=2:=(h.rd (s:=sl)).2
  have e1:IntKind.i64.wrap ((0:Int)+1)=1:=rfl
  have e2:IntKind.i64.wrap ((1:Int)+1)=2:=rfl
  obtain ⟨m,hm⟩:∃ m,m=if a≤0 then 0 else a:=⟨_,rfl⟩
  refine w_loop (fun _:Int × Int=>rarr sl KU [a,b]^emp) (fun y:Int × Int=>y=(0,0)∨y=(m,1)∨y=(longI a b,2)) (fun y:Int × Int=>(2 - y.2).toNat) h (.inl rfl) ?_
  rintro (y:Int × Int) w hy h
  rcases hy with rfl | rfl | rfl
  ·refine w_ite (fun _=>?_) fun c=>(by rw [hs] at c;cases c)
   refine w_idx (s:=sl) h (by decide) (by simp) (w_ldE h sl 0 (y:=a) rfl rfl ?_)
   dsimp only
   rw [e1]
   refine w_ite (fun c=>?_) fun c=>?_
   ·have c:a≤0:=of_decide_eq_true c
    rw [if_pos c] at hm
    exact ⟨⟨.inr (.inl (by rw [hm])),h⟩,by show (2 - (1:Int)).toNat < (2 - (0:Int)).toNat;omega⟩
   ·have c:¬ a≤0:=of_decide_eq_false c
    rw [if_neg c] at hm
    exact ⟨⟨.inr (.inl (by rw [hm])),h⟩,by show (2 - (1:Int)).toNat < (2 - (0:Int)).toNat;omega⟩
  ·refine w_ite (fun _=>?_) fun c=>(by rw [hs] at c;cases c)
   refine w_idx (s:=sl) h (show (0:Int)≤1 by decide) (by show 1 < 2;decide) (w_ldE h sl 1 (y:=b) rfl rfl ?_)
   dsimp only
   rw [e2]
   refine w_ite (fun c=>?_) fun c=>?_
   ·have c:b≤m:=of_decide_eq_true c
    have e:longI a b=m:=by unfold longI;rw [← hm,if_pos c]
    exact ⟨⟨.inr (.inr (by rw [e])),h⟩,by show (2 - (2:Int)).toNat < (2 - (1:Int)).toNat;omega⟩
   ·have c:¬ b≤m:=of_decide_eq_false c
    have e:longI a b=b:=by unfold longI;rw [← hm,if_neg c]
    exact ⟨⟨.inr (.inr (by rw [e])),h⟩,by show (2 - (2:Int)).toNat < (2 - (1:Int)).toNat;omega⟩
  ·refine w_ite (fun c=>(by rw [hs] at c;cases c)) fun _=>?_
   exact Own.retP rfl h.emp'
def clampM (m:Int):Int:=if 9000 < (if 100 > m then 100 else m) then 9000 else (if 100 > m then 100 else m)
theorem clampM_r (m:Int):100≤clampM m∧clampM m≤9000:=by unfold clampM;(repeat' split)<;>omega
def tsoF (rate mss:Int):Int:=(if (if rate / 1024 / clampM mss < 2 then 2 else rate / 1024 / clampM mss) > 65536 / clampM mss then 65536 / clampM mss else (if rate / 1024 / clampM mss < 2 then 2 else rate / 1024 / clampM mss)) * clampM mss
theorem tso_r (rate mss:Int) (hr:0≤rate):200≤tsoF rate mss∧tsoF rate mss≤65536:=by
 have hm:=clampM_r mss
 have hk:7≤65536 / clampM mss:=by rw [Int.le_ediv_iff_mul_le (by omega)];omega
 have hk2:65536 / clampM mss * clampM mss≤65536:=Int.ediv_mul_le _ (by omega)
 obtain ⟨y,hy⟩:∃ y,y=(if (if rate / 1024 / clampM mss < 2 then 2 else rate / 1024 / clampM mss) > 65536 / clampM mss then 65536 / clampM mss else (if rate / 1024 / clampM mss < 2 then 2 else rate / 1024 / clampM mss)):=⟨_,rfl⟩
 have hy2:2≤y∧y≤65536 / clampM mss:=by rw [hy];(repeat' split)<;>omega
 have e:tsoF rate mss=y * clampM mss:=by unfold tsoF;rw [← hy]
 rw [e]
 have h1:2 * clampM mss≤y * clampM mss:=Int.mul_le_mul_of_nonneg_right hy2.1 (by omega)
 have h2:y * clampM mss≤65536 / clampM mss * clampM mss:=Int.mul_le_mul_of_nonneg_right hy2.2 (by omega)
 omega
theorem tso_tri (rate mss:Int) (hr:U rate):Tri Tryz.prog N_tso_Size [.lf (.int .u64 rate),.lf (.int .i64 mss)] [.lf (.int .i64)] emp (fun r=>pur (r=tsoF rate mss) emp) :=
 tri_0 (call_tso_Size rate mss) fun w0 S R h=>by
  unfold W_tso_Size
  have hm:=clampM_r mss
  unfold U at hr
  have em:IntKind.u64.wrap (if (9000:Int) < (if (100:Int) > mss then (100:Int) else mss) then (9000:Int) else (if (100:Int) > mss then (100:Int) else mss))=clampM mss:=wu (n:=clampM mss) (by omega) (by omega)
  rw [em]
  have ht:=tso_r rate mss hr.1
  have hk:7≤65536 / clampM mss:=by rw [Int.le_ediv_iff_mul_le (by omega)];omega
  have hk9:65536 / clampM mss≤65536:=Int.ediv_le_self _ (by decide)
  have eq1:IntKind.u64.wrap (rate.tdiv 1024)=rate / 1024:=by rw [Int.tdiv_eq_ediv_of_nonneg hr.1];exact wu (by omega) (by omega)
  have hq0:0≤rate / 1024 / clampM mss:=Int.ediv_nonneg (by omega) (by omega)
  have hq1:rate / 1024 / clampM mss≤rate / 1024:=Int.ediv_le_self _ (by omega)
  have eq2:IntKind.u64.wrap ((rate / 1024).tdiv (clampM mss))=rate / 1024 / clampM mss:=by rw [Int.tdiv_eq_ediv_of_nonneg (by omega)];exact wu (by omega) (by omega)
  have eq3:IntKind.u64.wrap ((65536:Int).tdiv (clampM mss))=65536 / clampM mss:=by rw [Int.tdiv_eq_ediv_of_nonneg (by decide)];exact wu (by omega) (by omega)
  rw [eq1,eq2,eq3]
  obtain ⟨y0,hy0⟩:∃ y0,y0=rate / 1024 / clampM mss:=⟨_,rfl⟩
  obtain ⟨k,hkk⟩:∃ k,k=65536 / clampM mss:=⟨_,rfl⟩
  have et:tsoF rate mss=(if (if y0 < 2 then 2 else y0) > k then k else (if y0 < 2 then 2 else y0)) * clampM mss:=by unfold tsoF;rw [← hy0,← hkk]
  rw [← hy0,← hkk]
  rw [← hkk] at hk hk9
  refine ⟨by omega,?_⟩
  refine w_loop (fun _:Int=>emp) (fun y:Int=>0≤y∧(if (if y < 2 then 2 else y) > k then k else (if y < 2 then 2 else y))=(if (if y0 < 2 then 2 else y0) > k then k else (if y0 < 2 then 2 else y0))) (fun y:Int=>if y < 2 then 2 else if y > k then 1 else 0) h ⟨by rw [hy0];exact hq0,rfl⟩ ?_
  rintro (y:Int) w ⟨hy,hye⟩ h
  refine w_ite (fun c=>?_) fun c=>?_
  ·have c:y < 2:=of_decide_eq_true c
   refine ⟨⟨⟨by decide,?_⟩,h⟩,?_⟩
   ·rw [← hye,if_pos c];rfl
   ·rw [if_pos c,if_neg (by decide),if_neg (by omega)];decide
  ·have c:¬ y < 2:=of_decide_eq_false c
   rw [if_neg c] at hye
   refine ⟨by omega,w_ite (fun c2=>?_) fun c2=>?_⟩
   ·have c2:y > k:=of_decide_eq_true c2
    rw [if_pos c2] at hye
    refine ⟨by omega,⟨⟨by omega,?_⟩,h⟩,?_⟩
    ·rw [if_neg (show ¬ k < 2 by omega),if_neg (by omega)];exact hye
    ·rw [if_neg (show ¬ k < 2 by omega),if_neg (by omega),if_neg c,if_pos c2];decide
   ·have c2:¬ y > k:=of_decide_eq_false c2
    rw [if_neg c2] at hye
    refine Own.retP ?_ h
    rw [et,← hye] at ht ⊢
    rw [wu (n:=y * clampM mss) (by omega) (by omega),wi (n:=y * clampM mss) (by omega) (by omega)]
def belowF (rate tso most:Int):Int:=longI (2 * tso) (if most < rate / 1024 then most else rate / 1024)
theorem below_tri (rate tso most:Int) (hr:U rate) (ht:0≤tso∧tso≤65536) (hm:-9223372036854775808≤most∧most < 9223372036854775808):Tri Tryz.prog N_tsq_Limit [.lf (.int .u64 rate),.lf (.int .i64 tso),.lf (.int .i64 most)] [.lf (.int .u64)] emp (fun r=>pur (r=belowF rate tso most) emp) :=
 tri_0 (call_tsq_Limit rate tso most) fun w0 S R h=>by
  unfold W_tsq_Limit
  unfold U at hr
  have e1:IntKind.i64.wrap ((0:Int)+1)=1:=rfl
  have e2:IntKind.i64.wrap ((1:Int)+1)=2:=rfl
  have ea:IntKind.u64.wrap ((2:Int) * (IntKind.u64.wrap (if (0:Int) > tso then (0:Int) else tso)))=2 * tso:=by
   rw [if_neg (by omega),wu (n:=tso) (by omega) (by omega)]
   exact wu (by omega) (by omega)
  have eb:(if (IntKind.u64.wrap (if (0:Int) > most then (0:Int) else most)) < (IntKind.u64.wrap (rate.tdiv (1024:Int))) then (IntKind.u64.wrap (if (0:Int) > most then (0:Int) else most)) else (IntKind.u64.wrap (rate.tdiv (1024:Int))))=if (if (0:Int) > most then (0:Int) else most) < rate / 1024 then (if (0:Int) > most then (0:Int) else most) else rate / 1024:=by
   rw [wu (n:=if (0:Int) > most then (0:Int) else most) (by split<;>omega) (by split<;>omega),Int.tdiv_eq_ediv_of_nonneg hr.1,wu (n:=rate / 1024) (by omega) (by omega)]
  rw [ea,eb]
  obtain ⟨x,hx⟩:∃ x,x=2 * tso:=⟨_,rfl⟩
  obtain ⟨z,hz⟩:∃ z,z=if (if (0:Int) > most then (0:Int) else most) < rate / 1024 then (if (0:Int) > most then (0:Int) else most) else rate / 1024:=⟨_,rfl⟩
  have eL:belowF rate tso most=longI x z:=by
   unfold belowF;rw [← hx]
   by_cases c:(0:Int) > most
   ·rw [if_pos c] at hz
    have hz0:z=0:=by rw [hz];split<;>omega
    rw [hz0,if_pos (show most < rate / 1024 by omega)]
    unfold longI
    repeat' split
    all_goals omega
   ·rw [if_neg c] at hz
    rw [← hz]
  rw [← hx,← hz,eL]
  obtain ⟨m,hmm⟩:∃ m,m=if x≤0 then 0 else x:=⟨_,rfl⟩
  refine w_loop (fun _:Int × Int=>emp) (fun y:Int × Int=>y=(0,0)∨y=(m,1)∨y=(longI x z,2)) (fun y:Int × Int=>(2 - y.2).toNat) h (.inl rfl) ?_
  rintro (y:Int × Int) w hy h
  rcases hy with rfl | rfl | rfl
  ·refine w_ite (fun _=>?_) fun c=>(by cases c)
   refine ⟨⟨by show (0:Int)≤0;decide,by show (0:Int) < 2;decide⟩,(x:Int),rfl,?_⟩
   dsimp only
   rw [e1]
   refine w_ite (fun c=>?_) fun c=>?_
   ·have c:x≤0:=of_decide_eq_true c
    rw [if_pos c] at hmm
    exact ⟨⟨.inr (.inl (by rw [hmm])),h⟩,by show (2 - (1:Int)).toNat < (2 - (0:Int)).toNat;omega⟩
   ·have c:¬ x≤0:=of_decide_eq_false c
    rw [if_neg c] at hmm
    exact ⟨⟨.inr (.inl (by rw [hmm])),h⟩,by show (2 - (1:Int)).toNat < (2 - (0:Int)).toNat;omega⟩
  ·refine w_ite (fun _=>?_) fun c=>(by cases c)
   refine ⟨⟨by show (0:Int)≤1;decide,by show (1:Int) < 2;decide⟩,(z:Int),rfl,?_⟩
   dsimp only
   rw [e2]
   refine w_ite (fun c=>?_) fun c=>?_
   ·have c:z≤m:=of_decide_eq_true c
    have e:longI x z=m:=by unfold longI;rw [← hmm,if_pos c]
    exact ⟨⟨.inr (.inr (by rw [e])),h⟩,by show (2 - (2:Int)).toNat < (2 - (1:Int)).toNat;omega⟩
   ·have c:¬ z≤m:=of_decide_eq_false c
    have e:longI x z=z:=by unfold longI;rw [← hmm,if_neg c]
    exact ⟨⟨.inr (.inr (by rw [e])),h⟩,by show (2 - (2:Int)).toNat < (2 - (1:Int)).toNat;omega⟩
  ·refine w_ite (fun c=>(by cases c)) fun _=>?_
   exact Own.retP rfl h
theorem may_tri (out limit:Int):Tri Tryz.prog N_tsq_May [.lf (.int .u64 out),.lf (.int .u64 limit)] [.lf .bool] emp (fun r=>pur (r=decide (out < limit)) emp) :=
 tri_0 (call_tsq_May out limit) fun w0 S R h=>by
  unfold W_tsq_May
  exact Own.retP rfl h
end SockB

namespace SockM
open Arith ArithC Delays Board BbrM BbrMm SockA SockB
abbrev Sg:=Int × Int × Int × Int × Bool
abbrev noS:Sg:=(0,0,0,0,false)
structure Sk where
 id:Int
 mss:Int
 cap:Int
 bf:Bf
 bd:List Pc × Int
 sp:Sp
 md:Md
 out:Int
 nx:Int
def skTso (v:Sk):Int:=tsoF v.md.rate v.mss
def skFl (v:Sk):Int:=flightF v.bd.1
def mayS (v:Sk):Int × Sk :=
 if (lostF v.bd.1).2=false∧bW v.bf - bN v.bf=0 then (7,if skFl v < v.md.win then { v with sp:=limitP v.sp (skFl v) } else v)
 else if ¬ (skFl v < v.md.win∧v.out < belowF v.md.rate (skTso v) v.cap) then (5,v)
 else if (lostF v.bd.1).2=false∧(v.bd.1.length:Int) ≥ 4096 then (5,v) else (0,v)
def putS (v:Sk) (rg:Int × Int) (again:Bool) (now:Int):Sg × Sk :=
 ((v.id,rg.1,rg.2 - rg.1,(if v.nx > now then v.nx else now),again),{ v with nx:=addI (if v.nx > now then v.nx else now) (delayI (rg.2 - rg.1) v.md.rate),out:=v.out+(rg.2 - rg.1) })
abbrev touchS (v:Sk) (now:Int):Sk:={ v with sp:=(sentP v.sp now (skFl v)).2 }
def goS (v:Sk) (now:Int):Sg × Sk :=
 if (lostF v.bd.1).2 then putS { touchS v now with bd:=(againF v.bd.1 (sentP v.sp now (skFl v)).1,v.bd.2) } (lostF v.bd.1).1 true now
 else putS { touchS v now with bf:=(tkF v.bf (skTso v)).2,bd:=(sentF v.bd (tkF v.bf (skTso v)).1.1.1 (tkF v.bf (skTso v)).1.1.2 (sentP v.sp now (skFl v)).1).2 } (tkF v.bf (skTso v)).1.1 false now
def emitS (v:Sk) (now:Int):(Sg × Int) × Sk:=if (mayS v).1≠0 then ((noS,(mayS v).1),(mayS v).2) else (((goS v now).1,0),(goS v now).2)
def doneS (v:Sk) (n:Int):Int × Sk:=if n < 1∨n > v.out then (1,v) else (0,{ v with out:=v.out - n })
def writeS (v:Sk) (n:Int):Int × Sk:=((wrF v.bf n).1,{ v with bf:=(wrF v.bf n).2 })
def learnS (v:Sk) (now lost:Int):Sk:={ v with sp:=(takeP v.sp now lost (skFl v)).2,md:=mUpd v.md (takeP v.sp now lost (skFl v)).1 (skTso v) }
def loseS (v:Sk) (now:Int):Sk:=learnS { v with bd:=(v.bd.1.map loseP,v.bd.2) } now (flightF v.bd.1)
def newS (id mss cap:Int):Sk:=⟨id,clampM mss,cap,(0,0,0,1073741824),([],0),sp0,mNew (clampM mss),0,0⟩
end SockM

namespace SockC
open Arith ArithC Delays Board BbrM BbrMm SockA SockB SockM
abbrev N7:=Nat × Nat × Nat × Nat × Nat × Nat × Nat
def mdl (x:N7) (m:Md):SP:=match x with
 | (b,n1,n2,n3,n4,n5,n6)=>blk b (BbrLs.lsM n1 n2 n3 n4 n5 n6 m)^blk n1 (BbrLs.lsW m.w)^blk n2 (BbrLs.lsR m.r)^blk n3 (BbrLs.lsP m.p)^blk n4 (BbrLs.lsC m.c)^blk n5 (BbrLs.lsB m.b)^blk n6 (BbrLs.lsL m.q)
instance (x:N7) (m:Md):NoR (mdl x m):=by unfold mdl;infer_instance
theorem mst_tri (x:N7) (m:Md):Tri Tryz.prog N_bbr_Model_State [.lf (.ptr (some ⟨x.1,0⟩))] [.agg K_i2u6b2] (mdl x m) (fun r=>pur (r=mSt m) (mdl x m)):=by
 obtain ⟨b,n1,n2,n3,n4,n5,n6⟩:=x
 exact BbrN.state_tri b n1 n2 n3 n4 n5 n6 m
theorem mupd_tri (x:N7) (m:Md) (hm:OkM m) (s:Sm) (hs:OkS s) (tso:Int) (ht:U tso):Tri Tryz.prog N_bbr_Model_Update [.lf (.ptr (some ⟨x.1,0⟩)),.agg (Ks.mk K_u8b s),.lf (.int .u64 tso)] [.agg K_i2u6b2] (mdl x m) (fun r=>pur (r=mSt (mUpd m s tso)) (mdl x (mUpd m s tso))):=by
 obtain ⟨b,n1,n2,n3,n4,n5,n6⟩:=x
 exact BbrU.upd_tri b n1 n2 n3 n4 n5 n6 m hm s hs tso ht
theorem mnew_tri (n:Int):Tri Tryz.prog N_bbr_New [.lf (.int .u64 n)] [.lf .ptr] emp (fun r=>ex fun x:N7=>pur (r=some ⟨x.1,0⟩) (mdl x (mNew n))) :=
 (BbrN.new_tri n).le Le.rfl fun _ _ _ _ ⟨⟨b,n1,n2,n3,n4,n5,n6⟩,h1,h2⟩=>⟨(b,n1,n2,n3,n4,n5,n6),h1,h2⟩
abbrev sL (v:Sk) (pb pd ps pm:Nat):List Lf:=[.int .i64 v.id,.int .i64 v.mss,.int .i64 v.cap,.ptr (some ⟨pb,0⟩),.ptr (some ⟨pd,0⟩),.ptr (some ⟨ps,0⟩),.ptr (some ⟨pm,0⟩),.int .u64 v.out,.int .u64 v.nx]
def sck (p:Nat) (v:Sk):SP:=ex fun x:Nat × Nat × Nat × N7=>blk p (sL v x.1 x.2.1 x.2.2.1 x.2.2.2.1)^blk x.1 (Ks.mk KBf v.bf)^brd x.2.1 v.bd^blk x.2.2.1 (Ks.mk KSp v.sp)^mdl x.2.2.2 v.md
instance (p:Nat) (v:Sk):NoR (sck p v):=by unfold sck;infer_instance
section
variable {w0 w : World} {S0 R0 : Nat → Prop} {F G : SP}
theorem _root_.Go.X.Own.sck (h:Own w0 S0 R0 w F) (p:Nat) {v:Sk} [tk:TakeK SockC.sck p F v G]:∃ (pb pd ps:Nat) (x:N7),Own w0 S0 R0 w (blk p (sL v pb pd ps x.1)^blk pb (Ks.mk KBf v.bf)^brd pd v.bd^blk ps (Ks.mk KSp v.sp)^mdl x v.md^G):=by
 obtain ⟨x,h⟩:=(h.le tk.le).exP
 exact ⟨x.1,x.2.1,x.2.2.1,x.2.2.2,h.fin⟩
theorem _root_.Go.X.Own.mkSck (h:Own w0 S0 R0 w F) (p pb pd ps:Nat) (x:N7) (v:Sk) [tk:Take (blk p (sL v pb pd ps x.1)^blk pb (Ks.mk KBf v.bf)^brd pd v.bd^blk ps (Ks.mk KSp v.sp)^mdl x v.md) F G]:Own w0 S0 R0 w (SockC.sck p v^G) :=
 Own.toEx (f:=fun x:Nat × Nat × Nat × N7=>blk p (sL v x.1 x.2.1 x.2.2.1 x.2.2.2.1)^blk x.1 (Ks.mk KBf v.bf)^brd x.2.1 v.bd^blk x.2.2.1 (Ks.mk KSp v.sp)^mdl x.2.2.2 v.md) (pb,pd,ps,x) (h.le tk.le)
end
theorem flightO_tri (p pb pd ps:Nat) (x:N7) (v:Sk) (hl:v.bd.1.length≤4294967296):Tri Tryz.prog N_sock_Sock_Flight [.lf (.ptr (some ⟨p,0⟩))] [.lf (.int .u64)] (blk p (sL v pb pd ps x.1)^brd pd v.bd) (fun r=>pur (r=skFl v) (blk p (sL v pb pd ps x.1)^brd pd v.bd)) :=
 tri_0 (call_sock_Sock_Flight (some ⟨p,0⟩)) fun w0 S R h=>by
  unfold W_sock_Sock_Flight
  refine w_ite (fun c=>(by simp at c)) fun _=>?_
  refine w_deref (w_ld h rfl (w_call (Board.flight_tri pd v.bd hl) h fun r w h=>?_))
  obtain ⟨hr,h⟩:=h.purP;rw [hr]
  exact Own.retP rfl h.fin
theorem tsoO_tri (p pb pd ps:Nat) (x:N7) (v:Sk) (hm:OkM v.md):Tri Tryz.prog N_sock_Sock_Tso [.lf (.ptr (some ⟨p,0⟩))] [.lf (.int .i64)] (blk p (sL v pb pd ps x.1)^mdl x v.md) (fun r=>pur (r=skTso v) (blk p (sL v pb pd ps x.1)^mdl x v.md)) :=
 tri_0 (call_sock_Sock_Tso (some ⟨p,0⟩)) fun w0 S R h=>by
  unfold W_sock_Sock_Tso
  refine w_ite (fun c=>(by simp at c)) fun _=>?_
  refine w_drw h fun w h=>w_deref (w_deref (w_ld h rfl (w_ld h rfl (w_call (mst_tri x v.md) h fun r w h=>?_))))
  obtain ⟨hr,h⟩:=h.purP;rw [hr]
  refine w_chk h rfl (w_call (tso_tri (mSt v.md).2.2.1 v.mss hm.rate) h fun r w h=>?_)
  obtain ⟨hr,h⟩:=h.purP;rw [hr]
  exact Own.retP rfl h.fin
theorem model_tri (p:Nat) (v:Sk):Tri Tryz.prog N_sock_Sock_Model [.lf (.ptr (some ⟨p,0⟩))] [.agg K_i2u6b2] (sck p v) (fun r=>pur (r=mSt v.md) (sck p v)) :=
 tri_0 (call_sock_Sock_Model (some ⟨p,0⟩)) fun w0 S R h=>by
  unfold W_sock_Sock_Model
  refine w_new h fun n w h=>w_ite (fun c=>(by simp at c)) fun _=>?_
  obtain ⟨pb,pd,ps,x,h⟩:=h.sck p
  refine w_deref (w_ld h rfl (w_call (mst_tri x v.md) h fun r w h=>?_))
  obtain ⟨hr,h⟩:=h.purP;rw [hr]
  refine w_setAll h (by rfl) fun w h=>w_ldAll (b:=n) (x:=mSt v.md) h rfl ?_
  exact Own.retP rfl (h.mkSck p pb pd ps x v).fin
theorem write_tri (p:Nat) (v:Sk) (hb:OkBf v.bf) (n:Int) (hn:n < 9223372036854775808):Tri Tryz.prog N_sock_Sock_Write [.lf (.ptr (some ⟨p,0⟩)),.lf (.int .i64 n)] [.lf (.int .i64)] (sck p v) (fun r=>pur (r=(writeS v n).1) (sck p (writeS v n).2)) :=
 tri_0 (call_sock_Sock_Write (some ⟨p,0⟩) n) fun w0 S R h=>by
  unfold W_sock_Sock_Write
  refine w_ite (fun c=>(by simp at c)) fun _=>?_
  obtain ⟨pb,pd,ps,x,h⟩:=h.sck p
  refine w_deref (w_ld h rfl (w_call (bwrite_tri pb v.bf hb n hn) h fun r w h=>?_))
  obtain ⟨hr,h⟩:=h.purP;rw [hr]
  exact Own.retP rfl (h.mkSck p pb pd ps x { v with bf:=(wrF v.bf n).2 }).keep
theorem done_tri (p:Nat) (v:Sk) (ho:U v.out) (n:Int) (hn:n < 9223372036854775808):Tri Tryz.prog N_sock_Sock_Done [.lf (.ptr (some ⟨p,0⟩)),.lf (.int .i64 n)] [.lf (.int .i64)] (sck p v) (fun r=>pur (r=(doneS v n).1) (sck p (doneS v n).2)) :=
 tri_0 (call_sock_Sock_Done (some ⟨p,0⟩) n) fun w0 S R h=>by
  unfold W_sock_Sock_Done
  unfold U at ho
  obtain ⟨pb,pd,ps,x,h⟩:=(h.le (star_emp _)).sck p
  refine w_join h (fun _=>blk p (sL v pb pd ps x.1)^blk pb (Ks.mk KBf v.bf)^brd pd v.bd^blk ps (Ks.mk KSp v.sp)^mdl x v.md) (fun _=>¬ (n < 1∨n > v.out)) (fun _ w hx h=>?_) ?_
  ·have e:doneS v n=(0,{ v with out:=v.out - n }):=by unfold doneS;rw [if_neg hx]
   have ew:IntKind.u64.wrap (v.out - IntKind.u64.wrap n)=v.out - n:=by rw [wu (n:=n) (by omega) (by omega)];exact wu (by omega) (by omega)
   rw [e]
   refine w_deref (w_ld h rfl (w_deref ?_))
   rw [ew]
   refine w_setTo h p (sL { v with out:=v.out - n } pb pd ps x.1) rfl rfl rfl fun w h=>?_
   exact Own.retP rfl (h.mkSck p pb pd ps x { v with out:=v.out - n }).keep
  ·have bad:∀ {w:World},(n < 1∨n > v.out)→Own w0 S R w (blk p (sL v pb pd ps x.1)^blk pb (Ks.mk KBf v.bf)^brd pd v.bd^blk ps (Ks.mk KSp v.sp)^mdl x v.md^emp)→Own w0 S R w (pur ((1:Int)=(doneS v n).1) (sck p (doneS v n).2)):=fun {w} c h=>by
    have e:doneS v n=(1,v):=by unfold doneS;rw [if_pos c]
    rw [e]
    exact Own.retP rfl (h.mkSck p pb pd ps x v).keep
   refine w_ite (fun c=>(by simp at c)) fun _=>w_ite (fun c=>?_) fun c=>?_
   ·exact bad (.inl (of_decide_eq_true c)) h.fin
   ·have c:¬ n < 1:=of_decide_eq_false c
    refine w_deref (w_ld h rfl (w_ite (fun c2=>?_) fun c2=>?_))
    ·have c2:IntKind.u64.wrap n > v.out:=of_decide_eq_true c2
     rw [wu (n:=n) (by omega) (by omega)] at c2
     exact bad (.inr c2) h.fin
    ·have c2:¬ IntKind.u64.wrap n > v.out:=of_decide_eq_false c2
     rw [wu (n:=n) (by omega) (by omega)] at c2
     exact ⟨by omega,h.fin⟩
end SockC

namespace SockD
open Arith ArithC Delays Board BbrM BbrMm SockA SockB SockM SockC
theorem blen_tri (b:Nat) (v:List Pc × Int):Tri Tryz.prog N_board_Board_Len [.lf (.ptr (some ⟨b,0⟩))] [.lf (.int .i64)] (brd b v) (fun r=>pur (r=(v.1.length:Int)) (brd b v)) :=
 tri_0 (call_board_Board_Len (some ⟨b,0⟩)) fun w0 S R h=>by
  unfold W_board_Board_Len
  refine w_ite (fun c=>(by simp at c)) fun _=>?_
  obtain ⟨s,h⟩:=(h.le (star_emp _)).brd b
  have hs:=(h.rd (s:=s)).2
  refine w_deref (w_ld h rfl ?_)
  refine Own.retP ?_ (h.mkBrd b s v.1 v.2).keep
  show ((s.len:Nat):Int)=_
  rw [hs]
structure OkSk (v:Sk):Prop where
 bf:OkBf v.bf
 bl:v.bd.1.length≤4096
 sp:OkSp v.sp
 md:OkM v.md
 mss:100≤v.mss∧v.mss≤9000
 cap:-9223372036854775808≤v.cap∧v.cap < 9223372036854775808
 out:U v.out
 nx:U v.nx
 fl:U (skFl v)
theorem may_tri (p:Nat) (v:Sk) (hv:OkSk v):Tri Tryz.prog N_sock_Sock_may [.lf (.ptr (some ⟨p,0⟩))] [.lf (.int .i64)] (sck p v) (fun r=>pur (r=(mayS v).1) (sck p (mayS v).2)) :=
 tri_0 (call_sock_Sock_may (some ⟨p,0⟩)) fun w0 S R h=>by
  unfold W_sock_Sock_may
  have hbl:v.bd.1.length≤4294967296:=by have:=hv.bl;omega
  have hts:=tso_r v.md.rate v.mss hv.md.rate.1
  obtain ⟨pb,pd,ps,x,h⟩:=(h.le (star_emp _)).sck p
  refine w_deref (w_ld h rfl (w_call (Lost_tri pd v.bd hbl) h fun r w h=>?_))
  obtain ⟨hr,h⟩:=h.purP;rw [hr]
  refine w_new h fun n4 w h=>w_setAll h (by rfl) fun w h=>w_deref (w_ld h rfl (w_call (mst_tri x v.md) h fun r w h=>?_))
  obtain ⟨hr,h⟩:=h.purP;rw [hr]
  refine w_new h fun n8 w h=>w_setAll h (by rfl) fun w h=>w_drw h fun w h=>w_ld (x:=v.md.win) h rfl (w_call (flightO_tri p pb pd ps x v hbl) h fun r w h=>?_)
  obtain ⟨hr,h⟩:=h.purP;rw [hr]
  refine w_chk h rfl ?_
  have h:Own w0 S R w (blk n8 (Ks.mk K_i2u6b2 (mSt v.md))^blk p (sL v pb pd ps x.1)^blk pb (Ks.mk KBf v.bf)^brd pd v.bd^blk ps (Ks.mk KSp v.sp)^mdl x v.md):=h.fin
  refine w_join h (fun _=>blk n8 (Ks.mk K_i2u6b2 (mSt v.md))^blk p (sL v pb pd ps x.1)^blk pb (Ks.mk KBf v.bf)^brd pd v.bd^blk ps (Ks.mk KSp v.sp)^mdl x v.md) (fun y:Bool=>y=true↔(lostF v.bd.1).2=false∧bW v.bf - bN v.bf=0) (fun (y:Bool) w hy h=>?_) ?_
  rotate_left
  ·refine w_ite (fun c=>?_) fun c=>?_
   ·have c:(lostF v.bd.1).2=false:=by simpa using c
    refine w_deref (w_ld h rfl (w_call (bunsent_tri pb v.bf hv.bf) h fun r w h=>?_))
    obtain ⟨hr,h⟩:=h.purP;rw [hr]
    refine ⟨?_,h.fin⟩
    show (bW v.bf - bN v.bf == 0)=true↔_
    rw [beq_iff_eq]
    exact ⟨fun e=>⟨c,e⟩,fun e=>e.2⟩
   ·have c:(lostF v.bd.1).2=true:=by simpa using c
    exact ⟨⟨fun e=>(by cases e),fun e=>(by rw [c] at e;cases e.1)⟩,h⟩
  ·refine w_ite (fun c=>?_) fun c=>?_
   ·have c:=hy.1 c
    have e:mayS v=(7,if skFl v < v.md.win then { v with sp:=limitP v.sp (skFl v) } else v):=by unfold mayS;rw [if_pos c]
    rw [e]
    refine w_ite (fun c2=>?_) fun c2=>?_
    ·have c2:skFl v < v.md.win:=of_decide_eq_true c2
     rw [if_pos c2]
     refine w_drw h fun w h=>w_deref (w_ld h rfl (w_call (flightO_tri p pb pd ps x v hbl) h fun r w h=>?_))
     obtain ⟨hr,h⟩:=h.purP;rw [hr]
     refine w_chk h rfl (w_call (limit_tri ps v.sp hv.sp (skFl v) hv.fl) h fun _ w h=>?_)
     exact Own.retP rfl (h.mkSck p pb pd ps x { v with sp:=limitP v.sp (skFl v) }).keep
    ·have c2:¬ skFl v < v.md.win:=of_decide_eq_false c2
     rw [if_neg c2]
     exact Own.retP rfl (h.mkSck p pb pd ps x v).keep
   ·have c1:¬ ((lostF v.bd.1).2=false∧bW v.bf - bN v.bf=0):=fun e=>by have:=hy.2 e;rw [c] at this;cases this
    refine w_join h (fun _=>blk n8 (Ks.mk K_i2u6b2 (mSt v.md))^blk p (sL v pb pd ps x.1)^blk pb (Ks.mk KBf v.bf)^brd pd v.bd^blk ps (Ks.mk KSp v.sp)^mdl x v.md) (fun y:Bool=>y=true↔¬ (skFl v < v.md.win∧v.out < belowF v.md.rate (skTso v) v.cap)) (fun (y:Bool) w hy h=>?_) ?_
    ·refine w_ite (fun c=>?_) fun c=>?_
     ·have e:mayS v=(5,v):=by unfold mayS;rw [if_neg c1,if_pos (hy.1 c)]
      rw [e]
      exact Own.retP rfl (h.mkSck p pb pd ps x v).keep
     ·have c2:¬ ¬ (skFl v < v.md.win∧v.out < belowF v.md.rate (skTso v) v.cap):=fun e=>by have:=hy.2 e;rw [c] at this;cases this
      refine w_ite (fun c3=>?_) fun c3=>?_
      ·have c3:(lostF v.bd.1).2=false:=by simpa using c3
       refine w_deref (w_ld h rfl (w_call (blen_tri pd v.bd) h fun r w h=>?_))
       obtain ⟨hr,h⟩:=h.purP;rw [hr]
       refine w_ite (fun c4=>?_) fun c4=>?_
       ·have c4:(v.bd.1.length:Int) ≥ 4096:=of_decide_eq_true c4
        have e:mayS v=(5,v):=by unfold mayS;rw [if_neg c1,if_neg c2,if_pos ⟨c3,c4⟩]
        rw [e]
        exact Own.retP rfl (h.mkSck p pb pd ps x v).keep
       ·have c4:¬ (v.bd.1.length:Int) ≥ 4096:=of_decide_eq_false c4
        have e:mayS v=(0,v):=by unfold mayS;rw [if_neg c1,if_neg c2,if_neg (fun e=>c4 e.2)]
        rw [e]
        exact Own.retP rfl (h.mkSck p pb pd ps x v).keep
      ·have c3:(lostF v.bd.1).2=true:=by simpa using c3
       have e:mayS v=(0,v):=by unfold mayS;rw [if_neg c1,if_neg c2,if_neg (fun e=>by rw [c3] at e;cases e.1)]
       rw [e]
       exact Own.retP rfl (h.mkSck p pb pd ps x v).keep
    ·refine w_drw h fun w h=>w_ite (fun c=>?_) fun c=>?_
     ·have c:¬ skFl v < v.md.win:=by simpa using c
      exact ⟨⟨fun _ e=>c e.1,fun _=>rfl⟩,h⟩
     ·have c:skFl v < v.md.win:=by simpa using c
      refine w_deref (w_ld (x:=v.md.rate) h rfl (w_deref (w_ld h rfl (w_ld h rfl (w_call (tsoO_tri p pb pd ps x v hv.md) h fun r w h=>?_)))))
      obtain ⟨hr,h⟩:=h.purP;rw [hr]
      refine w_chk h rfl (w_chk h rfl (w_chk h rfl (w_call (below_tri v.md.rate (skTso v) v.cap hv.md.rate ⟨by unfold skTso;omega,hts.2⟩ hv.cap) h fun r w h=>?_)))
      obtain ⟨hr,h⟩:=h.purP;rw [hr]
      refine w_chk h rfl (w_call (SockB.may_tri v.out (belowF v.md.rate (skTso v) v.cap)) h fun r w h=>?_)
      obtain ⟨hr,h⟩:=h.purP;rw [hr]
      refine ⟨?_,h.fin⟩
      show (!decide (v.out < belowF v.md.rate (skTso v) v.cap))=true↔_
      simp [c]
end SockD

namespace SockE
open Arith ArithC Delays Board BbrM BbrMm SockA SockB SockM SockC SockD
abbrev KS:Ks:=[.int .i64,.int .u64,.int .i64,.int .u64,.bool]
abbrev zS:List Lf:=[.int .i64 0,.int .u64 0,.int .i64 0,.int .u64 0,.bool false]
def finE (p n1 n14:Nat) (o:Int) (ag:Bool) (R:Rs.T [.agg KS,.lf (.int .i64)]→WP):WP :=
 drw <|
 deref (some ⟨p,0⟩) fun q27 =>
 ld [.int .u64] ⟨n14,0⟩ fun (x28:Int) =>
 ld [.int .u64] ⟨n14,1⟩ fun (x29:Int) =>
 ld [.int .u64] ⟨n14,0⟩ fun (x30:Int) =>
 deref (some ⟨p,0⟩) fun q31 =>
 ld [.int .i64] q27 fun (x32:Int) =>
 ld [.int .u64] ⟨q31.b,q31.o+8⟩ fun (x33:Int) =>
 new [.int .i64 (0:Int),.int .u64 (0:Int),.int .i64 (0:Int),.int .u64 (0:Int),.bool false] fun n34 =>
 chk ⟨q31.b,q31.o+8⟩ (Ks.mk [.int .u64] x33) <|
 chk q27 (Ks.mk [.int .i64] x32) <|
 chk ⟨n14,0⟩ (Ks.mk [.int .u64] x30) <|
 chk ⟨n14,1⟩ (Ks.mk [.int .u64] x29) <|
 chk ⟨n14,0⟩ (Ks.mk [.int .u64] x28) <|
 st ⟨n34,0⟩ [.int .i64 x32,.int .u64 x28,.int .i64 (IntKind.i64.wrap (IntKind.u64.wrap (x29 - x30))),.int .u64 (if x33 > o then x33 else o),.bool ag] <|
 drw <|
 ld [.int .u64] ⟨n34,3⟩ fun (x35:Int) =>
 ld [.int .i64] ⟨n34,2⟩ fun (x36:Int) =>
 deref (some ⟨p,0⟩) fun q37 =>
 ld [.ptr] ⟨q37.b,q37.o+6⟩ fun (x38:Option Pt) =>
 call Tryz.prog N_bbr_Model_State [.lf (.ptr x38)] [.agg K_i2u6b2] fun (r39:T_i2u6b2) =>
 chk ⟨n34,2⟩ (Ks.mk [.int .i64] x36) <|
 chk ⟨n34,3⟩ (Ks.mk [.int .u64] x35) <|
 call Tryz.prog N_delay_Of [.lf (.int .i64 x36),.lf (.int .u64 r39.2.2.1)] [.lf (.int .u64)] fun (r40:Int) =>
 chk ⟨n34,3⟩ (Ks.mk [.int .u64] x35) <|
 call Tryz.prog N_sat_Add [.lf (.int .u64 x35),.lf (.int .u64 r40)] [.lf (.int .u64)] fun (r41:Int) =>
 deref (some ⟨p,0⟩) fun q42 =>
 st ⟨q42.b,q42.o+8⟩ [.int .u64 r41] <|
 drw <|
 deref (some ⟨p,0⟩) fun q43 =>
 ld [.int .i64] ⟨n34,2⟩ fun (x44:Int) =>
 ld [.int .u64] ⟨q43.b,q43.o+7⟩ fun (x45:Int) =>
 deref (some ⟨p,0⟩) fun q46 =>
 st ⟨q46.b,q46.o+7⟩ [.int .u64 (IntKind.u64.wrap (x45+(IntKind.u64.wrap x44)))] <|
 ld KS ⟨n34,0⟩ fun (x47:Ks.T KS) =>
 st ⟨n1,0⟩ (Ks.mk KS x47) <|
 ld KS ⟨n1,0⟩ fun (x48:Ks.T KS) =>
 R (x48,(0:Int))
theorem w_fin {w0 w:World} {S0 R0:Nat→Prop} {G:SP} {R:Rs.T [.agg KS,.lf (.int .i64)]→WP} {p n1 n14 pb pd ps:Nat} {x:N7} {v:Sk} {now a b:Int} {ag:Bool} (hm:OkM v.md) (hn:U now) (hnx:U v.nx) (hab:0≤b - a∧b - a≤65536) (ho:0≤v.out∧v.out+65536 < 18446744073709551616)
  (h:Own w0 S0 R0 w (blk n1 zS^blk n14 [.int .u64 a,.int .u64 b]^(blk p (sL v pb pd ps x.1)^blk pb (Ks.mk KBf v.bf)^brd pd v.bd^blk ps (Ks.mk KSp v.sp)^mdl x v.md)^G))
  (k:∀ w',Own w0 S0 R0 w' (sck p (putS v (a,b) ag now).2^G)→R ((putS v (a,b) ag now).1,0) w'):finE p n1 n14 now ag R w:=by
 unfold finE
 have e1:IntKind.u64.wrap (b - a)=b - a:=wu (by omega) (by omega)
 have e2:IntKind.i64.wrap (b - a)=b - a:=wi (by omega) (by omega)
 have hst:U (if v.nx > now then v.nx else now):=by split;exact hnx;exact hn
 have hD:U (delayI (b - a) v.md.rate):=U_delay (by omega) hm.rate
 refine w_drw h fun w h=>w_deref (w_ld h rfl (w_ld h rfl (w_ld h rfl (w_deref (w_ld h rfl (w_ld h rfl (w_new h fun n34 w h=>?_)))))))
 refine w_chk h rfl (w_chk h rfl (w_chk h rfl (w_chk h rfl (w_chk h rfl ?_))))
 rw [e1,e2]
 refine w_setAll h (by rfl) fun w h=>w_drw h fun w h=>w_ld h rfl (w_ld h rfl (w_deref (w_ld h rfl (w_call (mst_tri x v.md) h fun r w h=>?_))))
 obtain ⟨hr,h⟩:=h.purP;rw [hr]
 refine w_chk h rfl (w_chk h rfl (w_call (delay_tri (b - a) v.md.rate (by omega) hm.rate) h fun r w h=>?_))
 obtain ⟨hr,h⟩:=h.purP;rw [hr]
 refine w_chk h rfl (w_call (satadd_tri _ _ hst hD) h fun r w h=>?_)
 obtain ⟨hr,h⟩:=h.purP;rw [hr]
 refine w_deref (w_setTo h p (sL { v with nx:=addI (if v.nx > now then v.nx else now) (delayI (b - a) v.md.rate) } pb pd ps x.1) rfl rfl rfl fun w h=>?_)
 have e3:IntKind.u64.wrap (v.out+IntKind.u64.wrap (b - a))=v.out+(b - a):=by rw [e1];exact wu (by omega) (by omega)
 refine w_drw h fun w h=>w_deref (w_ld h rfl (w_ld (x:=v.out) h rfl (w_deref ?_)))
 rw [e3]
 refine w_setTo h p (sL { v with nx:=addI (if v.nx > now then v.nx else now) (delayI (b - a) v.md.rate),out:=v.out+(b - a) } pb pd ps x.1) rfl rfl rfl fun w h=>?_
 refine w_ldAll (b:=n34) (x:=(putS v (a,b) ag now).1) h rfl (w_setAll h (by rfl) fun w h=>w_ldAll (b:=n1) (x:=(putS v (a,b) ag now).1) h rfl ?_)
 have h2:Own w0 S0 R0 w (sck p { v with nx:=addI (if v.nx > now then v.nx else now) (delayI (b - a) v.md.rate),out:=v.out+(b - a) }^G):=(h.mkSck p pb pd ps x { v with nx:=addI (if v.nx > now then v.nx else now) (delayI (b - a) v.md.rate),out:=v.out+(b - a) }).fin
 exact k w h2
end SockE

namespace SockF
open Arith ArithC Delays Board BbrM BbrMm SockA SockB SockM SockC SockD SockE
abbrev KR:Ks:=[.int .u64,.int .u64]
theorem w_both {A B:WP} {w:World} (h:A w) (k:B w):both A B w:=⟨h,k⟩
def sndE (p n1 n9 n14:Nat) (o:Int) (ag:Bool) (R:Rs.T [.agg KS,.lf (.int .i64)]→WP):WP :=
 join [] (fun J15 =>
 ite' (!ag) (
 drw <|
 deref (some ⟨p,0⟩) fun q17 =>
 ld [.ptr] ⟨q17.b,q17.o+3⟩ fun (x18:Option Pt) =>
 call Tryz.prog N_sock_Sock_Tso [.lf (.ptr (some ⟨p,0⟩))] [.lf (.int .i64)] fun (r19:Int) =>
 chk ⟨q17.b,q17.o+3⟩ (Ks.mk [.ptr] x18) <|
 call Tryz.prog N_buffer_Buffer_Take [.lf (.ptr x18),.lf (.int .i64 r19)] [.agg [.int .u64,.int .u64],.lf .bool] fun (r20:(Int × Int) × Bool) =>
 st ⟨n14,0⟩ (Ks.mk [.int .u64,.int .u64] r20.1) <|
 drw <|
 ld K_u4b ⟨n9,0⟩ fun (x21:T_u4b) =>
 deref (some ⟨p,0⟩) fun q22 =>
 ld [.int .u64] ⟨n14,0⟩ fun (x23:Int) =>
 ld [.int .u64] ⟨n14,1⟩ fun (x24:Int) =>
 ld [.ptr] ⟨q22.b,q22.o+4⟩ fun (x25:Option Pt) =>
 call Tryz.prog N_board_Board_Sent [.lf (.ptr x25),.lf (.int .u64 x23),.lf (.int .u64 x24),.agg (Ks.mk K_u4b x21)] [.lf (.int .i64)] fun (r26:Int) =>
 J15 ()) <|
 J15 ()) fun (y16:Unit)=>finE p n1 n14 o ag R
def agnE (p n1 n9:Nat) (o:Int) (R:Rs.T [.agg KS,.lf (.int .i64)]→WP):WP :=
 drw <|
 ld K_u4b ⟨n9,0⟩ fun (x10:T_u4b) =>
 deref (some ⟨p,0⟩) fun q11 =>
 ld [.ptr] ⟨q11.b,q11.o+4⟩ fun (x12:Option Pt) =>
 both (
 call Tryz.prog N_board_Board_Again [.lf (.ptr x12),.agg (Ks.mk K_u4b x10)] [.agg [.int .u64,.int .u64],.lf .bool] fun (r13:(Int × Int) × Bool) =>
 new [.int .u64 (0:Int),.int .u64 (0:Int)] fun n14 =>
 chk ⟨q11.b,q11.o+4⟩ (Ks.mk [.ptr] x12) <|
 chk ⟨n9,0⟩ (Ks.mk K_u4b x10) <|
 st ⟨n14,0⟩ (Ks.mk [.int .u64,.int .u64] r13.1) <|
 sndE p n1 n9 n14 o r13.2 R) <|
 new [.int .u64 (0:Int),.int .u64 (0:Int)] fun n49 =>
 chk ⟨q11.b,q11.o+4⟩ (Ks.mk [.ptr] x12) <|
 chk ⟨n9,0⟩ (Ks.mk K_u4b x10) <|
 call Tryz.prog N_board_Board_Again [.lf (.ptr x12),.agg (Ks.mk K_u4b x10)] [.agg [.int .u64,.int .u64],.lf .bool] fun (r50:(Int × Int) × Bool) =>
 st ⟨n49,0⟩ (Ks.mk [.int .u64,.int .u64] r50.1) <|
 sndE p n1 n9 n49 o r50.2 R
theorem tk_range {b:Bf} (hb:OkBf b) {m:Int} (hm:m≤65536):0≤(tkF b m).1.1.2 - (tkF b m).1.1.1∧(tkF b m).1.1.2 - (tkF b m).1.1.1≤65536:=by
 have:=hb.nw
 unfold tkF
 split
 ·show 0≤bN b+min (bW b - bN b) m - bN b∧bN b+min (bW b - bN b) m - bN b≤65536
  omega
 ·show (0:Int)≤0 - 0∧(0:Int) - 0≤65536
  omega
theorem w_snd {w0 w:World} {S0 R0:Nat→Prop} {G:SP} {R:Rs.T [.agg KS,.lf (.int .i64)]→WP} {p n1 n9 n14 pb pd ps:Nat} {x:N7} {v:Sk} {now a b:Int} {sn:Snt} {ag:Bool} (hbf:OkBf v.bf) (hm:OkM v.md) (hn:U now) (hnx:U v.nx) (hab:ag=true→0≤b - a∧b - a≤65536) (ho:0≤v.out∧v.out+65536 < 18446744073709551616)
  (h:Own w0 S0 R0 w (blk n1 zS^blk n9 (Ks.mk K_u4b sn)^blk n14 [.int .u64 a,.int .u64 b]^(blk p (sL v pb pd ps x.1)^blk pb (Ks.mk KBf v.bf)^brd pd v.bd^blk ps (Ks.mk KSp v.sp)^mdl x v.md)^G))
  (k1:ag=true→∀ w',Own w0 S0 R0 w' (sck p (putS v (a,b) true now).2^G)→R ((putS v (a,b) true now).1,0) w')
  (k2:ag=false→∀ w',Own w0 S0 R0 w' (sck p (putS { v with bf:=(tkF v.bf (skTso v)).2,bd:=(sentF v.bd (tkF v.bf (skTso v)).1.1.1 (tkF v.bf (skTso v)).1.1.2 sn).2 } (tkF v.bf (skTso v)).1.1 false now).2^G)→R ((putS { v with bf:=(tkF v.bf (skTso v)).2,bd:=(sentF v.bd (tkF v.bf (skTso v)).1.1.1 (tkF v.bf (skTso v)).1.1.2 sn).2 } (tkF v.bf (skTso v)).1.1 false now).1,0) w'):sndE p n1 n9 n14 now ag R w:=by
 have hts:=tso_r v.md.rate v.mss hm.rate.1
 unfold sndE
 cases ag with
 | true =>
  refine w_join h (fun _=>blk n1 zS^blk n9 (Ks.mk K_u4b sn)^blk n14 [.int .u64 a,.int .u64 b]^(blk p (sL v pb pd ps x.1)^blk pb (Ks.mk KBf v.bf)^brd pd v.bd^blk ps (Ks.mk KSp v.sp)^mdl x v.md)^G) (fun _=>True) (fun _ w _ h=>?_) ?_
  ·exact w_fin (G:=G) (pb:=pb) (pd:=pd) (ps:=ps) (x:=x) hm hn hnx (hab rfl) ho h.fin (k1 rfl)
  ·exact w_ite (fun c=>by cases c) fun _=>⟨trivial,h⟩
 | false =>
  refine w_join h (fun _=>blk n1 zS^blk n14 (Ks.mk KR (tkF v.bf (skTso v)).1.1)^(blk p (sL v pb pd ps x.1)^blk pb (Ks.mk KBf (tkF v.bf (skTso v)).2)^brd pd (sentF v.bd (tkF v.bf (skTso v)).1.1.1 (tkF v.bf (skTso v)).1.1.2 sn).2^blk ps (Ks.mk KSp v.sp)^mdl x v.md)^G) (fun _=>True) (fun _ w _ h=>?_) ?_
  ·exact w_fin (G:=G) (v:={ v with bf:=(tkF v.bf (skTso v)).2,bd:=(sentF v.bd (tkF v.bf (skTso v)).1.1.1 (tkF v.bf (skTso v)).1.1.2 sn).2 }) hm hn hnx (tk_range hbf hts.2) ho h (k2 rfl)
  ·refine w_ite (fun _=>?_) fun c=>by cases c
   refine w_drw h fun w h=>w_deref (w_ld h rfl (w_call (tsoO_tri p pb pd ps x v hm) h fun r w h=>?_))
   obtain ⟨hr,h⟩:=h.purP;rw [hr]
   refine w_chk h rfl (w_call (btake_tri pb v.bf hbf (skTso v) (by unfold skTso;omega)) h fun r w h=>?_)
   obtain ⟨hr,h⟩:=h.purP;rw [hr]
   refine w_setAll h (by rfl) fun w h=>w_drw h fun w h=>w_ldAll (b:=n9) (x:=sn) h rfl (w_deref (w_ld h rfl (w_ld h rfl (w_ld h rfl (w_call (Board.sent_tri pd _ _ sn v.bd) h fun r w h=>?_)))))
   obtain ⟨hr,h⟩:=h.purP
   exact ⟨trivial,h.fin⟩
def agS (v:Sk) (sn:Snt) (now:Int):Sg × Sk :=
 if (lostF v.bd.1).2 then putS { v with bd:=(againF v.bd.1 sn,v.bd.2) } (lostF v.bd.1).1 true now
 else putS { v with bf:=(tkF v.bf (skTso v)).2,bd:=(sentF v.bd (tkF v.bf (skTso v)).1.1.1 (tkF v.bf (skTso v)).1.1.2 sn).2 } (tkF v.bf (skTso v)).1.1 false now
theorem goS_agS (v:Sk) (now:Int):goS v now=agS (touchS v now) (sentP v.sp now (skFl v)).1 now:=rfl
theorem again_no {l:List Pc} (s:Snt) (h:(lostF l).2=false):againF l s=l:=by
 unfold lostF at h
 unfold againF
 split at h
 ·split at h
  ·rename_i hc
   exact if_pos hc
  ·cases h
 ·rfl
theorem w_agn {w0 w:World} {S0 R0:Nat→Prop} {G:SP} {R:Rs.T [.agg KS,.lf (.int .i64)]→WP} {p n1 n9 pb pd ps:Nat} {x:N7} {v:Sk} {now:Int} {sn:Snt} (hbf:OkBf v.bf) (hbl:v.bd.1.length≤4294967296) (hm:OkM v.md) (hn:U now) (hnx:U v.nx) (hab:(lostF v.bd.1).2=true→0≤(lostF v.bd.1).1.2 - (lostF v.bd.1).1.1∧(lostF v.bd.1).1.2 - (lostF v.bd.1).1.1≤65536) (ho:0≤v.out∧v.out+65536 < 18446744073709551616)
  (h:Own w0 S0 R0 w (blk n1 zS^blk n9 (Ks.mk K_u4b sn)^(blk p (sL v pb pd ps x.1)^blk pb (Ks.mk KBf v.bf)^brd pd v.bd^blk ps (Ks.mk KSp v.sp)^mdl x v.md)^G))
  (k:∀ w',Own w0 S0 R0 w' (sck p (agS v sn now).2^G)→R ((agS v sn now).1,0) w'):agnE p n1 n9 now R w:=by
 have t1:∀ {w:World} {n14:Nat},Own w0 S0 R0 w (blk n1 zS^blk n9 (Ks.mk K_u4b sn)^blk n14 (Ks.mk KR (lostF v.bd.1).1)^(blk p (sL v pb pd ps x.1)^blk pb (Ks.mk KBf v.bf)^brd pd (againF v.bd.1 sn,v.bd.2)^blk ps (Ks.mk KSp v.sp)^mdl x v.md)^G)→sndE p n1 n9 n14 now (lostF v.bd.1).2 R w:=by
  intro w n14 h
  cases hl:(lostF v.bd.1).2 with
  | true =>
   have e:agS v sn now=putS { v with bd:=(againF v.bd.1 sn,v.bd.2) } (lostF v.bd.1).1 true now:=by unfold agS;rw [if_pos hl]
   rw [e] at k
   exact w_snd (G:=G) (v:={ v with bd:=(againF v.bd.1 sn,v.bd.2) }) (pb:=pb) (pd:=pd) (ps:=ps) (x:=x) (sn:=sn) hbf hm hn hnx (fun _=>hab hl) ho h (fun _=>k) (fun c=>by cases c)
  | false =>
   have e:agS v sn now=putS { v with bf:=(tkF v.bf (skTso v)).2,bd:=(sentF v.bd (tkF v.bf (skTso v)).1.1.1 (tkF v.bf (skTso v)).1.1.2 sn).2 } (tkF v.bf (skTso v)).1.1 false now:=by unfold agS;rw [if_neg (by rw [hl];intro c;cases c)]
   rw [e] at k
   rw [again_no sn hl] at h
   exact w_snd (G:=G) (v:=v) (pb:=pb) (pd:=pd) (ps:=ps) (x:=x) (sn:=sn) hbf hm hn hnx (fun c=>by cases c) ho h (fun c=>by cases c) (fun _=>k)
 unfold agnE
 refine w_drw h fun w h=>w_ldAll (b:=n9) (x:=sn) h rfl (w_deref (w_ld h rfl (w_both ?_ ?_)))
 ·refine w_call (Again_tri pd sn v.bd hbl) h fun r w h=>?_
  obtain ⟨hr,h⟩:=h.purP;rw [hr]
  refine w_new h fun n14 w h=>w_chk h rfl (w_chkAll (b:=n9) h (w_setAll h (by rfl) fun w h=>?_))
  exact t1 h.fin
 ·refine w_new h fun n14 w h=>w_chk h rfl (w_chkAll (b:=n9) h (w_call (Again_tri pd sn v.bd hbl) h fun r w h=>?_))
  obtain ⟨hr,h⟩:=h.purP;rw [hr]
  refine w_setAll h (by rfl) fun w h=>?_
  exact t1 h.fin
end SockF

namespace SockG
open Arith ArithC Delays Board BbrM BbrMm SockA SockB SockM SockC SockD SockE SockF
def OkL (l:List Pc):Prop:=(lostF l).2=true→0≤(lostF l).1.2 - (lostF l).1.1∧(lostF l).1.2 - (lostF l).1.1≤65536
theorem below_le (rate tso most:Int) (hr:U rate) (ht:tso≤65536):belowF rate tso most≤18014398509481984:=by
 unfold U at hr
 unfold belowF longI
 split<;>split<;>omega
theorem may_out {v:Sk} (hr:U v.md.rate) (h:(mayS v).1=0):v.out < 18014398509481984∧(mayS v).2=v:=by
 have hb:=below_le v.md.rate (skTso v) v.cap hr (tso_r v.md.rate v.mss hr.1).2
 unfold mayS at h ⊢
 by_cases c1:(lostF v.bd.1).2=false∧bW v.bf - bN v.bf=0
 ·rw [if_pos c1] at h;cases h
 ·rw [if_neg c1] at h ⊢
  by_cases c2:¬ (skFl v < v.md.win∧v.out < belowF v.md.rate (skTso v) v.cap)
  ·rw [if_pos c2] at h;cases h
  ·rw [if_neg c2] at h ⊢
   have c2:=Classical.not_not.1 c2
   refine ⟨by omega,?_⟩
   split<;>rfl
theorem emit_tri (p:Nat) (v:Sk) (hv:OkSk v) (hL:OkL v.bd.1) (now:Int) (hn:U now):Tri Tryz.prog N_sock_Sock_Emit [.lf (.ptr (some ⟨p,0⟩)),.lf (.int .u64 now)] [.agg KS,.lf (.int .i64)] (sck p v) (fun r=>pur (r=(emitS v now).1) (sck p (emitS v now).2)) :=
 tri_0 (call_sock_Sock_Emit (some ⟨p,0⟩) now) fun w0 S R h=>by
  unfold W_sock_Sock_Emit
  have hbl:v.bd.1.length≤4294967296:=by have:=hv.bl;omega
  refine w_new h fun n1 w h=>w_ite (fun c=>(by simp at c)) fun _=>w_call (SockD.may_tri p v hv) h fun r w h=>?_
  obtain ⟨hr,h⟩:=h.purP;rw [hr]
  refine w_ite (fun c=>?_) fun c=>?_
  ·have c:(mayS v).1≠0:=by simpa using c
   have e:emitS v now=((noS,(mayS v).1),(mayS v).2):=by unfold emitS;rw [if_pos c]
   rw [e]
   refine w_setAll h (by rfl) fun w h=>w_ldAll (b:=n1) (x:=noS) h rfl ?_
   have h:Own w0 S R w (sck p (mayS v).2^blk n1 zS):=h.fin
   exact Own.retP rfl h.keep
  ·have c:(mayS v).1=0:=by simpa using c
   have e:emitS v now=(((goS v now).1,0),(goS v now).2):=by unfold emitS;rw [if_neg (by rw [c];exact fun e=>e rfl)]
   obtain ⟨ho,e2⟩:=may_out hv.md.rate c
   rw [e2] at h
   rw [e,goS_agS]
   have ho2:0≤v.out∧v.out+65536 < 18446744073709551616:=⟨hv.out.1,by omega⟩
   have t1:∀ {w:World} {n9 pb pd ps:Nat} {x:N7},Own w0 S R w (blk n1 zS^blk n9 (Ks.mk K_u4b (sentP v.sp now (skFl v)).1)^(blk p (sL v pb pd ps x.1)^blk pb (Ks.mk KBf v.bf)^brd pd v.bd^blk ps (Ks.mk KSp (sentP v.sp now (skFl v)).2)^mdl x v.md)^emp)→agnE p n1 n9 now (fun r w=>Own w0 S R w (pur (r=((agS (touchS v now) (sentP v.sp now (skFl v)).1 now).1,0)) (sck p (agS (touchS v now) (sentP v.sp now (skFl v)).1 now).2))) w:=by
    intro w n9 pb pd ps x h
    exact w_agn (G:=emp) (v:=touchS v now) (pb:=pb) (pd:=pd) (ps:=ps) (x:=x) (sn:=(sentP v.sp now (skFl v)).1) hv.bf hbl hv.md hn hv.nx hL ho2 h (fun w h=>Own.retP rfl h.keep)
   obtain ⟨pb,pd,ps,x,h⟩:=(h.le (star_emp _)).sck p
   refine w_drw h fun w h=>w_deref (w_ld h rfl (w_both ?_ ?_))
   ·refine w_call (flightO_tri p pb pd ps x v hbl) h fun r w h=>?_
    obtain ⟨hr,h⟩:=h.purP;rw [hr]
    refine w_chk h rfl (w_both ?_ ?_)
    ·refine w_call (SockB.sent_tri ps v.sp now (skFl v)) h fun r w h=>?_
     obtain ⟨hr,h⟩:=h.purP;rw [hr]
     refine w_new h fun n9 w h=>w_chk h rfl (w_setAll h (by rfl) fun w h=>?_)
     exact t1 (pb:=pb) (pd:=pd) (ps:=ps) (x:=x) h.fin
    ·refine w_new h fun n9 w h=>w_chk h rfl (w_call (SockB.sent_tri ps v.sp now (skFl v)) h fun r w h=>?_)
     obtain ⟨hr,h⟩:=h.purP;rw [hr]
     refine w_setAll h (by rfl) fun w h=>?_
     exact t1 (pb:=pb) (pd:=pd) (ps:=ps) (x:=x) h.fin
   ·refine w_new h fun n9 w h=>w_chk h rfl (w_call (flightO_tri p pb pd ps x v hbl) h fun r w h=>?_)
    obtain ⟨hr,h⟩:=h.purP;rw [hr]
    refine w_chk h rfl (w_call (SockB.sent_tri ps v.sp now (skFl v)) h fun r w h=>?_)
    obtain ⟨hr,h⟩:=h.purP;rw [hr]
    refine w_setAll h (by rfl) fun w h=>?_
    exact t1 (pb:=pb) (pd:=pd) (ps:=ps) (x:=x) h.fin
end SockG

namespace SockH
open Arith ArithC SockA SockB
def akc (s:Sp) (sn:Sn):Bool:=!pH s || decide (sn.2.1 ≥ pPd s)
def akdP (s:Sp) (now n:Int) (sn:Sn):Sp :=
 if akc s sn then (addI (pD s) n,now,sn.1,(if addI (pD s) n > pL s then 0 else pL s),true,addI (pG s) n,sn.2.1,sn.2.2.1,sn.2.2.2.2,subI sn.1 sn.2.2.2.1,subI now sn.1)
 else (addI (pD s) n,now,pF s,(if addI (pD s) n > pL s then 0 else pL s),true,addI (pG s) n,pPd s,pPt s,pPl s,pSi s,pAi s)
structure OkSn (s:Sn):Prop where
 a:U s.1
 b:U s.2.1
 c:U s.2.2.1
 d:U s.2.2.2.1
theorem acked_tri (p:Nat) (s:Sp) (hs:OkSp s) (now n:Int) (hn:U now) (hU:U n) (sn:Sn) (hsn:OkSn sn):Tri Tryz.prog N_sampler_Sampler_Acked [.lf (.ptr (some ⟨p,0⟩)),.lf (.int .u64 now),.lf (.int .u64 n),.agg (Ks.mk KSn sn)] [] (blk p (Ks.mk KSp s)) (fun _=>blk p (Ks.mk KSp (akdP s now n sn))) :=
 tri_0 (call_sampler_Sampler_Acked (some ⟨p,0⟩) now n sn) fun w0 S R h=>by
  unfold W_sampler_Sampler_Acked
  refine w_new h fun n1 w h=>w_ite (fun c=>(by simp at c)) fun _=>?_
  refine w_deref (w_ld h rfl (w_call (satadd_tri (pD s) n hs.d hU) h fun r w h=>?_))
  obtain ⟨hr,h⟩:=h.purP;rw [hr]
  obtain ⟨l2,hl2⟩:∃ l2,l2=if addI (pD s) n > pL s then 0 else pL s:=⟨_,rfl⟩
  refine w_deref (w_setTo h p (Ks.mk KSp (addI (pD s) n,pT s,pF s,pL s,pH s,pG s,pPd s,pPt s,pPl s,pSi s,pAi s)) rfl rfl rfl fun w h=>?_)
  refine w_deref (w_setTo h p (Ks.mk KSp (addI (pD s) n,now,pF s,pL s,pH s,pG s,pPd s,pPt s,pPl s,pSi s,pAi s)) rfl rfl rfl fun w h=>?_)
  refine w_join h (fun _=>blk n1 (Ks.mk KSn sn)^blk p (Ks.mk KSp (addI (pD s) n,now,pF s,l2,pH s,pG s,pPd s,pPt s,pPl s,pSi s,pAi s))) (fun _=>True) (fun _ w _ h=>?_) ?_
  rotate_left
  ·refine w_drw h fun w h=>w_deref (w_deref (w_ld h rfl (w_ld h rfl (w_ite (fun c=>?_) fun c=>?_))))
   ·have c:addI (pD s) n > pL s:=of_decide_eq_true c
    rw [if_pos c] at hl2
    rw [hl2]
    refine w_deref (w_setTo h p (Ks.mk KSp (addI (pD s) n,now,pF s,0,pH s,pG s,pPd s,pPt s,pPl s,pSi s,pAi s)) rfl rfl rfl fun w h=>?_)
    exact ⟨trivial,h.fin⟩
   ·have c:¬ addI (pD s) n > pL s:=of_decide_eq_false c
    rw [if_neg c] at hl2
    rw [hl2]
    exact ⟨trivial,h.fin⟩
  ·refine w_deref (w_ld h rfl (w_call (satadd_tri (pG s) n hs.g hU) h fun r w h=>?_))
   obtain ⟨hr,h⟩:=h.purP;rw [hr]
   refine w_deref (w_setTo h p (Ks.mk KSp (addI (pD s) n,now,pF s,l2,pH s,addI (pG s) n,pPd s,pPt s,pPl s,pSi s,pAi s)) rfl rfl rfl fun w h=>?_)
   obtain ⟨e,he⟩:∃ e:Sp,e=akdP s now n sn:=⟨_,rfl⟩
   refine w_join h (fun _=>blk n1 (Ks.mk KSn sn)^blk p (Ks.mk KSp (pD e,pT e,pF e,pL e,pH s,pG e,pPd e,pPt e,pPl e,pSi e,pAi e))) (fun _=>True) (fun _ w _ h=>?_) ?_
   ·refine w_deref (w_setTo h p (Ks.mk KSp (pD e,pT e,pF e,pL e,true,pG e,pPd e,pPt e,pPl e,pSi e,pAi e)) rfl rfl rfl fun w h=>?_)
    have e2:akdP s now n sn=(pD e,pT e,pF e,pL e,true,pG e,pPd e,pPt e,pPl e,pSi e,pAi e):=by rw [he];unfold akdP;split<;>rfl
    rw [e2]
    exact h.fin
   ·refine w_join h (fun _=>blk n1 (Ks.mk KSn sn)^blk p (Ks.mk KSp (addI (pD s) n,now,pF s,l2,pH s,addI (pG s) n,pPd s,pPt s,pPl s,pSi s,pAi s))) (fun y:Bool=>y=akc s sn) (fun (y:Bool) w hy h=>?_) ?_
    ·rw [hy]
     refine w_ite (fun c=>?_) fun c=>?_
     ·have e2:e=(addI (pD s) n,now,sn.1,l2,true,addI (pG s) n,sn.2.1,sn.2.2.1,sn.2.2.2.2,subI sn.1 sn.2.2.2.1,subI now sn.1):=by rw [he,hl2];unfold akdP;rw [if_pos c]
      rw [e2]
      refine w_drw h fun w h=>w_ld h rfl (w_ld h rfl (w_ld h rfl ?_))
      refine w_deref (w_setTo h p (Ks.mk KSp (addI (pD s) n,now,pF s,l2,pH s,addI (pG s) n,sn.2.1,pPt s,pPl s,pSi s,pAi s)) rfl rfl rfl fun w h=>?_)
      refine w_chk h rfl (w_chk h rfl ?_)
      refine w_deref (w_setTo h p (Ks.mk KSp (addI (pD s) n,now,pF s,l2,pH s,addI (pG s) n,sn.2.1,sn.2.2.1,pPl s,pSi s,pAi s)) rfl rfl rfl fun w h=>?_)
      refine w_chk h rfl ?_
      refine w_deref (w_setTo h p (Ks.mk KSp (addI (pD s) n,now,pF s,l2,pH s,addI (pG s) n,sn.2.1,sn.2.2.1,sn.2.2.2.2,pSi s,pAi s)) rfl rfl rfl fun w h=>?_)
      refine w_drw h fun w h=>w_ld h rfl (w_ld h rfl (w_ld h rfl (w_call (satsub_tri sn.1 sn.2.2.2.1 hsn.a hsn.d) h fun r w h=>?_)))
      obtain ⟨hr,h⟩:=h.purP;rw [hr]
      refine w_chk h rfl (w_call (satsub_tri now sn.1 hn hsn.a) h fun r w h=>?_)
      obtain ⟨hr,h⟩:=h.purP;rw [hr]
      refine w_deref (w_setTo h p (Ks.mk KSp (addI (pD s) n,now,pF s,l2,pH s,addI (pG s) n,sn.2.1,sn.2.2.1,sn.2.2.2.2,subI sn.1 sn.2.2.2.1,pAi s)) rfl rfl rfl fun w h=>?_)
      refine w_deref (w_setTo h p (Ks.mk KSp (addI (pD s) n,now,pF s,l2,pH s,addI (pG s) n,sn.2.1,sn.2.2.1,sn.2.2.2.2,subI sn.1 sn.2.2.2.1,subI now sn.1)) rfl rfl rfl fun w h=>?_)
      refine w_ld h rfl ?_
      refine w_deref (w_setTo h p (Ks.mk KSp (addI (pD s) n,now,sn.1,l2,pH s,addI (pG s) n,sn.2.1,sn.2.2.1,sn.2.2.2.2,subI sn.1 sn.2.2.2.1,subI now sn.1)) rfl rfl rfl fun w h=>?_)
      exact ⟨trivial,h.fin⟩
     ·have e2:e=(addI (pD s) n,now,pF s,l2,true,addI (pG s) n,pPd s,pPt s,pPl s,pSi s,pAi s):=by rw [he,hl2];unfold akdP;rw [if_neg (by rw [c];intro c;cases c)]
      rw [e2]
      exact ⟨trivial,h.fin⟩
    ·refine w_drw h fun w h=>w_deref (w_ld h rfl (w_ite (fun c=>?_) fun c=>?_))
     ·have c:pH s=false:=by simpa using c
      exact ⟨by unfold akc;rw [c];rfl,h.fin⟩
     ·have c:pH s=true:=by simpa using c
      refine w_ld h rfl (w_deref (w_ld h rfl ?_))
      exact ⟨by unfold akc;rw [c];rfl,h.fin⟩
end SockH

namespace SockI
open Arith ArithC SockA SockB SockH
abbrev zSa:List Lf:=[.int .u64 0,.int .u64 0,.int .u64 0,.int .u64 0,.int .u64 0,.int .u64 0,.int .u64 0,.int .u64 0,.bool false]
theorem take_tri (p:Nat) (s:Sp) (hs:OkSp s) (now lost flight:Int) (hn:U now):Tri Tryz.prog N_sampler_Sampler_Take [.lf (.ptr (some ⟨p,0⟩)),.lf (.int .u64 now),.lf (.int .u64 lost),.lf (.int .u64 flight)] [.agg KSa] (blk p (Ks.mk KSp s)) (fun r=>pur (r=(takeP s now lost flight).1) (blk p (Ks.mk KSp (takeP s now lost flight).2))) :=
 tri_0 (call_sampler_Sampler_Take (some ⟨p,0⟩) now lost flight) fun w0 S R h=>by
  unfold W_sampler_Sampler_Take
  refine w_new h fun n1 w h=>w_ite (fun c=>(by simp at c)) fun _=>w_deref (w_ld (x:=pD s) h rfl (w_new h fun n5 w h=>w_setAll h (by rfl) fun w h=>?_))
  obtain ⟨e,he⟩:∃ e,e=(takeP s now lost flight).1:=⟨_,rfl⟩
  refine w_join h (fun _=>blk n1 zSa^blk p (Ks.mk KSp s)^blk n5 (Ks.mk KSa e)) (fun _=>True) (fun _ w _ h=>?_) ?_
  ·refine w_deref (w_setTo h p (Ks.mk KSp (pD s,pT s,pF s,pL s,false,0,0,0,false,0,0)) rfl rfl rfl fun w h=>w_ldAll (b:=n5) (x:=e) h rfl (w_setAll h (by rfl) fun w h=>w_ldAll (b:=n1) (x:=e) h rfl ?_))
   rw [← he,show (takeP s now lost flight).2=(pD s,pT s,pF s,pL s,false,0,0,0,false,0,0) from rfl]
   have h:Own w0 S R w (blk p (Ks.mk KSp (pD s,pT s,pF s,pL s,false,0,0,0,false,0,0))^blk n5 (Ks.mk KSa e)):=h.fin
   exact Own.retP rfl h.keep
  ·refine w_deref (w_ld (x:=(pH s,pG s,pPd s,pPt s,pPl s,pSi s,pAi s)) h rfl (w_new h fun n10 w h=>w_setAll h (by rfl) fun w h=>w_ld (x:=pH s) h rfl (w_ite (fun c=>?_) fun c=>?_)))
   ·have e2:e=(now,pD s,pPd s,longI (pSi s) (subI now (pPt s)),pAi s,pG s,lost,flight,pPl s):=by rw [he];unfold takeP;rw [if_pos c]
    refine w_drw h fun w h=>w_ld (x:=pG s) h rfl (w_ld (x:=pPd s) h rfl (w_ld (x:=pPl s) h rfl (w_ld (x:=pAi s) h rfl ?_)))
    refine w_setTo h n5 (Ks.mk KSa (now,pD s,0,0,0,pG s,lost,flight,false)) rfl rfl rfl fun w h=>?_
    refine w_chk h rfl (w_chk h rfl (w_chk h rfl ?_))
    refine w_setTo h n5 (Ks.mk KSa (now,pD s,pPd s,0,0,pG s,lost,flight,false)) rfl rfl rfl fun w h=>?_
    refine w_chk h rfl (w_chk h rfl ?_)
    refine w_setTo h n5 (Ks.mk KSa (now,pD s,pPd s,0,0,pG s,lost,flight,pPl s)) rfl rfl rfl fun w h=>?_
    refine w_chk h rfl ?_
    refine w_setTo h n5 (Ks.mk KSa (now,pD s,pPd s,0,pAi s,pG s,lost,flight,pPl s)) rfl rfl rfl fun w h=>?_
    refine w_drw h fun w h=>w_ld (x:=pSi s) h rfl (w_ld (x:=pPt s) h rfl (w_call (satsub_tri now (pPt s) hn hs.pt) h fun r w h=>?_))
    obtain ⟨hr,h⟩:=h.purP;rw [hr]
    refine w_chk h rfl (w_new h fun n19 w h=>?_)
    have h:=h.blkArr n19 KU [pSi s,subI now (pPt s)] rfl (by simp)
    have h:Own _ _ _ _ (arr ⟨some ⟨n19,0⟩,2,2⟩ KU [pSi s,subI now (pPt s)]^_):=h
    refine w_callL (A:=emp) (Q:=rarr ⟨some ⟨n19,0⟩,2,2⟩ KU [pSi s,subI now (pPt s)]) (longest_tri ⟨some ⟨n19,0⟩,2,2⟩ (pSi s) (subI now (pPt s))) h fun r w h=>?_
    obtain ⟨hr,h⟩:=h.purP;rw [hr]
    rw [e2]
    refine w_setTo h n5 (Ks.mk KSa (now,pD s,pPd s,longI (pSi s) (subI now (pPt s)),pAi s,pG s,lost,flight,pPl s)) rfl rfl rfl fun w h=>?_
    exact ⟨trivial,h.fin⟩
   ·have e2:e=(now,pD s,0,0,0,0,lost,flight,false):=by rw [he];unfold takeP;rw [if_neg (by rw [c];intro c;cases c)]
    rw [e2]
    have h:Own w0 S R w (blk n1 zSa^blk p (Ks.mk KSp s)^blk n5 [.int .u64 now,.int .u64 (pD s),.int .u64 0,.int .u64 0,.int .u64 0,.int .u64 0,.int .u64 lost,.int .u64 flight,.bool false]):=h.fin
    exact ⟨trivial,h⟩
end SockI

namespace SockJ
open Arith ArithC Delays Board BbrM BbrMm SockA SockB SockM SockC SockD SockE SockF SockG SockH SockI
theorem take_ok {s:Sp} (hs:OkSp s) {now lost flight:Int} (hn:U now) (hl:U lost) (hf:U flight):OkS (takeP s now lost flight).1:=by
 have h1:=U_sub hn hs.pt
 have h2:=hs.si
 have h3:U (longI (pSi s) (subI now (pPt s))):=by
  unfold longI
  repeat' split
  all_goals first | exact h1 | exact h2 | exact U_lit 0
 unfold takeP
 split
 ·exact ⟨hn,hs.d,hs.pd,h3,hs.ai,hs.g,hl,hf⟩
 ·exact ⟨hn,hs.d,U_lit 0,U_lit 0,U_lit 0,U_lit 0,hl,hf⟩
theorem learn_tri (p:Nat) (v:Sk) (hv:OkSk v) (now lost:Int) (hn:U now) (hl:U lost):Tri Tryz.prog N_sock_Sock_learn [.lf (.ptr (some ⟨p,0⟩)),.lf (.int .u64 now),.lf (.int .u64 lost)] [] (sck p v) (fun _=>sck p (learnS v now lost)) :=
 tri_0 (call_sock_Sock_learn (some ⟨p,0⟩) now lost) fun w0 S R h=>by
  unfold W_sock_Sock_learn
  have hbl:v.bd.1.length≤4294967296:=by have:=hv.bl;omega
  have hts:=tso_r v.md.rate v.mss hv.md.rate.1
  have ew:IntKind.u64.wrap (skTso v)=skTso v:=wu (by unfold skTso;omega) (by unfold skTso;omega)
  obtain ⟨pb,pd,ps,x,h⟩:=(h.le (star_emp _)).sck p
  refine w_drw h fun w h=>w_deref (w_deref (w_ld h rfl (w_ld h rfl (w_call (flightO_tri p pb pd ps x v hbl) h fun r w h=>?_))))
  obtain ⟨hr,h⟩:=h.purP;rw [hr]
  refine w_chk h rfl (w_chk h rfl (w_call (take_tri ps v.sp hv.sp now lost (skFl v) hn) h fun r w h=>?_))
  obtain ⟨hr,h⟩:=h.purP;rw [hr]
  refine w_chk h rfl (w_call (tsoO_tri p pb pd ps x v hv.md) h fun r w h=>?_)
  obtain ⟨hr,h⟩:=h.purP;rw [hr]
  refine w_chk h rfl ?_
  rw [ew]
  refine w_call (mupd_tri x v.md hv.md (takeP v.sp now lost (skFl v)).1 (take_ok hv.sp hn hl hv.fl) (skTso v) ⟨by unfold skTso;omega,by unfold skTso;omega⟩) h fun r w h=>?_
  obtain ⟨hr,h⟩:=h.purP
  rw [show learnS v now lost={ v with sp:=(takeP v.sp now lost (skFl v)).2,md:=mUpd v.md (takeP v.sp now lost (skFl v)).1 (skTso v) } from rfl]
  exact (h.mkSck p pb pd ps x { v with sp:=(takeP v.sp now lost (skFl v)).2,md:=mUpd v.md (takeP v.sp now lost (skFl v)).1 (skTso v) }).keep
theorem OkSk.lose {v:Sk} (hv:OkSk v):OkSk { v with bd:=(v.bd.1.map loseP,v.bd.2) } :=
 { hv with bl:=(by show (v.bd.1.map loseP).length≤4096;rw [List.length_map];exact hv.bl),fl:=(by show U (flightF (v.bd.1.map loseP));rw [lose_none];exact U_lit 0) }
theorem slose_tri (p:Nat) (v:Sk) (hv:OkSk v) (now:Int) (hn:U now):Tri Tryz.prog N_sock_Sock_Lose [.lf (.ptr (some ⟨p,0⟩)),.lf (.int .u64 now)] [.lf (.int .i64)] (sck p v) (fun r=>pur (r=0) (sck p (loseS v now))) :=
 tri_0 (call_sock_Sock_Lose (some ⟨p,0⟩) now) fun w0 S R h=>by
  unfold W_sock_Sock_Lose
  have hbl:v.bd.1.length≤4294967296:=by have:=hv.bl;omega
  refine w_ite (fun c=>(by simp at c)) fun _=>?_
  obtain ⟨pb,pd,ps,x,h⟩:=(h.le (star_emp _)).sck p
  refine w_deref (w_ld h rfl (w_call (Board.lose_tri pd v.bd hbl) h fun r w h=>?_))
  obtain ⟨hr,h⟩:=h.purP;rw [hr]
  have h:Own w0 S R w (sck p { v with bd:=(v.bd.1.map loseP,v.bd.2) }^emp):=(h.mkSck p pb pd ps x { v with bd:=(v.bd.1.map loseP,v.bd.2) }).fin
  refine w_call (learn_tri p { v with bd:=(v.bd.1.map loseP,v.bd.2) } (OkSk.lose hv) now (flightF v.bd.1) hn hv.fl) h fun _ w h=>?_
  exact Own.retP rfl h.keep
end SockJ

namespace SockK
open Arith ArithC Delays Board BbrM BbrMm SockA SockB SockM SockC SockD SockE SockF SockG SockH SockI SockJ
abbrev KCf:Ks:=[.int .i64,.int .i64,.int .i64,.int .i64,.int .u64,.int .u64,.bool,.int .i64,.int .i64]
theorem snew_tri (id:Int) (c:Ks.T KCf):Tri Tryz.prog N_sock_New [.lf (.int .i64 id),.agg (Ks.mk KCf c)] [.lf .ptr] emp (fun r=>ex fun p:Nat=>pur (r=some ⟨p,0⟩) (sck p (newS id c.2.2.2.2.2.2.2.2 c.2.2.2.2.2.2.2.1))) :=
 tri_0 (call_sock_New id c) fun w0 S R h=>by
  unfold W_sock_New
  obtain ⟨m,hm⟩:∃ m,m=clampM c.2.2.2.2.2.2.2.2:=⟨_,rfl⟩
  refine w_new h fun n1 w h=>w_ld (x:=c.2.2.2.2.2.2.2.2) h rfl (w_drw h fun w h=>w_ld (x:=c.2.2.2.2.2.2.2.1) h rfl (w_call (SockA.bnew_tri 1073741824) h fun r w h=>?_))
  obtain ⟨pb,h⟩:=h.exP
  obtain ⟨hr,h⟩:=h.purP;rw [hr]
  have h:Own w0 S R w (blk pb (Ks.mk KBf (0,0,0,1073741824))^_):=h
  refine w_chk h rfl (w_call Board.new_tri h fun r w h=>?_)
  obtain ⟨pd,h⟩:=h.exP
  obtain ⟨hr,h⟩:=h.purP;rw [hr]
  refine w_chk h rfl (w_call SockB.new_tri h fun r w h=>?_)
  obtain ⟨ps,h⟩:=h.exP
  obtain ⟨hr,h⟩:=h.purP;rw [hr]
  have hr2:100≤clampM c.2.2.2.2.2.2.2.2∧clampM c.2.2.2.2.2.2.2.2≤9000:=by
   unfold clampM
   repeat' split
   all_goals omega
  have ew:IntKind.u64.wrap (if (9000:Int) < (if (100:Int) > c.2.2.2.2.2.2.2.2 then (100:Int) else c.2.2.2.2.2.2.2.2) then (9000:Int) else (if (100:Int) > c.2.2.2.2.2.2.2.2 then (100:Int) else c.2.2.2.2.2.2.2.2))=clampM c.2.2.2.2.2.2.2.2:=wu (by unfold clampM at hr2;omega) (by unfold clampM at hr2;omega)
  refine w_chk h rfl ?_
  rw [ew]
  refine w_call (mnew_tri (clampM c.2.2.2.2.2.2.2.2)) h fun r w h=>?_
  obtain ⟨x,h⟩:=h.exP
  obtain ⟨hr,h⟩:=h.purP;rw [hr]
  refine w_chk h rfl (w_new h fun n8 w h=>?_)
  have h:Own w0 S R w (blk n8 [.int .i64 id,.int .i64 (clampM c.2.2.2.2.2.2.2.2),.int .i64 c.2.2.2.2.2.2.2.1,.ptr (some ⟨pb,0⟩),.ptr (some ⟨pd,0⟩),.ptr (some ⟨ps,0⟩),.ptr (some ⟨x.1,0⟩),.int .u64 0,.int .u64 0]^_):=h
  rw [show newS id c.2.2.2.2.2.2.2.2 c.2.2.2.2.2.2.2.1=⟨id,clampM c.2.2.2.2.2.2.2.2,c.2.2.2.2.2.2.2.1,(0,0,0,1073741824),([],0),sp0,mNew (clampM c.2.2.2.2.2.2.2.2),0,0⟩ from rfl]
  exact Own.retE n8 (Own.retP rfl (h.mkSck n8 pb pd ps x ⟨id,clampM c.2.2.2.2.2.2.2.2,c.2.2.2.2.2.2.2.1,(0,0,0,1073741824),([],0),sp0,mNew (clampM c.2.2.2.2.2.2.2.2),0,0⟩).keep)
end SockK

namespace SockL
open Arith ArithC Delays Board BbrM BbrMm SockA SockB SockM SockC SockD SockE SockF SockG SockH SockI SockJ
abbrev snP (q:Pc):Snt:=(q.2.2.1,q.2.2.2.1,q.2.2.2.2.1,q.2.2.2.2.2.1,q.2.2.2.2.2.2.1)
abbrev stepP (now:Int) (s:Sp) (q:Pc):Sp:=akdP s now (IntKind.u64.wrap (q.2.1 - q.1)) (snP q)
def akdL (now:Int) (s:Sp) (l:List Pc):Sp:=l.foldl (stepP now) s
def OkPs (l:List Pc):Prop:=∀ q∈l,OkSn (snP q)
theorem fl_U (l:List Pc):U (flightF l):=by
 have h:∀ (l:List Pc) (n:Int),U n→U (l.foldl addF n):=by
  intro l
  induction l with
  | nil=>intro n h;exact h
  | cons p l ih=>intro n h;exact ih _ (by unfold addF;split;exact U_wrap _;exact h)
 exact h l 0 (U_lit 0)
theorem pass_U:∀ l:List Pc,U (passF l).2.1
 | []=>U_lit 0
 | p :: l=>by
  show U (if hitF p (passF l).2.2 then IntKind.u64.wrap ((passF l).2.1+IntKind.u64.wrap (p.2.1 - p.1)) else (passF l).2.1)
  split
  ·exact U_wrap _
  ·exact pass_U l
theorem step_ok {s:Sp} (hs:OkSp s) {now:Int} (hn:U now) {q:Pc} (hq:OkSn (snP q)):OkSp (stepP now s q):=by
 have h1:=U_add hs.d (U_wrap (q.2.1 - q.1))
 have h2:=U_add hs.g (U_wrap (q.2.1 - q.1))
 have h3:U (if addI (pD s) (IntKind.u64.wrap (q.2.1 - q.1)) > pL s then 0 else pL s):=by
  split
  ·exact U_lit 0
  ·exact hs.l
 unfold stepP akdP
 split
 ·exact ⟨h1,hn,hq.a,h3,h2,hq.b,hq.c,U_sub hq.a hq.d,U_sub hn hq.a⟩
 ·exact ⟨h1,hn,hs.f,h3,h2,hs.pd,hs.pt,hs.si,hs.ai⟩
abbrev brdA (v:Sk) (upto:Int) (xs:List (Int × Int)):List Pc × Int:=((passF (restL upto xs v.bd.1)).1,v.bd.2)
def toldS (v:Sk) (now upto:Int) (xs:List (Int × Int)):Sk:={ v with bd:=brdA v upto xs,bf:=(akF v.bf upto).2,sp:=akdL now v.sp (toldL upto xs v.bd.1) }
def ackS (v:Sk) (now upto:Int) (xs:List (Int × Int)):Int × Sk:=if mayF v.bd upto xs then (0,learnS (toldS v now upto xs) now (passF (restL upto xs v.bd.1)).2.1) else (11,v)
theorem akdL_ok {now:Int} (hn:U now):∀ (l:List Pc) (s:Sp),OkSp s→OkPs l→OkSp (akdL now s l)
 | [],_,hs,_=>hs
 | q :: l,s,hs,hl=>akdL_ok hn l (stepP now s q) (step_ok hs hn (hl q (List.mem_cons_self ..))) (fun r hr=>hl r (List.mem_cons_of_mem _ hr))
theorem told_ok {l:List Pc} {upto:Int} {xs:List (Int × Int)} (h:OkPs l):OkPs (toldL upto xs l):=fun q hq=>h q (List.mem_filter.1 hq).1
theorem toldS_ok {v : Sk} (hv : OkSk v) (hp : OkPs v.bd.1) {now : Int} (hn : U now) (upto : Int) (xs : List (Int × Int)) : OkSk (toldS v now upto xs) :=
  { hv with
    bf := OkBf.ak hv.bf upto
    bl := (by
      show (passF (restL upto xs v.bd.1)).1.length ≤ 4096
      rw [pass_len]
      have := restL_len upto xs v.bd.1 v.bd.1.length
      rw [List.take_length] at this
      exact Nat.le_trans this hv.bl)
    sp := akdL_ok hn _ _ hv.sp (told_ok hp)
    fl := fl_U _ }
end SockL

namespace SockN
open Arith ArithC Delays Board BbrM BbrMm SockA SockB SockM SockC SockD SockE SockF SockG SockH SockI SockJ SockL
abbrev KR:Ks:=[.int .u64,.int .u64]
theorem sack_tri (p:Nat) (v:Sk) (hv:OkSk v) (hp:OkPs v.bd.1) (now upto:Int) (hn:U now) (a:Sl) (xs:List (Ks.T KR)) (hx:xs.length≤4294967296):Tri Tryz.prog N_sock_Sock_Ack [.lf (.ptr (some ⟨p,0⟩)),.lf (.int .u64 now),.lf (.int .u64 upto),.lf (.sl a)] [.lf (.int .i64)] (sck p v^rarr a KR xs) (fun r=>pur (r=(ackS v now upto xs).1) (sck p (ackS v now upto xs).2)) :=
 tri_0 (call_sock_Sock_Ack (some ⟨p,0⟩) now upto a) fun w0 S R h=>by
  unfold W_sock_Sock_Ack
  have hbl:=hv.bl
  refine w_ite (fun c=>(by simp at c)) fun _=>?_
  obtain ⟨pb,pd,ps,x,h⟩:=h.sck p
  cases hm:mayF v.bd upto xs with
  | false =>
   have e:ackS v now upto xs=(11,v):=by unfold ackS;rw [if_neg (by rw [hm];intro c;cases c)]
   rw [e]
   refine w_deref (w_ld h rfl (w_callL (Q:=rarr a KR xs) (ack_no2_tri pd v.bd upto a xs hx hm) h fun r w h=>?_))
   obtain ⟨⟨_,_,h3⟩,h⟩:=h.purP
   refine w_ite (fun _=>?_) fun c=>(by rw [h3] at c;cases c)
   rw [h3]
   have h:Own w0 S R w (sck p v^emp):=(h.mkSck p pb pd ps x v).fin
   exact Own.retP rfl h.keep
  | true =>
   have e:ackS v now upto xs=(0,learnS (toldS v now upto xs) now (passF (restL upto xs v.bd.1)).2.1):=by unfold ackS;rw [if_pos hm]
   rw [e]
   refine w_deref (w_ld h rfl (w_callL (Q:=rarr a KR xs) (ack_tri pd v.bd upto a xs (by omega) hx hm) h fun r w h=>?_))
   obtain ⟨r1,r2,r3⟩:=r
   obtain ⟨⟨h2,h3⟩,h⟩:=h.purP
   dsimp only at h2 h3 h ⊢
   refine w_ite (fun c=>(by rw [h3] at c;cases c)) fun _=>?_
   refine w_deref (w_ld h rfl (w_call (backed_tri pb v.bf upto) h fun r w h=>?_))
   obtain ⟨_,h⟩:=h.purP
   have h:Own w0 S R w (arr r1 K_u6b3 (toldL upto xs v.bd.1)^(blk p (sL v pb pd ps x.1)^blk pb (Ks.mk KBf (akF v.bf upto).2)^brd pd (brdA v upto xs)^blk ps (Ks.mk KSp v.sp)^mdl x v.md)^emp):=h.fin
   refine w_loopE (fun (y:Sl) (g:List Pc × Sp)=>arr y K_u6b3 g.1^(blk p (sL v pb pd ps x.1)^blk pb (Ks.mk KBf (akF v.bf upto).2)^brd pd (brdA v upto xs)^blk ps (Ks.mk KSp g.2)^mdl x v.md)^emp) (fun _ g=>OkSp g.2∧OkPs g.1∧akdL now g.2 g.1=akdL now v.sp (toldL upto xs v.bd.1)) (fun _ g=>g.1.length) (toldL upto xs v.bd.1,v.sp) h ⟨hv.sp,told_ok hp,rfl⟩ ?_
   rintro K (y:Sl) ⟨l,s⟩ w ⟨hs,hl,hE⟩ h k
   dsimp only at hs hl hE h ⊢
   have hy:=(h.rd (s:=y)).2
   have hcap:=own_cap (s:=y) (K:=K_u6b3) (xs:=l) h
   refine w_ite (fun c=>?_) fun c=>?_
   ·have hl0:l=[]:=by
     have c:((y.len:Nat):Int)=0:=by simpa using c
     cases l with
     | nil=>rfl
     | cons q l=>rw [hy] at c;simp at c;omega
    rw [hl0] at hE
    have h:Own w0 S R w (sck p (toldS v now upto xs)^emp):=by
     rw [show toldS v now upto xs={ v with bd:=brdA v upto xs,bf:=(akF v.bf upto).2,sp:=s } by unfold toldS;rw [← hE];rfl]
     exact (h.mkSck p pb pd ps x { v with bd:=brdA v upto xs,bf:=(akF v.bf upto).2,sp:=s }).fin
    rw [h2]
    refine w_call (learn_tri p (toldS v now upto xs) (toldS_ok hv hp hn upto xs) now _ hn (pass_U _)) h fun _ w h=>?_
    exact Own.retP rfl h.keep
   ·cases l with
    | nil=>rw [hy] at c;cases c
    | cons q l =>
     have hlen:y.len=l.length+1:=by rw [hy];rfl
     refine w_idx (s:=y) h (by decide) (by simp) (w_ldE h y 0 (y:=q) rfl rfl (w_new h fun n12 w h=>w_setAll h (by rfl) fun w h=>?_))
     refine w_slc (s:=y) h 1 y.len y.cap rfl rfl rfl rfl (by omega) (by rw [hlen];exact Nat.le_refl _) (by omega) (by omega) fun s13 _ _ h=>?_
     have ht:((q :: l).take y.len).drop 1=l:=by rw [List.take_of_length_le (by rw [hlen];exact Nat.le_refl _)];rfl
     rw [ht] at h
     refine w_drw h fun w h=>w_deref (w_ld (x:=q.2.1) h rfl (w_ld (x:=q.1) h rfl (w_ld (x:=snP q) h rfl (w_ld h rfl ?_))))
     refine w_call (acked_tri ps s hs now (IntKind.u64.wrap (q.2.1 - q.1)) hn (U_wrap _) (snP q) (hl q (List.mem_cons_self ..))) h fun _ w h=>?_
     exact k s13 (l,stepP now s q) w ⟨step_ok hs hn (hl q (List.mem_cons_self ..)),fun z hz=>hl z (List.mem_cons_of_mem _ hz),hE⟩ h.fin (Nat.lt_succ_self _)
end SockN

namespace SockO
open Arith ArithC Delays Board BbrM BbrMm SockA SockB SockM SockC SockD SockE SockF SockG SockH SockI SockJ SockL
structure OkPc (q:Pc):Prop where
 f:0≤pFrom q
 ft:pFrom q < pTo q
 le:pTo q - pFrom q≤65536
 t:pTo q≤4611686018427387904
 s:OkSn (snP q)
 x:pLo q=true→pSk q=false
abbrev OkPcs (l:List Pc):Prop:=∀ q∈l,OkPc q
theorem fly_sk {q:Pc} (h:flyP q=true):pSk q=false∧pLo q=false:=by
 unfold flyP at h
 cases h1:pSk q<;>cases h2:pLo q<;>rw [h1,h2] at h<;>first | exact ⟨rfl,rfl⟩ | cases h
theorem OkPc.lo {q:Pc} (h:OkPc q) (hf:flyP q=true) (x:Bool):OkPc (setLo q x):=⟨h.f,h.ft,h.le,h.t,⟨h.s.a,h.s.b,h.s.c,h.s.d⟩,fun _=>(fly_sk hf).1⟩
theorem OkPc.lose {q:Pc} (h:OkPc q):OkPc (loseP q):=by
 unfold loseP;split
 ·exact h.lo (by assumption) true
 ·exact h
theorem OkPc.mark {q:Pc} (h:OkPc q) (upto:Int) (xs:List (Int × Int)):OkPc (markP upto xs q):=by
 unfold markP;split
 ·exact ⟨h.f,h.ft,h.le,h.t,⟨h.s.a,h.s.b,h.s.c,h.s.d⟩,fun hx=>by cases hx⟩
 ·exact h
theorem OkPc.again {q:Pc} (h:OkPc q) {s:Snt} (hs:OkSn s):OkPc (againP q s):=⟨h.f,h.ft,h.le,h.t,⟨hs.a,hs.b,hs.c,hs.d⟩,fun hx=>by cases hx⟩
theorem pcs_lose {l:List Pc} (h:OkPcs l):OkPcs (l.map loseP):=fun q hq=>by
 obtain ⟨p,hp,rfl⟩:=List.mem_map.1 hq
 exact (h p hp).lose
theorem pcs_pass:∀ {l:List Pc},OkPcs l→OkPcs (passF l).1
 | [],_=>fun q hq=>by cases hq
 | p :: l,h=>fun q hq=>by
  have h1:=h p (List.mem_cons_self ..)
  have h2:=pcs_pass (l:=l) fun q hq=>h q (List.mem_cons_of_mem _ hq)
  simp only [passF] at hq
  split at hq
  ·rename_i hh
   rcases List.mem_cons.1 hq with rfl | hq
   ·exact h1.lo (by unfold hitF at hh;rw [Bool.and_eq_true] at hh;exact hh.1) true
   ·exact h2 q hq
  ·rcases List.mem_cons.1 hq with rfl | hq
   ·exact h1
   ·exact h2 q hq
theorem pcs_rest {l:List Pc} (h:OkPcs l) (upto:Int) (xs:List (Int × Int)):OkPcs (restL upto xs l):=fun q hq=>by
 obtain ⟨p,hp,rfl⟩:=List.mem_map.1 hq
 exact (h p (List.mem_filter.1 hp).1).mark upto xs
theorem pcs_again {l:List Pc} (h:OkPcs l) {s:Snt} (hs:OkSn s):OkPcs (againF l s):=fun q hq=>by
 unfold againF at hq
 split at hq
 ·rename_i p hp
  split at hq
  ·exact h q hq
  ·rcases List.mem_or_eq_of_mem_set hq with hq | rfl
   ·exact h q hq
   ·exact (h p (List.mem_of_getElem? hp)).again hs
 ·exact h q hq
theorem again_len (l:List Pc) (s:Snt):(againF l s).length=l.length:=by
 unfold againF
 split
 ·split
  ·rfl
  ·rw [List.length_set]
 ·rfl
theorem lost_mem {l:List Pc} (h:(lostF l).2=true):∃ q∈l,(lostF l).1=(q.1,q.2.1):=by
 unfold lostF at h ⊢
 split
 ·rename_i p hp
  rw [hp] at h
  dsimp only at h
  split
  ·rename_i hc;rw [if_pos hc] at h;cases h
  ·exact ⟨p,List.mem_of_getElem? hp,rfl⟩
 ·rename_i hp;rw [hp] at h;cases h
theorem pcs_lost {l:List Pc} (h:OkPcs l):OkL l:=fun hl=>by
 obtain ⟨q,hq,e⟩:=lost_mem hl
 have h1:=h q hq
 have h2:=h1.ft
 have h3:=h1.le
 rw [e]
 exact ⟨by show 0≤pTo q - pFrom q;omega,h3⟩
structure IvS (k:Int) (v:Sk):Prop where
 ok:OkSk v
 pc:OkPcs v.bd.1
 e:v.bd.2=bN v.bf
 w:bW v.bf≤k * 1073741824
 o:v.out≤18014398509547520
theorem IvS.ps {k:Int} {v:Sk} (h:IvS k v):OkPs v.bd.1:=fun q hq=>(h.pc q hq).s
theorem IvS.le {k j:Int} {v:Sk} (h:IvS k v) (hj:k≤j):IvS j v:={ h with w:=by have:=h.w;omega }
theorem new_inv (id mss cap:Int) (hc:-9223372036854775808≤cap∧cap < 9223372036854775808):IvS 0 (newS id mss cap) where
 ok:={
  bf:=⟨(by decide:(0:Int)≤0),(by decide:(0:Int)≤0),(by decide:(0:Int)≤0),(by decide:(0:Int) - 0≤1073741824),(by decide:(1073741824:Int)≤1073741824),(by decide:(0:Int)≤4611686018427387904)⟩
  bl:=by show (0:Nat)≤4096;decide
  sp:=sp0_ok
  md:=OkM.new _
  mss:=clampM_r mss
  cap:=hc
  out:=U_lit 0
  nx:=U_lit 0
  fl:=U_lit 0 }
 pc:=fun q hq=>by cases hq
 e:=rfl
 w:=by show (0:Int)≤0 * 1073741824;decide
 o:=by show (0:Int)≤18014398509547520;decide
theorem IvS.write {k:Int} {v:Sk} (h:IvS k v) (hk:k < 4294967296) (n:Int):IvS (k+1) (writeS v n).2:=by
 have hw:=h.w
 have hl:=h.ok.bf.ll
 have hh:=h.ok.bf.nw
 have hu:=h.ok.bf.un
 have h0:=h.ok.bf.u
 unfold writeS wrF
 split
 ·exact h.le (by omega)
 ·split
  ·exact h.le (by omega)
  ·rename_i c1 c2
   have hb:bW v.bf+n≤bW v.bf+1073741824:=by omega
   have hok:OkBf (bW v.bf+n,bN v.bf,bU v.bf,bL v.bf):=⟨h0,hu,by show bN v.bf≤bW v.bf+n;omega,by show bW v.bf+n - bU v.bf≤bL v.bf;omega,hl,by show bW v.bf+n≤4611686018427387904;omega⟩
   exact { ok:={ h.ok with bf:=hok },pc:=h.pc,e:=h.e,w:=by show bW v.bf+n≤(k+1) * 1073741824;omega,o:=h.o }
theorem IvS.done {k:Int} {v:Sk} (h:IvS k v) (n:Int):IvS k (doneS v n).2:=by
 have ho:=h.ok.out
 unfold U at ho
 unfold doneS
 split
 ·exact h
 ·rename_i c
  have hb:=h.o
  exact { h with ok:={ h.ok with out:=by show U (v.out - n);unfold U;omega },o:=by show v.out - n≤18014398509547520;omega }
theorem limit_ok {s:Sp} (hs:OkSp s) {f:Int} (hf:U f):OkSp (limitP s f):=by
 have h1:U (if addI (pD s) f > 1 then addI (pD s) f else 1):=by
  have:=U_add hs.d hf
  split
  ·exact this
  ·exact U_lit 1
 exact { hs with l:=h1 }
theorem touch_ok {s:Sp} (hs:OkSp s) {now f:Int} (hn:U now):OkSp (touch s now f):=by
 unfold touch;split
 ·exact { hs with t:=hn,f:=hn }
 ·exact hs
theorem sent_ok {s:Sp} (hs:OkSp s) {now f:Int} (hn:U now):OkSn (sentP s now f).1 :=
 have h:=touch_ok hs (f:=f) hn
 ⟨hn,h.d,h.t,h.f⟩
theorem IvS.may {k:Int} {v:Sk} (h:IvS k v):IvS k (mayS v).2:=by
 unfold mayS
 split
 ·dsimp only
  split
  ·exact { h with ok:={ h.ok with sp:=limit_ok h.ok.sp h.ok.fl } }
  ·exact h
 ·split
  ·exact h
  ·split<;>exact h
theorem U_max {a b:Int} (ha:U a) (hb:U b):U (if a > b then a else b):=by split;exact ha;exact hb
theorem IvS.put {k:Int} {v:Sk} (h:IvS k v) {rg:Int × Int} {ag:Bool} {now:Int} (hn:U now) (hr:0≤rg.2 - rg.1∧rg.2 - rg.1≤65536) (ho:v.out < 18014398509481984):IvS k (putS v rg ag now).2:=by
 have h1:=h.ok.out
 unfold U at h1
 exact { h with ok:={ h.ok with out:=by show U (v.out+(rg.2 - rg.1));unfold U;omega,nx:=U_add (U_max h.ok.nx hn) (U_delay (by omega) h.ok.md.rate) },o:=by show v.out+(rg.2 - rg.1)≤18014398509547520;omega }
theorem flight_U (l:List Pc):U (flightF l):=fl_U l
theorem may_go {v:Sk} (h:(mayS v).1=0) (hl:(lostF v.bd.1).2=false):bW v.bf - bN v.bf≠0∧v.bd.1.length < 4096:=by
 unfold mayS at h
 by_cases c1:(lostF v.bd.1).2=false∧bW v.bf - bN v.bf=0
 ·rw [if_pos c1] at h;cases h
 ·rw [if_neg c1] at h
  split at h
  ·cases h
  ·by_cases c3:(lostF v.bd.1).2=false∧(v.bd.1.length:Int) ≥ 4096
   ·rw [if_pos c3] at h;cases h
   ·exact ⟨fun e=>c1 ⟨hl,e⟩,by
     have:¬ (v.bd.1.length:Int) ≥ 4096:=fun e=>c3 ⟨hl,e⟩
     omega⟩
abbrev cutN (v:Sk):Int:=min (bW v.bf - bN v.bf) (skTso v)
theorem cut_r {k:Int} {v:Sk} (h:IvS k v) (hu:bW v.bf - bN v.bf≠0):1≤cutN v∧cutN v≤65536∧cutN v≤bW v.bf - bN v.bf:=by
 have:=tso_r v.md.rate v.mss h.ok.md.rate.1
 have:=h.ok.bf.nw
 unfold cutN skTso
 omega
theorem tk_eq {k:Int} {v:Sk} (h:IvS k v) (hu:bW v.bf - bN v.bf≠0):tkF v.bf (skTso v)=(((bN v.bf,bN v.bf+cutN v),true),(bW v.bf,bN v.bf+cutN v,bU v.bf,bL v.bf)):=by
 have:=tso_r v.md.rate v.mss h.ok.md.rate.1
 unfold tkF
 rw [if_pos ⟨by unfold skTso;omega,hu⟩]
theorem sent_eq {k:Int} {v:Sk} (h:IvS k v) (hu:bW v.bf - bN v.bf≠0) (hl:v.bd.1.length < 4096) (s:Snt):sentF v.bd (bN v.bf) (bN v.bf+cutN v) s=(0,(v.bd.1++[mkPc (bN v.bf) (bN v.bf+cutN v) s],bN v.bf+cutN v)):=by
 have hc:=cut_r h hu
 have he:=h.e
 unfold sentF
 rw [if_neg (by omega),if_neg (by omega)]
abbrev newP (v:Sk) (now:Int):Sk:={ touchS v now with bf:=(bW v.bf,bN v.bf+cutN v,bU v.bf,bL v.bf),bd:=(v.bd.1++[mkPc (bN v.bf) (bN v.bf+cutN v) (sentP v.sp now (skFl v)).1],bN v.bf+cutN v) }
abbrev oldP (v:Sk) (now:Int):Sk:={ touchS v now with bd:=(againF v.bd.1 (sentP v.sp now (skFl v)).1,v.bd.2) }
theorem go_new {k:Int} {v:Sk} (h:IvS k v) (now:Int) (hm:(mayS v).1=0) (hl:(lostF v.bd.1).2=false):goS v now=putS (newP v now) (bN v.bf,bN v.bf+cutN v) false now:=by
 obtain ⟨h1,h2⟩:=may_go hm hl
 unfold goS
 rw [if_neg (by rw [hl];intro c;cases c),tk_eq h h1]
 dsimp only
 rw [sent_eq h h1 h2]
theorem go_old (v:Sk) (now:Int) (hl:(lostF v.bd.1).2=true):goS v now=putS (oldP v now) (lostF v.bd.1).1 true now:=by
 unfold goS
 rw [if_pos hl]
theorem newP_inv {k:Int} {v:Sk} (h:IvS k v) {now:Int} (hn:U now) (hm:(mayS v).1=0) (hl:(lostF v.bd.1).2=false):IvS k (newP v now):=by
 obtain ⟨h1,h2⟩:=may_go hm hl
 have hc:=cut_r h h1
 have b1:=h.ok.bf.u
 have b2:=h.ok.bf.un
 have b3:=h.ok.bf.nw
 have b6:=h.ok.bf.w
 have hs:=sent_ok h.ok.sp (f:=skFl v) hn
 exact {
  ok:={ h.ok with
   bf:=⟨b1,by show bU v.bf≤bN v.bf+cutN v;omega,by show bN v.bf+cutN v≤bW v.bf;omega,h.ok.bf.l,h.ok.bf.ll,b6⟩
   bl:=by show (v.bd.1++[_]).length≤4096;rw [List.length_append];simp;omega
   sp:=touch_ok h.ok.sp hn
   fl:=flight_U _ }
  pc:=fun q hq=>by
   rcases List.mem_append.1 hq with hq | hq
   ·exact h.pc q hq
   ·rw [List.mem_singleton.1 hq]
    exact ⟨by show 0≤bN v.bf;omega,by show bN v.bf < bN v.bf+cutN v;omega,by show bN v.bf+cutN v - bN v.bf≤65536;omega,by show bN v.bf+cutN v≤4611686018427387904;omega,hs,fun hx=>by cases hx⟩
  e:=rfl
  w:=h.w
  o:=h.o }
theorem oldP_inv {k : Int} {v : Sk} (h : IvS k v) {now : Int} (hn : U now) : IvS k (oldP v now) :=
  { ok := { h.ok with
      bl := by show (againF v.bd.1 _).length ≤ 4096; rw [again_len]; exact h.ok.bl
      sp := touch_ok h.ok.sp hn
      fl := flight_U _ }
    pc := pcs_again h.pc (sent_ok h.ok.sp hn)
    e := h.e
    w := h.w
    o := h.o }
theorem IvS.emit {k:Int} {v:Sk} (h:IvS k v) {now:Int} (hn:U now):IvS k (emitS v now).2:=by
 unfold emitS
 by_cases hm:(mayS v).1=0
 ·rw [if_neg (by rw [hm];exact fun e=>e rfl)]
  obtain ⟨ho,_⟩:=may_out h.ok.md.rate hm
  show IvS k (goS v now).2
  cases hl:(lostF v.bd.1).2 with
  | true =>
   rw [go_old v now hl]
   exact (oldP_inv h hn).put hn (pcs_lost h.pc hl) ho
  | false =>
   rw [go_new h now hm hl]
   have hc:=cut_r h (may_go hm hl).1
   exact (newP_inv h hn hm hl).put hn (by show 0≤bN v.bf+cutN v - bN v.bf∧bN v.bf+cutN v - bN v.bf≤65536;omega) ho
 ·rw [if_pos hm]
  exact h.may
theorem learn_inv {k:Int} {v:Sk} (h:IvS k v) {now lost:Int} (hn:U now) (hl:U lost):IvS k (learnS v now lost):=by
 have hts:=tso_r v.md.rate v.mss h.ok.md.rate.1
 have ht:=take_ok h.ok.sp hn hl h.ok.fl
 have hsp:=h.ok.sp
 exact { h with ok:={ h.ok with
  sp:=⟨hsp.d,hsp.t,hsp.f,hsp.l,U_lit 0,U_lit 0,U_lit 0,U_lit 0,U_lit 0⟩
  md:=h.ok.md.upd ht ⟨by unfold skTso;omega,by unfold skTso;omega⟩ } }
theorem IvS.lose {k:Int} {v:Sk} (h:IvS k v) {now:Int} (hn:U now):IvS k (loseS v now) :=
 learn_inv (v:={ v with bd:=(v.bd.1.map loseP,v.bd.2) }) { ok:=OkSk.lose h.ok,pc:=pcs_lose h.pc,e:=h.e,w:=h.w,o:=h.o } hn (flight_U _)
theorem ak_N (b:Bf) (upto:Int):bN (akF b upto).2=bN b∧bW (akF b upto).2=bW b:=by
 unfold akF;split<;>exact ⟨rfl,rfl⟩
end SockO

namespace SockP
open Arith ArithC Delays Board BbrM BbrMm SockA SockB SockM SockC SockD SockE SockF SockG SockH SockI SockJ SockK SockL SockO
abbrev plainC:Ks.T KCf:=(3000,15000,100,50,10000000000,0,false,100000,1000)
end SockP

end Go.X
