/- Contracts and plain facts: RsA RsB RsC RsD RsE RsF RsG. -/
import Derived.Test.YtkideobegadadaaGreatB0
import Derived.Test.YtkideobegadadaaGreatB1
import Derived.Test.YtkideobegadadaaGreatB2
import Derived.Test.YtkideobegadadaaGreatB3
import Derived.Test.YtkideobegadadaaGreatB4
import Derived.Test.YtkideobegadadaaGreatB5
import Derived.Test.YtkideobegadadaaGreatB6
import Derived.Test.YtkideobegadadaaGreatK
import Derived.Test.YtkideobegadadaaGreatF0
import Derived.Test.YtkideobegadadaaGreatF1
import Derived.Test.YtkideobegadadaaGreatF2
set_option linter.unusedVariables false
set_option linter.unusedSimpArgs false
set_option linter.unusedSectionVars false
namespace Go.X
open Go.Proofs
namespace RsA
open Arith ArithC SockA SockB SockM
abbrev rL (m0 c0:Int) (v:Sk) (sl:Sl) (m:Nat):List Lf:=[.int .i64 v.id,.int .i64 m0,.int .i64 c0,.int .i64 1073741824,.int .u64 (bU v.bf),.int .u64 (bN v.bf),.int .u64 (bW v.bf),.sl sl,.int .u64 v.bd.2,
 .int .u64 (pD v.sp),.int .u64 (pT v.sp),.int .u64 (pF v.sp),.int .u64 (pL v.sp),.bool (pH v.sp),.int .u64 (pG v.sp),.int .u64 (pPd v.sp),.int .u64 (pPt v.sp),.int .u64 (pSi v.sp),.int .u64 (pAi v.sp),.bool (pPl v.sp),
 .ptr (some ⟨m,0⟩),.int .u64 v.out,.int .u64 v.nx]
theorem rdone_tri (b:Nat) (m0 c0:Int) (v:Sk) (sl:Sl) (m:Nat) (n:Int) (ho:0≤v.out∧v.out < 9223372036854775808) (hn:n < 9223372036854775808):Tri Tryz.prog N_canterref20_Sock_Done [.lf (.ptr (some ⟨b,0⟩)),.lf (.int .i64 n)] [.lf (.int .i64)]
  (blk b (rL m0 c0 v sl m)) (fun r=>pur (r=(doneS v n).1) (blk b (rL m0 c0 (doneS v n).2 sl m))) :=
 tri_0 (call_canterref20_Sock_Done (some ⟨b,0⟩) n) fun w0 S R h=>by
  unfold W_canterref20_Sock_Done
  have h:=h.le (star_emp _)
  refine w_join h (fun _=>blk b (rL m0 c0 v sl m)^emp) (fun _=>1≤n∧n≤v.out) (fun _ w hc h=>?_) ?_
  ·have e:doneS v n=(0,{ v with out:=v.out - n }):=by unfold doneS;rw [if_neg (by omega)]
   rw [e]
   have e1:IntKind.u64.wrap (v.out - IntKind.u64.wrap n)=v.out - n:=by rw [wu (n:=n) (by omega) (by omega),wu (by omega) (by omega)]
   refine w_deref (w_ld (x:=v.out) h rfl (w_deref (w_setTo h b (rL m0 c0 { v with out:=v.out - n } sl m) rfl rfl (by rw [e1];rfl) fun w h=>?_)))
   exact Own.retP rfl h.fin
  ·refine w_ite (fun c=>?_) fun c=>?_
   ·have c:n < 1:=of_decide_eq_true c
    have e:doneS v n=(1,v):=by unfold doneS;rw [if_pos (by omega)]
    rw [e]
    exact Own.retP rfl h.fin
   ·have c:¬ n < 1:=of_decide_eq_false c
    refine w_deref (w_ld (x:=v.out) h rfl (w_ite (fun c2=>?_) fun c2=>?_))
    ·have c2:IntKind.u64.wrap n > v.out:=of_decide_eq_true c2
     rw [wu (by omega) (by omega)] at c2
     have e:doneS v n=(1,v):=by unfold doneS;rw [if_pos (by omega)]
     rw [e]
     exact Own.retP rfl h.fin
    ·have c2:¬ IntKind.u64.wrap n > v.out:=of_decide_eq_false c2
     rw [wu (by omega) (by omega)] at c2
     exact ⟨⟨by omega,by omega⟩,h⟩
theorem racked_tri (b:Nat) (m0 c0:Int) (v:Sk) (sl:Sl) (m:Nat) (upto:Int):Tri Tryz.prog N_canterref04_Buffer_Acked [.lf (.ptr (some ⟨b,3⟩)),.lf (.int .u64 upto)] [.lf (.int .i64)]
  (blk b (rL m0 c0 v sl m)) (fun r=>pur (r=(akF v.bf upto).1) (blk b (rL m0 c0 { v with bf:=(akF v.bf upto).2 } sl m))) :=
 tri_0 (call_canterref04_Buffer_Acked (some ⟨b,3⟩) upto) fun w0 S R h=>by
  unfold W_canterref04_Buffer_Acked
  have h:=h.le (star_emp _)
  refine w_deref (w_ld (x:=bN v.bf) h rfl (w_ite (fun c=>?_) fun c=>?_))
  ·have c:upto > bN v.bf:=of_decide_eq_true c
   have e:akF v.bf upto=(11,v.bf):=by unfold akF;rw [if_pos c]
   rw [e]
   exact Own.retP rfl h.fin
  ·have c:¬ upto > bN v.bf:=of_decide_eq_false c
   have e:akF v.bf upto=(0,(bW v.bf,bN v.bf,if upto > bU v.bf then upto else bU v.bf,bL v.bf)):=by unfold akF;rw [if_neg c]
   rw [e]
   refine w_deref (w_ld (x:=bU v.bf) h rfl (w_deref (w_setTo h b (rL m0 c0 { v with bf:=(bW v.bf,bN v.bf,(if upto > bU v.bf then upto else bU v.bf),bL v.bf) } sl m) rfl rfl rfl fun w h=>?_)))
   exact Own.retP rfl h.fin
theorem rslimit_tri (b:Nat) (m0 c0:Int) (v:Sk) (sl:Sl) (m:Nat) (flight:Int) (hs:OkSp v.sp) (hf:U flight):Tri Tryz.prog N_canterref08_Sampler_Limit [.lf (.ptr (some ⟨b,9⟩)),.lf (.int .u64 flight)] []
  (blk b (rL m0 c0 v sl m)) (fun _=>blk b (rL m0 c0 { v with sp:=limitP v.sp flight } sl m)) :=
 tri_0 (call_canterref08_Sampler_Limit (some ⟨b,9⟩) flight) fun w0 S R h=>by
  unfold W_canterref08_Sampler_Limit
  have h:=h.le (star_emp _)
  refine w_deref (w_ld (x:=pD v.sp) h rfl (w_call (radd_tri (pD v.sp) flight hs.d hf) (h.le ((star_emp _).trans (star_comm _ _))) fun r w h=>?_))
  obtain ⟨hr,h⟩:=h.purP;rw [hr]
  refine w_deref (w_setTo h b (rL m0 c0 { v with sp:=limitP v.sp flight } sl m) rfl rfl rfl fun w h=>?_)
  exact h.keep
theorem rssent_tri (b:Nat) (m0 c0:Int) (v:Sk) (sl:Sl) (m:Nat) (now flight:Int):Tri Tryz.prog N_canterref08_Sampler_Sent [.lf (.ptr (some ⟨b,9⟩)),.lf (.int .u64 now),.lf (.int .u64 flight)] [.agg K_u4b]
  (blk b (rL m0 c0 v sl m)) (fun r=>pur (r=(sentP v.sp now flight).1) (blk b (rL m0 c0 { v with sp:=(sentP v.sp now flight).2 } sl m))) :=
 tri_0 (call_canterref08_Sampler_Sent (some ⟨b,9⟩) now flight) fun w0 S R h=>by
  unfold W_canterref08_Sampler_Sent
  refine w_new (h.le (star_emp _)) fun n1 w h=>?_
  have h:Own w0 S R w (blk n1 [.int .u64 0,.int .u64 0,.int .u64 0,.int .u64 0,.bool false]^blk b (rL m0 c0 v sl m)^emp):=h.fin
  refine w_join h (fun _=>blk n1 [.int .u64 0,.int .u64 0,.int .u64 0,.int .u64 0,.bool false]^blk b (rL m0 c0 { v with sp:=touch v.sp now flight } sl m)^emp) (fun _=>True) (fun _ w _ h=>?_) ?_
  ·refine w_drw h fun w h=>w_deref (w_deref (w_deref (w_deref (w_ld (x:=pD (touch v.sp now flight)) h rfl (w_ld (x:=pT (touch v.sp now flight)) h rfl (w_ld (x:=pF (touch v.sp now flight)) h rfl (w_ld (x:=pL (touch v.sp now flight)) h rfl ?_)))))))
   obtain ⟨X,hX⟩:∃ X:Ks.T K_u4b,X=(sentP v.sp now flight).1:=⟨_,rfl⟩
   refine w_setTo h n1 (Ks.mk K_u4b X) rfl rfl ?_ fun w h=>w_ldAll (b:=n1) (x:=X) h rfl ?_
   ·have e:(pL (touch v.sp now flight) != 0)=decide (pL (touch v.sp now flight)≠0):=by
     by_cases c:pL (touch v.sp now flight)=0
     ·rw [c];rfl
     ·rw [decide_eq_true c];simpa using c
    rw [e,hX];rfl
   ·have e2:(sentP v.sp now flight).2=touch v.sp now flight:=rfl
    rw [e2]
    exact Own.retP hX h.fin
  ·refine w_ite (fun c=>?_) fun c=>?_
   ·have c:flight=0:=by simpa using c
    refine w_deref (w_setTo h b (rL m0 c0 { v with sp:=(pD v.sp,pT v.sp,now,pL v.sp,pH v.sp,pG v.sp,pPd v.sp,pPt v.sp,pPl v.sp,pSi v.sp,pAi v.sp) } sl m) rfl rfl rfl fun w h=>?_)
    refine w_deref (w_setTo h b (rL m0 c0 { v with sp:=touch v.sp now flight } sl m) rfl rfl (by unfold touch;rw [if_pos c];rfl) fun w h=>⟨trivial,h.fin⟩)
   ·have c:¬ flight=0:=by simpa using c
    refine ⟨trivial,?_⟩
    have e:touch v.sp now flight=v.sp:=by unfold touch;rw [if_neg c]
    rw [e];exact h
theorem rwrite_tri (b:Nat) (m0 c0:Int) (v:Sk) (sl:Sl) (m:Nat) (n:Int) (hb:OkBf v.bf) (hl:bL v.bf=1073741824) (hw:bW v.bf≤1152921504606846976) (hn:n < 9223372036854775808):Tri Tryz.prog N_canterref04_Buffer_Write [.lf (.ptr (some ⟨b,3⟩)),.lf (.int .i64 n)] [.lf (.int .i64)]
  (blk b (rL m0 c0 v sl m)) (fun r=>pur (r=(wrF v.bf n).1) (blk b (rL m0 c0 { v with bf:=(wrF v.bf n).2 } sl m))) :=
 tri_0 (call_canterref04_Buffer_Write (some ⟨b,3⟩) n) fun w0 S R h=>by
  unfold W_canterref04_Buffer_Write
  have h:=h.le (star_emp _)
  have u1:=hb.u;have u2:=hb.un;have u3:=hb.nw;have u4:=hb.l
  rw [hl] at u4
  refine w_ite (fun c=>?_) fun c=>?_
  ·have c:n < 1:=of_decide_eq_true c
   have e:wrF v.bf n=(1,v.bf):=by unfold wrF;rw [if_pos c]
   rw [e]
   exact Own.retP rfl h.fin
  ·have c:¬ n < 1:=of_decide_eq_false c
   refine w_drw h fun w h=>w_deref (w_deref (w_deref (w_ld (x:=(1073741824:Int)) h rfl (w_ld (x:=bW v.bf) h rfl (w_ld (x:=bU v.bf) h rfl ?_)))))
   have k:(if (if (1073741824:Int) < (1073741824:Int) then (1073741824:Int) else (1073741824:Int)) > (0:Int) then (if (1073741824:Int) < (1073741824:Int) then (1073741824:Int) else (1073741824:Int)) else (0:Int))=1073741824:=by decide
   rw [k,wu (n:=n) (by omega) (by omega),wu (n:=1073741824) (by omega) (by omega),wu (n:=bW v.bf - bU v.bf) (by omega) (by omega),wu (n:=1073741824 - (bW v.bf - bU v.bf)) (by omega) (by omega)]
   refine w_ite (fun c2=>?_) fun c2=>?_
   ·have c2:n > 1073741824 - (bW v.bf - bU v.bf):=of_decide_eq_true c2
    have e:wrF v.bf n=(5,v.bf):=by unfold wrF;rw [if_neg c,hl,if_pos c2]
    rw [e]
    exact Own.retP rfl h.fin
   ·have c2:¬ n > 1073741824 - (bW v.bf - bU v.bf):=of_decide_eq_false c2
    have e:wrF v.bf n=(0,(bW v.bf+n,bN v.bf,bU v.bf,bL v.bf)):=by unfold wrF;rw [if_neg c,hl,if_neg c2]
    rw [e]
    refine w_deref (w_ld (x:=bW v.bf) h rfl (w_deref (w_setTo h b (rL m0 c0 { v with bf:=(bW v.bf+n,bN v.bf,bU v.bf,bL v.bf) } sl m) rfl rfl ?_ fun w h=>?_)))
    ·rw [wu (n:=bW v.bf+n) (by omega) (by omega)];rfl
    ·exact Own.retP rfl h.fin
end RsA

namespace RsB
open Arith ArithC SockA SockB SockM RsA
theorem rtake_tri (b:Nat) (m0 c0:Int) (v:Sk) (sl:Sl) (m:Nat) (most:Int) (hb:OkBf v.bf) (hm:most < 9223372036854775808):Tri Tryz.prog N_canterref04_Buffer_Take [.lf (.ptr (some ⟨b,3⟩)),.lf (.int .i64 most)] [.agg [.int .u64,.int .u64],.lf .bool]
  (blk b (rL m0 c0 v sl m)) (fun r=>pur (r=(tkF v.bf most).1) (blk b (rL m0 c0 { v with bf:=(tkF v.bf most).2 } sl m))) :=
 tri_0 (call_canterref04_Buffer_Take (some ⟨b,3⟩) most) fun w0 S R h=>by
  unfold W_canterref04_Buffer_Take
  have u1:=hb.u;have u2:=hb.un;have u3:=hb.nw;have u4:=hb.l;have u5:=hb.w;have u6:=hb.ll
  refine w_new (h.le (star_emp _)) fun n1 w h=>?_
  have h:Own w0 S R w (blk n1 [.int .u64 0,.int .u64 0]^blk b (rL m0 c0 v sl m)^emp):=h.fin
  refine w_join h (fun _=>blk n1 [.int .u64 0,.int .u64 0]^blk b (rL m0 c0 v sl m)^emp) (fun _=>most ≥ 1∧bW v.bf - bN v.bf≠0) (fun _ w hc h=>?_) ?_
  ·have e:tkF v.bf most=(((bN v.bf,bN v.bf+min (bW v.bf - bN v.bf) most),true),(bW v.bf,bN v.bf+min (bW v.bf - bN v.bf) most,bU v.bf,bL v.bf)):=by unfold tkF;rw [if_pos hc]
   rw [e]
   obtain ⟨X,hX⟩:∃ X,X=bN v.bf+min (bW v.bf - bN v.bf) most:=⟨_,rfl⟩
   rw [← hX]
   have e2:IntKind.u64.wrap (bN v.bf+(if (IntKind.u64.wrap (bW v.bf - bN v.bf)) < (IntKind.u64.wrap most) then (IntKind.u64.wrap (bW v.bf - bN v.bf)) else (IntKind.u64.wrap most)))=X:=by
    rw [wu (n:=bW v.bf - bN v.bf) (by omega) (by omega),wu (n:=most) (by omega) (by omega),hX]
    by_cases c:bW v.bf - bN v.bf < most
    ·rw [if_pos c,wu (by omega) (by omega)];omega
    ·rw [if_neg c,wu (by omega) (by omega)];omega
   refine w_drw h fun w h=>w_deref (w_deref (w_deref (w_deref (w_ld (x:=bN v.bf) h rfl (w_ld (x:=bN v.bf) h rfl (w_ld (x:=bW v.bf) h rfl (w_ld (x:=bN v.bf) h rfl ?_)))))))
   refine w_new h fun n18 w h=>w_chk h rfl (w_chk h rfl (w_chk h rfl (w_chk h rfl ?_)))
   rw [e2]
   refine w_setTo h n18 (Ks.mk [.int .u64,.int .u64] (bN v.bf,X)) rfl rfl rfl fun w h=>?_
   refine w_ld (x:=X) h rfl (w_deref (w_setTo h b (rL m0 c0 { v with bf:=(bW v.bf,X,bU v.bf,bL v.bf) } sl m) rfl rfl rfl fun w h=>?_))
   refine w_ldAll (b:=n18) (x:=((bN v.bf,X):Ks.T [.int .u64,.int .u64])) h rfl (w_setTo h n1 (Ks.mk [.int .u64,.int .u64] (bN v.bf,X)) rfl rfl rfl fun w h=>?_)
   refine w_ldAll (b:=n1) (x:=((bN v.bf,X):Ks.T [.int .u64,.int .u64])) h rfl ?_
   exact Own.retP rfl h.fin
  ·refine w_drw h fun w h=>w_ite (fun c=>?_) fun c=>?_
   ·have c:most < 1:=of_decide_eq_true c
    have e:tkF v.bf most=(((0,0),false),v.bf):=by unfold tkF;rw [if_neg (by omega)]
    rw [e]
    refine w_setAll h (by rfl) fun w h=>w_ldAll (b:=n1) (x:=((0,0):Ks.T [.int .u64,.int .u64])) h rfl ?_
    exact Own.retP rfl h.fin
   ·have c:¬ most < 1:=of_decide_eq_false c
    refine w_deref (w_deref (w_ld (x:=bN v.bf) h rfl (w_ld (x:=bW v.bf) h rfl (w_ite (fun c2=>?_) fun c2=>?_))))
    ·have c2:bN v.bf=bW v.bf:=by simpa using c2
     have e:tkF v.bf most=(((0,0),false),v.bf):=by unfold tkF;rw [if_neg (by omega)]
     rw [e]
     refine w_setAll h (by rfl) fun w h=>w_ldAll (b:=n1) (x:=((0,0):Ks.T [.int .u64,.int .u64])) h rfl ?_
     exact Own.retP rfl h.fin
    ·have c2:¬ bN v.bf=bW v.bf:=by simpa using c2
     exact ⟨⟨by omega,by omega⟩,h⟩
end RsB

namespace RsC
open Arith ArithC SockA SockB SockM RsA
theorem rstake_tri (b:Nat) (m0 c0:Int) (v:Sk) (sl:Sl) (m:Nat) (now lost flight:Int) (hs:OkSp v.sp) (hn:U now):Tri Tryz.prog N_canterref08_Sampler_Take [.lf (.ptr (some ⟨b,9⟩)),.lf (.int .u64 now),.lf (.int .u64 lost),.lf (.int .u64 flight)] [.agg K_u8b]
  (blk b (rL m0 c0 v sl m)) (fun r=>pur (r=(takeP v.sp now lost flight).1) (blk b (rL m0 c0 { v with sp:=(takeP v.sp now lost flight).2 } sl m))) :=
 tri_0 (call_canterref08_Sampler_Take (some ⟨b,9⟩) now lost flight) fun w0 S R h=>by
  unfold W_canterref08_Sampler_Take
  refine w_new (h.le (star_emp _)) fun n1 w h=>w_deref (w_ld (x:=pD v.sp) h rfl (w_new h fun n4 w h=>w_setTo h n4 (Ks.mk K_u8b (now,pD v.sp,0,0,0,0,lost,flight,false)) rfl rfl rfl fun w h=>?_))
  obtain ⟨X,hX⟩:∃ X:Ks.T K_u8b,X=(takeP v.sp now lost flight).1:=⟨_,rfl⟩
  have h:Own w0 S R w (blk n4 (Ks.mk K_u8b (now,pD v.sp,0,0,0,0,lost,flight,false))^blk n1 [.int .u64 0,.int .u64 0,.int .u64 0,.int .u64 0,.int .u64 0,.int .u64 0,.int .u64 0,.int .u64 0,.bool false]^blk b (rL m0 c0 v sl m)^emp):=h.fin
  refine w_join h (fun _=>blk n4 (Ks.mk K_u8b X)^blk n1 [.int .u64 0,.int .u64 0,.int .u64 0,.int .u64 0,.int .u64 0,.int .u64 0,.int .u64 0,.int .u64 0,.bool false]^blk b (rL m0 c0 v sl m)^emp) (fun _=>True) (fun _ w _ h=>?_) ?_
  ·refine w_deref (w_setTo h b (rL m0 c0 { v with sp:=(pD v.sp,pT v.sp,pF v.sp,pL v.sp,false,pG v.sp,pPd v.sp,pPt v.sp,pPl v.sp,pSi v.sp,pAi v.sp) } sl m) rfl rfl rfl fun w h=>?_)
   refine w_deref (w_setTo h b (rL m0 c0 { v with sp:=(pD v.sp,pT v.sp,pF v.sp,pL v.sp,false,0,pPd v.sp,pPt v.sp,pPl v.sp,pSi v.sp,pAi v.sp) } sl m) rfl rfl rfl fun w h=>?_)
   refine w_deref (w_setTo h b (rL m0 c0 { v with sp:=(pD v.sp,pT v.sp,pF v.sp,pL v.sp,false,0,0,pPt v.sp,pPl v.sp,pSi v.sp,pAi v.sp) } sl m) rfl rfl rfl fun w h=>?_)
   refine w_deref (w_setTo h b (rL m0 c0 { v with sp:=(pD v.sp,pT v.sp,pF v.sp,pL v.sp,false,0,0,0,pPl v.sp,pSi v.sp,pAi v.sp) } sl m) rfl rfl rfl fun w h=>?_)
   refine w_deref (w_setTo h b (rL m0 c0 { v with sp:=(pD v.sp,pT v.sp,pF v.sp,pL v.sp,false,0,0,0,pPl v.sp,0,pAi v.sp) } sl m) rfl rfl rfl fun w h=>?_)
   refine w_deref (w_setTo h b (rL m0 c0 { v with sp:=(pD v.sp,pT v.sp,pF v.sp,pL v.sp,false,0,0,0,pPl v.sp,0,0) } sl m) rfl rfl rfl fun w h=>?_)
   refine w_deref (w_setTo h b (rL m0 c0 { v with sp:=(takeP v.sp now lost flight).2 } sl m) rfl rfl rfl fun w h=>?_)
   refine w_ldAll (b:=n4) (x:=X) h rfl (w_setTo h n1 (Ks.mk K_u8b X) rfl rfl rfl fun w h=>w_ldAll (b:=n1) (x:=X) h rfl ?_)
   exact Own.retP hX h.fin
  ·refine w_deref (w_ld (x:=pH v.sp) h rfl (w_ite (fun c=>?_) fun c=>?_))
   ·have e:X=(now,pD v.sp,pPd v.sp,longI (pSi v.sp) (subI now (pPt v.sp)),pAi v.sp,pG v.sp,lost,flight,pPl v.sp):=by rw [hX];unfold takeP;rw [if_pos c]
    refine w_drw h fun w h=>w_deref (w_deref (w_deref (w_deref (w_ld (x:=pG v.sp) h rfl (w_ld (x:=pPd v.sp) h rfl (w_ld (x:=pPl v.sp) h rfl (w_ld (x:=pAi v.sp) h rfl ?_)))))))
    refine w_setTo h n4 (Ks.mk K_u8b (now,pD v.sp,0,0,0,pG v.sp,lost,flight,false)) rfl rfl rfl fun w h=>w_chk h rfl (w_chk h rfl (w_chk h rfl ?_))
    refine w_setTo h n4 (Ks.mk K_u8b (now,pD v.sp,pPd v.sp,0,0,pG v.sp,lost,flight,false)) rfl rfl rfl fun w h=>w_chk h rfl (w_chk h rfl ?_)
    refine w_setTo h n4 (Ks.mk K_u8b (now,pD v.sp,pPd v.sp,0,0,pG v.sp,lost,flight,pPl v.sp)) rfl rfl rfl fun w h=>w_chk h rfl ?_
    refine w_setTo h n4 (Ks.mk K_u8b (now,pD v.sp,pPd v.sp,0,pAi v.sp,pG v.sp,lost,flight,pPl v.sp)) rfl rfl rfl fun w h=>?_
    refine w_drw h fun w h=>w_deref (w_deref (w_ld (x:=pSi v.sp) h rfl (w_ld (x:=pPt v.sp) h rfl ?_)))
    refine w_call (rsub_tri now (pPt v.sp) hn hs.pt) (h.le ((star_emp _).trans (star_comm _ _))) fun r w h=>?_
    obtain ⟨hr,h⟩:=h.purP;rw [hr]
    refine w_chk h rfl ?_
    have el:(if subI now (pPt v.sp) > pSi v.sp then subI now (pPt v.sp) else pSi v.sp)=longI (pSi v.sp) (subI now (pPt v.sp)):=by
     have hu:=hs.si
     unfold U at hu
     unfold longI
     (repeat' split)<;>omega
    rw [el]
    refine w_setTo h n4 (Ks.mk K_u8b X) rfl rfl (by rw [e];rfl) fun w h=>⟨trivial,h.fin⟩
   ·refine ⟨trivial,?_⟩
    have e:X=(now,pD v.sp,0,0,0,0,lost,flight,false):=by rw [hX];unfold takeP;rw [if_neg (by rw [c];simp)]
    rw [e];exact h
end RsC

namespace RsD
open Arith ArithC SockA SockB SockM SockH RsA
theorem rsacked_tri (b:Nat) (m0 c0:Int) (v:Sk) (sl:Sl) (m:Nat) (now n:Int) (sn:Sn) (hs:OkSp v.sp) (hn:U now) (hU:U n) (hsn:OkSn sn):Tri Tryz.prog N_canterref08_Sampler_Acked [.lf (.ptr (some ⟨b,9⟩)),.lf (.int .u64 now),.lf (.int .u64 n),.agg (Ks.mk K_u4b sn)] []
  (blk b (rL m0 c0 v sl m)) (fun _=>blk b (rL m0 c0 { v with sp:=akdP v.sp now n sn } sl m)) :=
 tri_0 (call_canterref08_Sampler_Acked (some ⟨b,9⟩) now n sn) fun w0 S R h=>by
  unfold W_canterref08_Sampler_Acked
  obtain ⟨D,hD⟩:∃ D,D=addI (pD v.sp) n:=⟨_,rfl⟩
  obtain ⟨G,hG⟩:∃ G,G=addI (pG v.sp) n:=⟨_,rfl⟩
  obtain ⟨L,hL⟩:∃ L,L=if D > pL v.sp then 0 else pL v.sp:=⟨_,rfl⟩
  refine w_new (h.le (star_emp _)) fun n1 w h=>w_deref (w_ld (x:=pD v.sp) h rfl (w_call (radd_tri (pD v.sp) n hs.d hU) (h.le ((star_emp _).trans (star_comm _ _))) fun r w h=>?_))
  obtain ⟨hr,h⟩:=h.purP;rw [hr,← hD]
  refine w_deref (w_setTo h b (rL m0 c0 { v with sp:=(D,pT v.sp,pF v.sp,pL v.sp,pH v.sp,pG v.sp,pPd v.sp,pPt v.sp,pPl v.sp,pSi v.sp,pAi v.sp) } sl m) rfl rfl rfl fun w h=>?_)
  refine w_deref (w_setTo h b (rL m0 c0 { v with sp:=(D,now,pF v.sp,pL v.sp,pH v.sp,pG v.sp,pPd v.sp,pPt v.sp,pPl v.sp,pSi v.sp,pAi v.sp) } sl m) rfl rfl rfl fun w h=>?_)
  have h:Own w0 S R w (blk b (rL m0 c0 { v with sp:=(D,now,pF v.sp,pL v.sp,pH v.sp,pG v.sp,pPd v.sp,pPt v.sp,pPl v.sp,pSi v.sp,pAi v.sp) } sl m)^blk n1 (Ks.mk K_u4b sn)^emp):=h.fin
  refine w_join h (fun _=>blk b (rL m0 c0 { v with sp:=(D,now,pF v.sp,L,pH v.sp,pG v.sp,pPd v.sp,pPt v.sp,pPl v.sp,pSi v.sp,pAi v.sp) } sl m)^blk n1 (Ks.mk K_u4b sn)^emp) (fun _=>True) (fun _ w _ h=>?_) ?_
  rotate_left
  ·refine w_drw h fun w h=>w_deref (w_deref (w_ld (x:=D) h rfl (w_ld (x:=pL v.sp) h rfl (w_ite (fun c=>?_) fun c=>?_))))
   ·have c:D > pL v.sp:=of_decide_eq_true c
    refine w_deref (w_setTo h b (rL m0 c0 { v with sp:=(D,now,pF v.sp,L,pH v.sp,pG v.sp,pPd v.sp,pPt v.sp,pPl v.sp,pSi v.sp,pAi v.sp) } sl m) rfl rfl (by rw [hL,if_pos c];rfl) fun w h=>⟨trivial,h.fin⟩)
   ·have c:¬ D > pL v.sp:=of_decide_eq_false c
    refine ⟨trivial,?_⟩
    rw [hL,if_neg c];exact h
  refine w_deref (w_ld (x:=pG v.sp) h rfl (w_call (radd_tri (pG v.sp) n hs.g hU) (h.le ((star_emp _).trans (star_comm _ _))) fun r w h=>?_))
  obtain ⟨hr,h⟩:=h.purP;rw [hr,← hG]
  refine w_deref (w_setTo h b (rL m0 c0 { v with sp:=(D,now,pF v.sp,L,pH v.sp,G,pPd v.sp,pPt v.sp,pPl v.sp,pSi v.sp,pAi v.sp) } sl m) rfl rfl rfl fun w h=>?_)
  have h:Own w0 S R w (blk b (rL m0 c0 { v with sp:=(D,now,pF v.sp,L,pH v.sp,G,pPd v.sp,pPt v.sp,pPl v.sp,pSi v.sp,pAi v.sp) } sl m)^blk n1 (Ks.mk K_u4b sn)^emp):=h.fin
  obtain ⟨Z,hZ⟩:∃ Z:Sp,Z=if akc v.sp sn then (D,now,sn.1,L,pH v.sp,G,sn.2.1,sn.2.2.1,sn.2.2.2.2,subI sn.1 sn.2.2.2.1,subI now sn.1) else (D,now,pF v.sp,L,pH v.sp,G,pPd v.sp,pPt v.sp,pPl v.sp,pSi v.sp,pAi v.sp):=⟨_,rfl⟩
  refine w_join h (fun _=>blk b (rL m0 c0 { v with sp:=Z } sl m)^blk n1 (Ks.mk K_u4b sn)^emp) (fun _=>True) (fun _ w _ h=>?_) ?_
  ·refine w_deref (w_setTo h b (rL m0 c0 { v with sp:=akdP v.sp now n sn } sl m) rfl rfl ?_ fun w h=>h.keep)
   unfold akdP
   rw [← hD,← hG,← hL]
   by_cases c:akc v.sp sn=true
   ·rw [if_pos c];rw [if_pos c] at hZ;rw [hZ];rfl
   ·rw [if_neg c];rw [if_neg c] at hZ;rw [hZ];rfl
  ·refine w_join h (fun _=>blk b (rL m0 c0 { v with sp:=(D,now,pF v.sp,L,pH v.sp,G,pPd v.sp,pPt v.sp,pPl v.sp,pSi v.sp,pAi v.sp) } sl m)^blk n1 (Ks.mk K_u4b sn)^emp) (fun z:Bool=>z=akc v.sp sn) (fun z w hz h=>?_) ?_
   rotate_left
   ·refine w_drw h fun w h=>w_deref (w_ld (x:=pH v.sp) h rfl (w_ite (fun c=>?_) fun c=>?_))
    ·refine ⟨?_,h⟩
     unfold akc
     rw [c];rfl
    ·refine w_ld (x:=sn.2.1) h rfl (w_deref (w_ld (x:=pPd v.sp) h rfl ⟨?_,h⟩))
     unfold akc
     rw [c];rfl
   rw [hz]
   refine w_ite (fun c=>?_) fun c=>?_
   ·rw [if_pos c] at hZ
    refine w_drw h fun w h=>w_ld (x:=sn.2.1) h rfl (w_ld (x:=sn.2.2.1) h rfl (w_ld (x:=sn.2.2.2.2) h rfl ?_))
    refine w_deref (w_setTo h b (rL m0 c0 { v with sp:=(D,now,pF v.sp,L,pH v.sp,G,sn.2.1,pPt v.sp,pPl v.sp,pSi v.sp,pAi v.sp) } sl m) rfl rfl rfl fun w h=>w_chk h rfl (w_chk h rfl ?_))
    refine w_deref (w_setTo h b (rL m0 c0 { v with sp:=(D,now,pF v.sp,L,pH v.sp,G,sn.2.1,sn.2.2.1,pPl v.sp,pSi v.sp,pAi v.sp) } sl m) rfl rfl rfl fun w h=>w_chk h rfl ?_)
    refine w_deref (w_setTo h b (rL m0 c0 { v with sp:=(D,now,pF v.sp,L,pH v.sp,G,sn.2.1,sn.2.2.1,sn.2.2.2.2,pSi v.sp,pAi v.sp) } sl m) rfl rfl rfl fun w h=>?_)
    refine w_drw h fun w h=>w_ld (x:=sn.1) h rfl (w_ld (x:=sn.2.2.2.1) h rfl (w_ld (x:=sn.1) h rfl ?_))
    refine w_call (rsub_tri sn.1 sn.2.2.2.1 hsn.a hsn.d) (h.le ((star_emp _).trans (star_comm _ _))) fun r w h=>?_
    obtain ⟨hr,h⟩:=h.purP;rw [hr]
    refine w_chk h rfl (w_call (rsub_tri now sn.1 hn hsn.a) (h.le ((star_emp _).trans (star_comm _ _))) fun r w h=>?_)
    obtain ⟨hr,h⟩:=h.purP;rw [hr]
    refine w_deref (w_setTo h b (rL m0 c0 { v with sp:=(D,now,pF v.sp,L,pH v.sp,G,sn.2.1,sn.2.2.1,sn.2.2.2.2,subI sn.1 sn.2.2.2.1,pAi v.sp) } sl m) rfl rfl rfl fun w h=>?_)
    refine w_deref (w_setTo h b (rL m0 c0 { v with sp:=(D,now,pF v.sp,L,pH v.sp,G,sn.2.1,sn.2.2.1,sn.2.2.2.2,subI sn.1 sn.2.2.2.1,subI now sn.1) } sl m) rfl rfl rfl fun w h=>?_)
    refine w_ld (x:=sn.1) h rfl (w_deref (w_setTo h b (rL m0 c0 { v with sp:=Z } sl m) rfl rfl (by rw [hZ];rfl) fun w h=>⟨trivial,h.fin⟩))
   ·rw [if_neg (by rw [c];simp)] at hZ
    rw [hZ]
    exact ⟨trivial,h⟩
end RsD

namespace RsE
open Arith ArithC Board BoardLaws RefBoard SockA SockB SockM RsA
abbrev eV (u:Sk) (e:Int):Sk:={ u with bd:=(u.bd.1,e) }
def bdo (b:Nat) (m0 c0:Int) (u:Sk) (mq:Nat) (v:List Pc × Int):SP:=ex fun s=>blk b (rL m0 c0 (eV u v.2) s mq)^arr s K_u6b3 v.1
instance (b:Nat) (m0 c0:Int) (u:Sk) (mq:Nat) (v:List Pc × Int):NoR (bdo b m0 c0 u mq v):=by unfold bdo;infer_instance
theorem _root_.Go.X.Own.bdo {w0 w:World} {S0 R0:Nat→Prop} {F G:SP} {m0 c0:Int} {u:Sk} {mq:Nat} {v:List Pc × Int} (h:Own w0 S0 R0 w F) (b:Nat) [t:Take (RsE.bdo b m0 c0 u mq v) F G]:∃ s,Own w0 S0 R0 w (blk b (rL m0 c0 (eV u v.2) s mq)^arr s K_u6b3 v.1^G):=by
 obtain ⟨s,h⟩:=(h.le t.le).exP
 exact ⟨s,h.le (star_assoc _ _ _)⟩
theorem _root_.Go.X.Own.mkBdo {w0 w:World} {S0 R0:Nat→Prop} {F G:SP} (h:Own w0 S0 R0 w F) (b:Nat) (m0 c0:Int) (u:Sk) (mq:Nat) (s:Sl) (l:List Pc) (e:Int) [t:Take (blk b (rL m0 c0 (eV u e) s mq)^arr s K_u6b3 l) F G]:Own w0 S0 R0 w (RsE.bdo b m0 c0 u mq (l,e)^G) :=
 (h.le t.le).toEx (f:=fun s=>blk b (rL m0 c0 (eV u e) s mq)^arr s K_u6b3 l) s
theorem r_flight_tri (b:Nat) (m0 c0:Int) (u:Sk) (mq:Nat) (v:List Pc × Int) (hl:v.1.length≤4294967296):Tri Tryz.prog N_canterref20_Board_Flight [.lf (.ptr (some ⟨b,7⟩))] [.lf (.int .u64)] (bdo b m0 c0 u mq v) (fun r=>pur (r=flightF v.1) (bdo b m0 c0 u mq v)) :=
 tri_0 (call_canterref20_Board_Flight _) fun w0 S R h=>by
  unfold W_canterref20_Board_Flight
  obtain ⟨s,h⟩:=(h.le (star_emp _)).bdo (m0:=m0) (c0:=c0) (u:=u) (mq:=mq) (v:=v) b
  have h:Own w0 S R w0 (arr s K_u6b3 v.1^blk b (rL m0 c0 (eV u v.2) s mq)):=h.fin
  have hs:=(h.rd (s:=s)).2
  refine w_loop (fun (_:Int × Int)=>arr s K_u6b3 v.1^blk b (rL m0 c0 (eV u v.2) s mq)) (fun (y:Int × Int)=>(0≤y.2∧y.2≤v.1.length)∧y.1=flightF (v.1.take y.2.toNat)) (fun (y:Int × Int)=>v.1.length - y.2.toNat) h ⟨⟨by simp,by simp⟩,rfl⟩ ?_
  rintro (⟨n,i⟩:Int × Int) w ⟨⟨h0,h1⟩,h2⟩ h
  dsimp only at h0 h1 h2 h ⊢
  refine w_deref (w_ld h rfl ?_)
  refine w_ite (fun c=>?_) fun c=>?_
  ·have hi:i.toNat < v.1.length:=by simp at c;omega
   obtain ⟨p,hp⟩:∃ p,v.1[i.toNat]?=some p:=⟨_,at_some hi⟩
   have e:(i+1).toNat=i.toNat+1:=by omega
   have hfl:=flight_take hp
   rw [wi (n:=i+1) (by omega) (by omega)]
   refine w_join h (fun _=>arr s K_u6b3 v.1^blk b (rL m0 c0 (eV u v.2) s mq)) (fun (y:Bool)=>y=flyP p) (fun (y:Bool) w hy h=>?_) ?_
   ·refine w_ite (fun c=>?_) fun c=>?_
    ·refine w_drw h fun w h=>?_
     refine w_deref (w_deref (w_ld h rfl (w_ld h rfl ?_)))
     refine w_idx h h0 hi (w_idx h h0 hi ?_)
     refine w_ldA h s i.toNat 1 p hp rfl (by decide) rfl ?_
     refine w_ldA h s i.toNat 0 p hp rfl (by decide) rfl ?_
     refine ⟨⟨⟨⟨by show 0≤i+1;omega,by show i+1≤_;omega⟩,?_⟩,h⟩,by show _ - (i+1).toNat < _;omega⟩
     show IntKind.u64.wrap (IntKind.u64.wrap (n+pTo p) - pFrom p)=flightF (v.1.take (i+1).toNat)
     rw [e,hfl,addF,if_pos (by rw [← hy];exact c),← h2,add_sub]
    ·refine ⟨⟨⟨⟨by show 0≤i+1;omega,by show i+1≤_;omega⟩,?_⟩,h⟩,by show _ - (i+1).toNat < _;omega⟩
     show n=flightF (v.1.take (i+1).toNat)
     rw [e,hfl,addF,if_neg (by rw [← hy,c];simp),h2]
   ·refine w_deref (w_ld h rfl ?_)
    refine w_idx h h0 hi ?_
    refine w_ldA h s i.toNat 7 p hp rfl (by decide) rfl ?_
    refine w_ite (fun c=>?_) fun c=>?_
    ·refine w_deref (w_ld h rfl ?_)
     refine w_idx h h0 hi ?_
     refine w_ldA h s i.toNat 8 p hp rfl (by decide) rfl ?_
     exact ⟨by have c:(!pSk p)=true:=c;rw [flyP,c];rfl,h⟩
    ·exact ⟨by have c:(!pSk p)=false:=c;rw [flyP,c];rfl,h⟩
  ·have hi:i.toNat=v.1.length:=by simp at c;omega
   rw [hi,List.take_length] at h2
   exact Own.retP h2 ((h.le (star_comm _ _)).mkBdo b m0 c0 u mq s v.1 v.2).fin
theorem r_lost_tri (b:Nat) (m0 c0:Int) (u:Sk) (mq:Nat) (v:List Pc × Int) (hl:v.1.length≤4294967296):Tri Tryz.prog N_canterref20_Board_lost [.lf (.ptr (some ⟨b,7⟩))] [.lf (.int .i64)] (bdo b m0 c0 u mq v) (fun r=>pur (r=fI pLo v.1) (bdo b m0 c0 u mq v)) :=
 tri_0 (call_canterref20_Board_lost _) fun w0 S R h=>by
  unfold W_canterref20_Board_lost
  obtain ⟨s,h⟩:=(h.le (star_emp _)).bdo (m0:=m0) (c0:=c0) (u:=u) (mq:=mq) (v:=v) b
  have h:Own w0 S R w0 (arr s K_u6b3 v.1^blk b (rL m0 c0 (eV u v.2) s mq)):=h.fin
  have hs:=(h.rd (s:=s)).2
  refine w_loop (fun (_:Int)=>arr s K_u6b3 v.1^blk b (rL m0 c0 (eV u v.2) s mq)) (fun (i:Int)=>(0≤i∧i≤v.1.length)∧∀ j y,j < i.toNat→v.1[j]?=some y→pLo y=false) (fun (i:Int)=>v.1.length - i.toNat) h ⟨⟨by simp,by simp⟩,fun j y hj=>by simp at hj⟩ ?_
  rintro (i:Int) w ⟨⟨h0,h1⟩,h2⟩ h
  refine w_deref (w_ld h rfl ?_)
  refine w_ite (fun c=>?_) fun c=>?_
  ·have hi:i.toNat < v.1.length:=by simp at c;omega
   obtain ⟨p,hp⟩:∃ p,v.1[i.toNat]?=some p:=⟨_,at_some hi⟩
   have e:(i+1).toNat=i.toNat+1:=by omega
   refine w_deref (w_ld h rfl ?_)
   refine w_idx h h0 hi ?_
   refine w_ldA h s i.toNat 8 p hp rfl (by decide) rfl ?_
   refine w_ite (fun c=>?_) fun c=>?_
   ·refine Own.retP ?_ ((h.le (star_comm _ _)).mkBdo b m0 c0 u mq s v.1 v.2).fin
    rw [fI_at hp c h2];exact (Int.toNat_of_nonneg h0).symm
   ·rw [wi (n:=i+1) (by omega) (by omega)]
    refine ⟨⟨⟨⟨by show 0≤i+1;omega,by show i+1≤_;omega⟩,fun j y hj hy=>?_⟩,h⟩,by show _ - (i+1).toNat < _;omega⟩
    have hj:j < (i+1).toNat:=hj
    by_cases hji:j=i.toNat
    ·rw [hji,hp] at hy;cases hy;exact c
    ·exact h2 j y (by omega) hy
  ·have hi:i.toNat=v.1.length:=by simp at c;omega
   refine Own.retP ?_ ((h.le (star_comm _ _)).mkBdo b m0 c0 u mq s v.1 v.2).fin
   rw [fI_none]
   intro y hy
   obtain ⟨j,hj,rfl⟩:=List.mem_iff_getElem.1 hy
   exact h2 j _ (by omega) (at_some hj)
theorem r_Lost_tri (b:Nat) (m0 c0:Int) (u:Sk) (mq:Nat) (v:List Pc × Int) (hl:v.1.length≤4294967296):Tri Tryz.prog N_canterref20_Board_Lost [.lf (.ptr (some ⟨b,7⟩))] [.agg KR,.lf .bool] (bdo b m0 c0 u mq v) (fun r=>pur (r=lostF v.1) (bdo b m0 c0 u mq v)) :=
 tri_0 (call_canterref20_Board_Lost _) fun w0 S R h=>by
  unfold W_canterref20_Board_Lost
  refine w_new h fun n1 w h=>?_
  refine w_call (r_lost_tri b m0 c0 u mq v hl) h fun r w h=>?_
  obtain ⟨hr,h⟩:=h.purP
  rw [hr]
  refine w_ite (fun c=>?_) fun c=>?_
  ·refine w_set h rfl fun w h=>?_
   dsimp only [upd,over] at h
   refine w_ldAll (x:=((0:Int),(0:Int))) h rfl ?_
   exact Own.retP (lostF_no (by simpa using c)).symm h.fin
  ·have hpos:0≤fI pLo v.1:=by simp at c;omega
   obtain ⟨p,hp,_,hlt,_⟩:=fI_some hpos
   obtain ⟨s,h⟩:=h.bdo (m0:=m0) (c0:=c0) (u:=u) (mq:=mq) (v:=v) b
   have h:Own w0 S R w (arr s K_u6b3 v.1^blk b (rL m0 c0 (eV u v.2) s mq)^blk n1 [.int .u64 0,.int .u64 0]):=h.fin
   refine w_drw h fun w h=>?_
   refine w_deref (w_deref (w_ld h rfl (w_ld h rfl ?_)))
   refine w_idx h hpos hlt (w_idx h hpos hlt ?_)
   refine w_ldA h s _ 0 p hp rfl (by decide) rfl ?_
   refine w_ldA h s _ 1 p hp rfl (by decide) rfl ?_
   refine w_set h rfl fun w h=>?_
   dsimp only [upd,over] at h
   refine w_ldAll (x:=(p.1,p.2.1)) h rfl ?_
   exact Own.retP (lostF_yes hpos hp).symm (h.mkBdo b m0 c0 u mq s v.1 v.2).fin
theorem r_sent_tri (b:Nat) (m0 c0:Int) (u:Sk) (mq:Nat) (f t:Int) (s:Snt) (v:List Pc × Int) :
  Tri Tryz.prog N_canterref20_Board_Sent [.lf (.ptr (some ⟨b,7⟩)),.lf (.int .u64 f),.lf (.int .u64 t),.agg (Ks.mk K_u4b s)] [.lf (.int .i64)] (bdo b m0 c0 u mq v)
   (fun r=>pur (r=(sentF v f t s).1) (bdo b m0 c0 u mq (sentF v f t s).2)) :=
 tri_0 (call_canterref20_Board_Sent _ _ _ _) fun w0 S R h=>by
  unfold W_canterref20_Board_Sent
  refine w_new h fun n1 w h=>?_
  obtain ⟨sl,h⟩:=h.bdo (m0:=m0) (c0:=c0) (u:=u) (mq:=mq) (v:=v) b
  have hlen:=(h.rd (s:=sl)).2
  refine w_deref (w_ld h rfl ?_)
  refine w_ite (fun hc=>?_) fun hc=>?_
  ·have e1:sentF v f t s=(1,v):=by simp at hc;simp [sentF,hc]
   rw [e1]
   exact Own.retP rfl (h.mkBdo b m0 c0 u mq sl v.1 v.2).keep
  ·refine w_deref (w_ld h rfl ?_)
   refine w_ite (fun hc2=>?_) fun hc2=>?_
   ·have e1:sentF v f t s=(5,v):=by
     simp at hc hc2
     rw [sentF,if_neg (by omega),if_pos (by omega)]
    rw [e1]
    exact Own.retP rfl (h.mkBdo b m0 c0 u mq sl v.1 v.2).keep
   ·have e1:sentF v f t s=(0,(v.1++[mkPc f t s],t)):=by
     simp at hc hc2
     rw [sentF,if_neg (by omega),if_neg (by omega)]
    have hl4:v.1.length < 4096:=by simp at hc2;omega
    rw [e1]
    refine w_drw h fun w h=>?_
    refine w_ldAll h rfl ?_
    refine w_deref (w_ld h rfl ?_)
    refine ⟨?_,?_⟩
    ·have h:=h.nil K_u6b3
     refine w_app (K:=K_u6b3) (s:=⟨none,0,0⟩) (x:=sl) h rfl (by simp;omega) fun s9 w hl h=>?_
     have h:=h.arrEq (s:=s9) (K:=K_u6b3) (List.nil_append _)
     refine w_chkAll h ?_
     refine w_new h fun n10 w h=>?_
     refine w_chk h rfl ?_
     have h:=h.blkArr n10 K_u6b3 [mkPc f t s] rfl (by simp)
     refine w_app (K:=K_u6b3) (s:=s9) (x:=⟨some ⟨n10,0⟩,1,1⟩) h rfl (by simp;omega) fun s10 w hl h=>?_
     refine w_deref (w_setTo h b (rL m0 c0 (eV u v.2) s10 mq) rfl rfl rfl fun w h=>?_)
     refine w_deref (w_setTo h b (rL m0 c0 (eV u t) s10 mq) rfl rfl rfl fun w h=>?_)
     exact Own.retP rfl (h.mkBdo b m0 c0 u mq s10 (v.1++[mkPc f t s]) t).keep
    ·refine w_new h fun n10 w h=>?_
     refine w_chk h rfl ?_
     have h:=h.blkArr n10 K_u6b3 [mkPc f t s] rfl (by simp)
     have h:=h.nil K_u6b3
     refine w_app (K:=K_u6b3) (s:=⟨none,0,0⟩) (x:=sl) h rfl (by simp;omega) fun s9 w hl h=>?_
     have h:=h.arrEq (s:=s9) (K:=K_u6b3) (List.nil_append _)
     refine w_chkAll h ?_
     refine w_app (K:=K_u6b3) (s:=s9) (x:=⟨some ⟨n10,0⟩,1,1⟩) h rfl (by simp;omega) fun s10 w hl h=>?_
     refine w_deref (w_setTo h b (rL m0 c0 (eV u v.2) s10 mq) rfl rfl rfl fun w h=>?_)
     refine w_deref (w_setTo h b (rL m0 c0 (eV u t) s10 mq) rfl rfl rfl fun w h=>?_)
     exact Own.retP rfl (h.mkBdo b m0 c0 u mq s10 (v.1++[mkPc f t s]) t).keep
theorem r_lose_tri (b:Nat) (m0 c0:Int) (u:Sk) (mq:Nat) (v:List Pc × Int) (hl:v.1.length≤4294967295):Tri Tryz.prog N_canterref20_Board_Lose [.lf (.ptr (some ⟨b,7⟩))] [.lf (.int .u64)] (bdo b m0 c0 u mq v) (fun x=>pur (x=flightF v.1) (bdo b m0 c0 u mq (v.1.map loseP,v.2))) :=
 tri_0 (call_canterref20_Board_Lose _) fun w0 S R h=>by
  unfold W_canterref20_Board_Lose
  refine w_call (r_flight_tri b m0 c0 u mq v (by omega)) (h.le (star_emp _)) fun r1 w h=>?_
  obtain ⟨hr1,h⟩:=h.purP
  obtain ⟨s,h⟩:=h.bdo (m0:=m0) (c0:=c0) (u:=u) (mq:=mq) (v:=v) b
  have hs:=(h.rd (s:=s)).2
  have h:=h.nil K_u6b3
  have h:Own w0 S R w (arr ⟨none,0,0⟩ K_u6b3 []^arr s K_u6b3 v.1^blk b (rL m0 c0 (eV u v.2) s mq)):=h.fin
  refine w_loop (fun (y:Sl × Int)=>arr y.1 K_u6b3 ((v.1.take y.2.toNat).map loseP)^arr s K_u6b3 v.1^blk b (rL m0 c0 (eV u v.2) s mq)) (fun (y:Sl × Int)=>0≤y.2∧y.2≤v.1.length) (fun (y:Sl × Int)=>v.1.length - y.2.toNat) h ⟨by simp,by simp⟩ ?_
  rintro (⟨t,i⟩:Sl × Int) w ⟨h0,h1⟩ h
  dsimp only at h0 h1 h ⊢
  refine w_deref (w_ld h rfl ?_)
  refine w_ite (fun c=>?_) fun c=>?_
  ·have hi:i.toNat < v.1.length:=by simp at c;omega
   obtain ⟨p,hp⟩:∃ p,v.1[i.toNat]?=some p:=⟨_,at_some hi⟩
   have e:(i+1).toNat=i.toNat+1:=by omega
   have ht:(v.1.take (i.toNat+1)).map loseP=(v.1.take i.toNat).map loseP++[loseP p]:=by rw [List.take_add_one,hp];simp
   have h':=h.le (star_swap _ _ _)
   refine w_deref (w_ld h rfl ?_)
   refine w_idx h' h0 hi ?_
   refine w_ldE h' s i.toNat hp rfl ?_
   refine w_new h fun n w h=>?_
   refine w_setAll h (by rfl) fun w h=>?_
   refine w_join h (fun _=>blk n (Ks.mk K_u6b3 (loseP p))^arr t K_u6b3 ((v.1.take i.toNat).map loseP)^arr s K_u6b3 v.1^blk b (rL m0 c0 (eV u v.2) s mq)) (fun _=>True) (fun y w _ h=>?_) ?_
   ·refine w_ldAll h rfl ?_
    refine w_new h fun m w h=>?_
    have h:=h.blkArr m K_u6b3 [loseP p] rfl (by simp)
    refine w_app (K:=K_u6b3) (s:=t) (x:=⟨some ⟨m,0⟩,1,1⟩) h rfl (by simp;omega) fun s' w _ h=>?_
    have h:=h.arrEq (s:=s') (K:=K_u6b3) (ys:=(v.1.take (i+1).toNat).map loseP) (by rw [e,ht])
    rw [wi (n:=i+1) (by omega) (by omega)]
    exact ⟨⟨⟨by show 0≤i+1;omega,by show i+1≤_;omega⟩,h.fin⟩,by show _ - (i+1).toNat < _;omega⟩
   ·refine w_ld h rfl ?_
    have hlo:=lose_or p
    refine w_ite (fun c=>?_) fun c=>?_
    ·have c:pLo p=true:=c
     rw [if_pos c] at hlo
     refine w_set h rfl fun w h=>?_
     have h:Own w0 S R w (blk n (Ks.mk K_u6b3 (setLo p true))^_):=h
     rw [hlo] at h
     exact ⟨trivial,h.fin⟩
    ·have c:pLo p=false:=c
     rw [if_neg (by rw [c];simp)] at hlo
     refine w_ld h rfl ?_
     refine w_set h rfl fun w h=>?_
     have h:Own w0 S R w (blk n (Ks.mk K_u6b3 (setLo p (!pSk p)))^_):=h
     rw [hlo] at h
     exact ⟨trivial,h.fin⟩
  ·have hi:i.toNat=v.1.length:=by simp at c;omega
   rw [hi,List.take_length] at h
   refine w_deref (w_setTo h b (rL m0 c0 (eV u v.2) t mq) rfl rfl rfl fun w h=>?_)
   exact Own.retP hr1 (h.mkBdo b m0 c0 u mq t (v.1.map loseP) v.2).fin
theorem r_Again_tri (b:Nat) (m0 c0:Int) (u:Sk) (mq:Nat) (s:Snt) (v:List Pc × Int) (hl:v.1.length≤4294967296):Tri Tryz.prog N_canterref20_Board_Again [.lf (.ptr (some ⟨b,7⟩)),.agg (Ks.mk K_u4b s)] [.agg KR,.lf .bool] (bdo b m0 c0 u mq v) (fun r=>pur (r=lostF v.1) (bdo b m0 c0 u mq (againF v.1 s,v.2))) :=
 tri_0 (call_canterref20_Board_Again _ _) fun w0 S R h=>by
  unfold W_canterref20_Board_Again
  refine w_new h fun n1 w h=>?_
  refine w_new h fun n2 w h=>?_
  refine w_call (r_lost_tri b m0 c0 u mq v hl) h fun r w h=>?_
  obtain ⟨hr,h⟩:=h.purP
  rw [hr]
  refine w_ite (fun c=>?_) fun c=>?_
  ·have hneg:fI pLo v.1 < 0:=by simpa using c
   have e:againF v.1 s=v.1:=by unfold againF;split<;>simp [hneg]
   refine w_set h rfl fun w h=>?_
   dsimp only [upd,over] at h
   refine w_ldAll (x:=((0:Int),(0:Int))) h rfl ?_
   rw [e]
   exact Own.retP (lostF_no hneg).symm h.fin
  ·have hpos:0≤fI pLo v.1:=by simp at c;omega
   obtain ⟨p,hp,_,hlt,_⟩:=fI_some hpos
   have e:againF v.1 s=v.1.set (fI pLo v.1).toNat (againP p s):=by
    unfold againF;rw [hp];simp only;rw [if_neg (by omega)]
   obtain ⟨sl,h⟩:=h.bdo (m0:=m0) (c0:=c0) (u:=u) (mq:=mq) (v:=v) b
   refine w_deref (w_ld h rfl ?_)
   have h:=h.nil K_u6b3
   refine w_app (K:=K_u6b3) (s:=⟨none,0,0⟩) (x:=sl) h rfl (by simp;omega) fun s7 w hl7 h=>?_
   have h:=h.arrEq (s:=s7) (K:=K_u6b3) (List.nil_append _)
   refine w_drw h fun w h=>?_
   refine w_ldAll h rfl ?_
   refine w_idx h hpos hlt ?_
   refine w_stA h s7 _ 8 p (setLo p false) hp rfl (by decide) (by simp) rfl fun w h=>?_
   have hp2:(v.1.set (fI pLo v.1).toNat (setLo p false))[(fI pLo v.1).toNat]?=some (setLo p false):=by rw [List.getElem?_set_self hlt]
   refine w_chkAll h ?_
   refine w_idx h hpos (by rw [List.length_set];exact hlt) ?_
   refine w_stA h s7 _ 2 (setLo p false) (againP p s) hp2 rfl (by simp [Ks.len]) (by simp [Ks.mk]) rfl fun w h=>?_
   rw [List.set_set] at h
   have hp3:(v.1.set (fI pLo v.1).toNat (againP p s))[(fI pLo v.1).toNat]?=some (againP p s):=by rw [List.getElem?_set_self hlt]
   refine w_deref (w_setTo h b (rL m0 c0 (eV u v.2) s7 mq) rfl rfl rfl fun w h=>?_)
   refine w_drw h fun w h=>?_
   have h:=h.take (arr s7 K_u6b3 (v.1.set (fI pLo v.1).toNat (againP p s)))
   refine w_idx h hpos (by rw [List.length_set];exact hlt) (w_idx h hpos (by rw [List.length_set];exact hlt) ?_)
   refine w_ldA h s7 _ 0 _ hp3 rfl (by decide) rfl ?_
   refine w_ldA h s7 _ 1 _ hp3 rfl (by decide) rfl ?_
   refine w_set h rfl fun w h=>?_
   dsimp only [upd,over] at h
   refine w_ldAll (x:=(p.1,p.2.1)) h rfl ?_
   rw [e]
   exact Own.retP (lostF_yes hpos hp).symm (h.mkBdo b m0 c0 u mq s7 (v.1.set (fI pLo v.1).toNat (againP p s)) v.2).fin
def ackPost (b:Nat) (m0 c0:Int) (u:Sk) (mq:Nat) (v:List Pc × Int) (upto:Int) (xs:List (Int × Int)) (r:Sl × Int × Int):SP :=
 cond (mayF v upto xs) (pur (r.2.1=(passF (restL upto xs v.1)).2.1∧r.2.2=0) (arr r.1 K_u6b3 (toldL upto xs v.1)^bdo b m0 c0 u mq ((passF (restL upto xs v.1)).1,v.2)))
  (pur (r.1=⟨none,0,0⟩∧r.2.1=0∧r.2.2=11) (arr r.1 K_u6b3 []^bdo b m0 c0 u mq v))
theorem r_ack_tri (b:Nat) (m0 c0:Int) (u:Sk) (mq:Nat) (v:List Pc × Int) (upto:Int) (a:Sl) (xs:List (Ks.T KR)) (hl:v.1.length≤4294967295) (hx:xs.length≤4294967296) :
  Tri Tryz.prog N_canterref20_Board_Ack [.lf (.ptr (some ⟨b,7⟩)),.lf (.int .u64 upto),.lf (.sl a)] [.lf .sl,.lf (.int .u64),.lf (.int .i64)] (bdo b m0 c0 u mq v^rarr a KR xs) (ackPost b m0 c0 u mq v upto xs) :=
 tri_0 (call_canterref20_Board_Ack _ _ _) fun w0 S R h=>by
  unfold W_canterref20_Board_Ack
  obtain ⟨s,h⟩:=h.bdo (m0:=m0) (c0:=c0) (u:=u) (mq:=mq) (v:=v) b
  have h:Own w0 S R w0 (rarr a KR xs^blk b (rL m0 c0 (eV u v.2) s mq)^arr s K_u6b3 v.1):=h.fin
  have ha:=(h.rd (s:=a)).2
  have hs:=((h.take (arr s K_u6b3 v.1)).rd (s:=s)).2
  refine w_deref (w_ld h rfl ?_)
  refine w_loop (fun (_:Bool × Int)=>rarr a KR xs^blk b (rL m0 c0 (eV u v.2) s mq)^arr s K_u6b3 v.1) (fun (y:Bool × Int)=>(0≤y.2∧y.2≤xs.length)∧y.1=(decide (upto > v.2) || (xs.take y.2.toNat).any (outF v.2))) (fun (y:Bool × Int)=>xs.length - y.2.toNat) h ⟨⟨by simp,by simp⟩,by simp⟩ ?_
  rintro (⟨bad,i⟩:Bool × Int) w ⟨⟨h0,h1⟩,h2⟩ h
  dsimp only at h0 h1 h2 h ⊢
  refine w_ite (fun c=>?_) fun c=>?_
  ·have hi:i.toNat < xs.length:=by simp at c;omega
   obtain ⟨x,hx⟩:∃ x,xs[i.toNat]?=some x:=⟨_,at_some hi⟩
   have e:(i+1).toNat=i.toNat+1:=by omega
   have hbt:=bad_take (e:=v.2) hx
   rw [wi (n:=i+1) (by omega) (by omega)]
   refine w_drw h fun w h=>?_
   have hgo:∀ c:Bool,c=(bad || outF v.2 x)→(((0≤(c,i+1).2∧(c,i+1).2≤(xs.length:Int))∧(c,i+1).1=(decide (upto > v.2) || (xs.take (c,i+1).2.toNat).any (outF v.2)))∧Own w0 S R w (rarr a KR xs^blk b (rL m0 c0 (eV u v.2) s mq)^arr s K_u6b3 v.1))∧xs.length - (c,i+1).2.toNat < xs.length - (bad,i).2.toNat:=fun c hc=>by
    dsimp only
    rw [e,hbt,hc,h2,Bool.or_assoc]
    exact ⟨⟨⟨⟨by omega,by omega⟩,rfl⟩,h⟩,by omega⟩
   refine w_ite (fun c=>?_) fun c=>?_
   ·exact hgo true (by have c:bad=true:=c;rw [c];rfl)
   ·have hb0:bad=false:=c
    refine w_idx h h0 hi (w_deref ?_)
    refine w_ldA h a i.toNat 1 x hx rfl (by decide) rfl ?_
    refine w_ld h rfl ?_
    refine w_ite (fun c=>?_) fun c=>?_
    ·exact hgo true (by have c:decide (x.2 > v.2)=true:=c;rw [outF,c];simp)
    ·refine w_idx h h0 hi (w_idx h h0 hi ?_)
     refine w_ldA h a i.toNat 0 x hx rfl (by decide) rfl ?_
     refine w_ldA h a i.toNat 1 x hx rfl (by decide) rfl ?_
     exact hgo _ (by have c:decide (x.2 > v.2)=false:=c;rw [hb0,outF,c];rfl)
  have hi:i.toNat=xs.length:=by simp at c;omega
  rw [hi,List.take_length] at h2
  have hbm:bad=!mayF v upto xs:=by
   rw [h2,mayF,Bool.not_and,Bool.not_not];congr 1
   by_cases hh:upto≤v.2
   ·rw [decide_eq_true hh,decide_eq_false (by omega)];rfl
   ·rw [decide_eq_false hh,decide_eq_true (by omega)];rfl
  refine w_ite (fun c=>?_) fun c=>?_
  ·have hm:mayF v upto xs=false:=by rw [show bad=true from c] at hbm;simpa using hbm.symm
   have h:=(h.nil K_u6b3).mkBdo b m0 c0 u mq s v.1 v.2
   show Own _ _ _ _ (ackPost b m0 c0 u mq v upto xs _)
   rw [ackPost,hm]
   exact Own.retP ⟨rfl,rfl,rfl⟩ h.fin
  have hm:mayF v upto xs=true:=by rw [show bad=false from c] at hbm;simpa using hbm.symm
  have h:=(h.nil K_u6b3).nil K_u6b3
  have h:Own w0 S R w (arr s K_u6b3 v.1^blk b (rL m0 c0 (eV u v.2) s mq)^arr ⟨none,0,0⟩ K_u6b3 []^arr ⟨none,0,0⟩ K_u6b3 []^rarr a KR xs):=h.fin
  refine w_loop (fun (y:Sl × Sl × Int)=>arr s K_u6b3 v.1^blk b (rL m0 c0 (eV u v.2) s mq)^arr y.1 K_u6b3 (restL upto xs (v.1.take y.2.2.toNat))^arr y.2.1 K_u6b3 (toldL upto xs (v.1.take y.2.2.toNat))^rarr a KR xs)
   (fun (y:Sl × Sl × Int)=>0≤y.2.2∧y.2.2≤v.1.length) (fun (y:Sl × Sl × Int)=>v.1.length - y.2.2.toNat) h ⟨by simp,by simp⟩ ?_
  rintro (⟨rs,ts,i⟩:Sl × Sl × Int) w ⟨h0,h1⟩ h
  dsimp only at h0 h1 h ⊢
  refine w_deref (w_ld h rfl ?_)
  refine w_ite (fun c=>?_) fun c=>?_
  ·have hi:i.toNat < v.1.length:=by simp at c;omega
   obtain ⟨p,hp⟩:∃ p,v.1[i.toNat]?=some p:=⟨_,at_some hi⟩
   have ht:=toldL_take (upto:=upto) (xs:=xs) hp
   have hrt:=restL_take (upto:=upto) (xs:=xs) hp
   have hlt:=toldL_len upto xs v.1 i.toNat
   have hlr:=restL_len upto xs v.1 i.toNat
   have e:(i+1).toNat=i.toNat+1:=by omega
   rw [wi (n:=i+1) (by omega) (by omega)]
   refine w_deref (w_ld h rfl ?_)
   refine w_idx h h0 hi ?_
   refine w_ldE h s i.toNat hp rfl ?_
   refine w_new h fun n w h=>?_
   refine w_setAll h (by rfl) fun w h=>?_
   refine w_join h (fun _=>blk n (Ks.mk K_u6b3 p)^arr s K_u6b3 v.1^blk b (rL m0 c0 (eV u v.2) s mq)^arr rs K_u6b3 (restL upto xs (v.1.take i.toNat))^arr ts K_u6b3 (toldL upto xs (v.1.take i.toNat))^rarr a KR xs)
    (fun (y:Bool × Bool)=>y.1=decide (p.2.1≤upto)∧y.2=(!pSk p && xs.any (inF p))) (fun (y:Bool × Bool) w hy h=>?_) ?_
   ·obtain ⟨hy1,hy2⟩:=hy
    refine w_join h (fun (z:Sl)=>blk n (Ks.mk K_u6b3 p)^arr s K_u6b3 v.1^blk b (rL m0 c0 (eV u v.2) s mq)^arr rs K_u6b3 (restL upto xs (v.1.take i.toNat))^arr z K_u6b3 (toldL upto xs (v.1.take (i.toNat+1)))^rarr a KR xs) (fun _=>True) (fun (z:Sl) w _ h=>?_) ?_
    ·refine w_ite (fun c=>?_) fun c=>?_
     ·have hu:p.2.1≤upto:=by rw [hy1] at c;simpa using c
      rw [if_pos hu,List.append_nil] at hrt
      refine ⟨⟨⟨by show 0≤i+1;omega,by show i+1≤_;omega⟩,?_⟩,by show _ - (i+1).toNat < _;omega⟩
      show Own _ _ _ _ (arr s K_u6b3 v.1^blk b (rL m0 c0 (eV u v.2) s mq)^arr rs K_u6b3 (restL upto xs (v.1.take (i+1).toNat))^arr z K_u6b3 (toldL upto xs (v.1.take (i+1).toNat))^rarr a KR xs)
      rw [e,hrt];exact h.fin
     ·have hu:¬ p.2.1≤upto:=by rw [hy1] at c;simpa using c
      rw [if_neg hu] at hrt
      have hmk:markP upto xs p=if y.2 then setSk p else p:=by
       rw [markP,toldP,decide_eq_false hu,Bool.false_or,hy2]
      refine w_join h (fun _=>blk n (Ks.mk K_u6b3 (markP upto xs p))^arr s K_u6b3 v.1^blk b (rL m0 c0 (eV u v.2) s mq)^arr rs K_u6b3 (restL upto xs (v.1.take i.toNat))^arr z K_u6b3 (toldL upto xs (v.1.take (i.toNat+1)))^rarr a KR xs) (fun _=>True) (fun _ w _ h=>?_) ?_
      ·refine w_ldAll h rfl ?_
       refine w_new h fun m w h=>?_
       have h:=h.blkArr m K_u6b3 [markP upto xs p] rfl (by simp)
       refine w_app (K:=K_u6b3) (s:=rs) (x:=⟨some ⟨m,0⟩,1,1⟩) h rfl (by simp;omega) fun s' w _ h=>?_
       refine ⟨⟨⟨by show 0≤i+1;omega,by show i+1≤_;omega⟩,?_⟩,by show _ - (i+1).toNat < _;omega⟩
       show Own _ _ _ _ (arr s K_u6b3 v.1^blk b (rL m0 c0 (eV u v.2) s mq)^arr s' K_u6b3 (restL upto xs (v.1.take (i+1).toNat))^arr z K_u6b3 (toldL upto xs (v.1.take (i+1).toNat))^rarr a KR xs)
       rw [e,hrt];exact h.fin
      ·refine w_ite (fun c2=>?_) fun c2=>?_
       ·have c2:y.2=true:=c2
        rw [c2,if_pos rfl] at hmk
        refine w_set h rfl fun w h=>?_
        refine w_set h rfl fun w h=>?_
        have h:Own w0 S R w (blk n (Ks.mk K_u6b3 (setSk p))^_):=h
        rw [← hmk] at h
        exact ⟨trivial,h.fin⟩
       ·have c2:y.2=false:=c2
        rw [c2,if_neg (by simp)] at hmk
        exact ⟨trivial,by rw [hmk];exact h⟩
    ·refine w_join h (fun _=>blk n (Ks.mk K_u6b3 p)^arr s K_u6b3 v.1^blk b (rL m0 c0 (eV u v.2) s mq)^arr rs K_u6b3 (restL upto xs (v.1.take i.toNat))^arr ts K_u6b3 (toldL upto xs (v.1.take i.toNat))^rarr a KR xs) (fun (z:Bool)=>z=toldP upto xs p) (fun (z:Bool) w hz h=>?_) ?_
     ·refine w_ite (fun c=>?_) fun c=>?_
      ·have c:z=true:=c
       rw [← hz,c,if_pos rfl] at ht
       refine w_ldAll h rfl ?_
       refine w_new h fun m w h=>?_
       have h:=h.blkArr m K_u6b3 [p] rfl (by simp)
       refine w_app (K:=K_u6b3) (s:=ts) (x:=⟨some ⟨m,0⟩,1,1⟩) h rfl (by simp;omega) fun s' w _ h=>?_
       rw [ht]
       exact ⟨trivial,h.fin⟩
      ·have c:z=false:=c
       rw [← hz,c] at ht
       simp only [Bool.false_eq_true,if_false,List.append_nil] at ht
       rw [ht]
       exact ⟨trivial,h⟩
     ·refine w_ite (fun c=>?_) fun c=>?_
      ·have c:y.1=true:=c
       refine w_ld h rfl ?_
       refine ⟨?_,h⟩
       show (!pSk p || (!y.1 && y.2))=_
       rw [c] at hy1 ⊢
       rw [toldP,← hy1];simp
      ·have c:y.1=false:=c
       refine ⟨?_,h⟩
       show (!y.1 && y.2)=_
       rw [c] at hy1 ⊢
       rw [toldP,← hy1,hy2];simp
   ·refine w_drw h fun w h=>?_
    refine w_ld h rfl (w_ld h rfl ?_)
    refine w_ite (fun c=>?_) fun c=>?_
    ·have c:(!pSk p)=true:=c
     refine w_ldAll h rfl ?_
     refine w_callL (A:=emp) (Q:=rarr a KR xs) (r_within_tri p a xs hx) (h.le (star_emp _ |>.trans (star_comm _ _))) fun r w h=>?_
     obtain ⟨hr,h⟩:=h.purP
     refine w_chk h rfl ?_
     exact ⟨⟨rfl,by show r=_;rw [hr,c];rfl⟩,h.fin⟩
    ·have c:(!pSk p)=false:=c
     exact ⟨⟨rfl,by show false=_;rw [c];rfl⟩,h⟩
  have hi:i.toNat=v.1.length:=by simp at c;omega
  rw [hi,List.take_length] at h
  have hrl:(restL upto xs v.1).length≤v.1.length:=by
   have:=restL_len upto xs v.1 v.1.length
   rwa [List.take_length] at this
  generalize hL:restL upto xs v.1=L at h hrl
  have hlen:=((h.take (arr rs K_u6b3 L)).rd (s:=rs)).2
  have hwn:IntKind.i64.wrap (((rs.len:Nat):Int) - 1)=(L.length:Int) - 1:=by rw [hlen];exact wi (by omega) (by omega)
  rw [hwn]
  have e1:passF (L.drop ((L.length:Int) - 1+1).toNat)=([],0,0):=by
   have e:((L.length:Int) - 1+1).toNat=L.length:=by omega
   rw [e];simp [passF]
  have e0:L.take ((L.length:Int) - 1+1).toNat++(passF (L.drop ((L.length:Int) - 1+1).toNat)).1=L:=by
   rw [e1,List.append_nil,List.take_of_length_le (by omega)]
  have h:Own w0 S R w (arr rs K_u6b3 (L.take ((L.length:Int) - 1+1).toNat++(passF (L.drop ((L.length:Int) - 1+1).toNat)).1)^blk b (rL m0 c0 (eV u v.2) s mq)^arr ts K_u6b3 (toldL upto xs v.1)):=by rw [e0];exact h.fin
  refine w_loop (fun (y:Int × Int × Int)=>arr rs K_u6b3 (L.take (y.2.2+1).toNat++(passF (L.drop (y.2.2+1).toNat)).1)^blk b (rL m0 c0 (eV u v.2) s mq)^arr ts K_u6b3 (toldL upto xs v.1))
   (fun (y:Int × Int × Int)=>(-1≤y.2.2∧y.2.2 < L.length)∧y.1=(passF (L.drop (y.2.2+1).toNat)).2.1∧y.2.1=(passF (L.drop (y.2.2+1).toNat)).2.2) (fun (y:Int × Int × Int)=>(y.2.2+1).toNat) h ⟨⟨by show (-1:Int)≤_ - 1;omega,by show _ - 1 < _;omega⟩,by rw [e1],by rw [e1]⟩ ?_
  rintro (⟨lost,above,i⟩:Int × Int × Int) w ⟨⟨h0,h1⟩,h2,h3⟩ h
  dsimp only at h0 h1 h2 h3 h ⊢
  refine w_ite (fun c=>?_) fun c=>?_
  ·have c:0≤i:=by simpa using c
   obtain ⟨k,hk⟩:∃ k:Nat,i=k:=⟨i.toNat,by omega⟩
   have hk1:(i+1).toNat=k+1:=by omega
   have hk0:i.toNat=k:=by omega
   have hk2:(i - 1+1).toNat=k:=by omega
   have hkl:k < L.length:=by omega
   rw [hk1] at h2 h3 h
   obtain ⟨p,hp⟩:∃ p,L[k]?=some p:=⟨_,at_some hkl⟩
   have hd:=drop_at hp
   have ht:L.take (k+1)=L.take k++[p]:=by rw [List.take_add_one,hp];rfl
   have hlt:(L.take k).length=k:=by rw [List.length_take];omega
   have hpass:passF (L.drop k)=(if hitF p above then setLo p true :: (passF (L.drop (k+1))).1 else p :: (passF (L.drop (k+1))).1,if hitF p above then IntKind.u64.wrap (lost+IntKind.u64.wrap (p.2.1 - p.1)) else lost,abvF p above):=by
    rw [hd,passF,h2,h3]
   obtain ⟨ys,hys⟩:∃ ys,ys=L.take (k+1)++(passF (L.drop (k+1))).1:=⟨_,rfl⟩
   have hxk:ys[i.toNat]?=some p:=by
    rw [hk0,hys,List.getElem?_append_left (by rw [List.length_take];omega),List.getElem?_take,if_pos (by omega),hp]
   have hxl:i.toNat < ys.length:=(List.getElem?_eq_some_iff.1 hxk).1
   rw [← hys] at h
   have hw:IntKind.i64.wrap (i - 1)=i - 1:=wi (by omega) (by omega)
   rw [hw]
   have hgo:∀ (w:World) (m n:Int) (zs:List Pc),zs=L.take k++(passF (L.drop k)).1→m=(passF (L.drop k)).2.1→n=(passF (L.drop k)).2.2→Own w0 S R w (arr rs K_u6b3 zs^blk b (rL m0 c0 (eV u v.2) s mq)^arr ts K_u6b3 (toldL upto xs v.1)) →
     (((-1≤(m,n,i - 1).2.2∧(m,n,i - 1).2.2 < L.length)∧(m,n,i - 1).1=(passF (L.drop ((m,n,i - 1).2.2+1).toNat)).2.1∧(m,n,i - 1).2.1=(passF (L.drop ((m,n,i - 1).2.2+1).toNat)).2.2)∧Own w0 S R w (arr rs K_u6b3 (L.take ((m,n,i - 1).2.2+1).toNat++(passF (L.drop ((m,n,i - 1).2.2+1).toNat)).1)^blk b (rL m0 c0 (eV u v.2) s mq)^arr ts K_u6b3 (toldL upto xs v.1)))∧((m,n,i - 1).2.2+1).toNat < ((lost,above,i).2.2+1).toNat:=by
    intro w m n zs hz hm hn h
    dsimp only
    rw [hk2,← hz]
    exact ⟨⟨⟨⟨by omega,by omega⟩,hm,hn⟩,h⟩,by omega⟩
   refine w_idx h c hxl (w_deref ?_)
   refine w_ldA h rs i.toNat 7 p hxk rfl (by decide) rfl ?_
   refine w_ite (fun c2=>?_) fun c2=>?_
   ·have c2:pSk p=true:=c2
    have hh:hitF p above=false:=by simp [hitF,flyP,c2]
    have hab:abvF p above=IntKind.i64.wrap (above+1):=by rw [abvF,if_pos c2]
    rw [hh] at hpass
    simp only [Bool.false_eq_true,if_false] at hpass
    exact hgo w _ _ ys (by rw [hpass,hys,ht];simp) (by rw [hpass]) (by rw [hpass];exact hab.symm) h
   ·have c2:pSk p=false:=c2
    have hab:abvF p above=above:=by rw [abvF,if_neg (by rw [c2];simp)]
    have hh:hitF p above=(!pLo p && decide (above ≥ 3)):=by rw [hitF,flyP,c2,hab];rfl
    refine w_deref ?_
    refine w_ldA h rs i.toNat 8 p hxk rfl (by decide) rfl ?_
    refine w_ite (fun c3=>?_) fun c3=>?_
    ·have c3:(!pLo p && decide (above ≥ 3))=true:=c3
     rw [hh,c3] at hpass
     simp only [if_true] at hpass
     refine w_deref (w_stA h rs i.toNat 8 p (setLo p true) hxk rfl (by decide) (by simp) rfl fun w h=>?_)
     have hset:ys.set i.toNat (setLo p true)=L.take k++(passF (L.drop k)).1:=by
      rw [hpass,hys,hk0,ht,List.append_assoc,List.set_append_right _ _ (by omega),hlt]
      simp
     have hx2:(ys.set i.toNat (setLo p true))[i.toNat]?=some (setLo p true):=by rw [List.getElem?_set_self hxl]
     refine w_drw h fun w h=>?_
     refine w_deref (w_deref ?_)
     refine w_ldA h rs i.toNat 1 _ hx2 rfl (by decide) rfl ?_
     refine w_ldA h rs i.toNat 0 _ hx2 rfl (by decide) rfl ?_
     refine hgo w _ _ _ hset ?_ (by rw [hpass,hab]) h
     rw [hpass]
     exact add_sub lost p.2.1 p.1
    ·have c3:(!pLo p && decide (above ≥ 3))=false:=c3
     rw [hh,c3] at hpass
     simp only [Bool.false_eq_true,if_false] at hpass
     exact hgo w _ _ ys (by rw [hpass,hys,ht];simp) (by rw [hpass]) (by rw [hpass,hab]) h
  ·have c:i=-1:=by simp at c;omega
   rw [c] at h2 h3 h
   simp only [show ((-1:Int)+1).toNat=0 from rfl,List.drop_zero,List.take_zero,List.nil_append] at h2 h
   refine w_deref (w_setTo h b (rL m0 c0 (eV u v.2) rs mq) rfl rfl rfl fun w h=>?_)
   have h:=h.mkBdo b m0 c0 u mq rs (passF L).1 v.2
   show Own _ _ _ _ (ackPost b m0 c0 u mq v upto xs _)
   rw [ackPost,hm,hL]
   exact Own.retP ⟨h2,rfl⟩ h.fin
end RsE

namespace RsF
open Arith ArithC Delays Board BbrM BbrMm BbrX BbrZ SockA SockB SockM SockD SockH SockJ RsA RsC RsE
theorem clamp_r (m:Int):(if (if (9000:Int) < m then (9000:Int) else m) > (100:Int) then (if (9000:Int) < m then (9000:Int) else m) else (100:Int))=clampM m:=by
 unfold clampM;(repeat' split)<;>omega
theorem clamp_c (m:Int):clampM (clampM m)=clampM m:=by
 have h:=clampM_r m
 generalize clampM m=c at *
 unfold clampM;(repeat' split)<;>omega
theorem tso_c (rate m:Int):tsoF rate (clampM m)=tsoF rate m:=by unfold tsoF;rw [clamp_c]
theorem size_tri (rate mss:Int) (hr:U rate):Tri Tryz.prog N_canterref01_Size [.lf (.int .u64 rate),.lf (.int .i64 mss)] [.lf (.int .i64)] emp (fun r=>pur (r=tsoF rate mss) emp) :=
 tri_0 (call_canterref01_Size rate mss) fun w0 S R h=>by
  unfold W_canterref01_Size
  rw [clamp_r]
  have hm:=clampM_r mss
  have ht:=tso_r rate mss hr.1
  unfold U at hr
  have em:IntKind.u64.wrap (clampM mss)=clampM mss:=wu (by omega) (by omega)
  rw [em]
  have hk:7≤65536 / clampM mss:=by rw [Int.le_ediv_iff_mul_le (by omega)];omega
  have hk9:65536 / clampM mss≤65536:=Int.ediv_le_self _ (by decide)
  have eq1:IntKind.u64.wrap (rate.tdiv 1024)=rate / 1024:=by rw [Int.tdiv_eq_ediv_of_nonneg hr.1];exact wu (by omega) (by omega)
  have hq0:0≤rate / 1024 / clampM mss:=Int.ediv_nonneg (by omega) (by omega)
  have hq1:rate / 1024 / clampM mss≤rate / 1024:=Int.ediv_le_self _ (by omega)
  have eq2:IntKind.u64.wrap ((rate / 1024).tdiv (clampM mss))=rate / 1024 / clampM mss:=by rw [Int.tdiv_eq_ediv_of_nonneg (by omega)];exact wu (by omega) (by omega)
  have eq3:IntKind.u64.wrap (IntKind.i64.wrap ((65536:Int).tdiv (clampM mss)))=65536 / clampM mss:=by rw [Int.tdiv_eq_ediv_of_nonneg (by decide),wi (by omega) (by omega)];exact wu (by omega) (by omega)
  rw [eq1,eq2,eq3]
  obtain ⟨y0,hy0⟩:∃ y0,y0=rate / 1024 / clampM mss:=⟨_,rfl⟩
  obtain ⟨k,hkk⟩:∃ k,k=65536 / clampM mss:=⟨_,rfl⟩
  have et:tsoF rate mss=(if (if y0 < 2 then 2 else y0) > k then k else (if y0 < 2 then 2 else y0)) * clampM mss:=by unfold tsoF;rw [← hy0,← hkk]
  rw [← hy0,← hkk]
  rw [← hkk] at hk hk9
  have e2:(if (if k < y0 then k else y0) > 2 then (if k < y0 then k else y0) else 2)=(if (if y0 < 2 then 2 else y0) > k then k else (if y0 < 2 then 2 else y0)):=by
   (repeat' split)<;>omega
  rw [e2]
  rw [et] at ht
  obtain ⟨z,hz⟩:∃ z,z=(if (if y0 < 2 then 2 else y0) > k then k else (if y0 < 2 then 2 else y0)):=⟨_,rfl⟩
  have hz2:2≤z∧z≤k:=by rw [hz];(repeat' split)<;>omega
  rw [← hz] at ht ⊢
  rw [wi (n:=z) (by omega) (by omega),wi (n:=z * clampM mss) (by omega) (by omega)]
  exact ⟨by omega,by omega,Own.retP (by rw [et,← hz]) h⟩
abbrev OkR (m:Md) (u:Rm):Prop:=u.m=m∧Rel u∧u.g=mGain m
theorem rtso_tri (b mb nw:Nat) (m0 c0:Int) (v:Sk) (sl:Sl) (u:Rm) (hu:u.m=v.md) (hr:U v.md.rate) (hm:v.mss=clampM m0):Tri Tryz.prog N_canterref20_Sock_Tso [.lf (.ptr (some ⟨b,0⟩))] [.lf (.int .i64)] (blk b (rL m0 c0 v sl mb)^blk mb [.int .u64 u.m.mss,.ptr (some ⟨nw,0⟩),.int .u64 u.m.r.n,.int .u64 u.m.r.nx,.int .u64 u.m.p.best,.int .i64 u.m.p.n,.bool u.m.p.full,.int .i64 u.m.c.ph,.int .u64 u.m.c.at',.int .u64 u.m.b.best,.int .u64 u.m.b.at',.bool u.m.b.on,.bool u.set,.bool u.m.b.rd,.int .u64 u.till,.bool u.m.q.use,.bool u.m.q.mea,.int .u64 u.m.q.bw,.int .i64 u.m.q.n,.int .u64 u.m.q.lost,.int .u64 u.m.q.t0,.int .u64 u.m.q.d0,.int .u64 u.m.q.l0,.int .i64 u.m.mode,.int .u64 u.m.rate,.int .u64 u.m.win,.int .u64 u.g,.bool u.m.rec',.bool u.m.first,.int .u64 u.m.til,.int .u64 u.m.sav]^blk nw [.int .u64 u.m.w.w,.int .u64 u.m.w.t0,.int .u64 u.m.w.t1,.int .u64 u.m.w.t2,.int .u64 u.m.w.v0,.int .u64 u.m.w.v1,.int .u64 u.m.w.v2,.int .u64 u.m.w.la,.bool false]) (fun r=>pur (r=skTso v) (blk b (rL m0 c0 v sl mb)^blk mb [.int .u64 u.m.mss,.ptr (some ⟨nw,0⟩),.int .u64 u.m.r.n,.int .u64 u.m.r.nx,.int .u64 u.m.p.best,.int .i64 u.m.p.n,.bool u.m.p.full,.int .i64 u.m.c.ph,.int .u64 u.m.c.at',.int .u64 u.m.b.best,.int .u64 u.m.b.at',.bool u.m.b.on,.bool u.set,.bool u.m.b.rd,.int .u64 u.till,.bool u.m.q.use,.bool u.m.q.mea,.int .u64 u.m.q.bw,.int .i64 u.m.q.n,.int .u64 u.m.q.lost,.int .u64 u.m.q.t0,.int .u64 u.m.q.d0,.int .u64 u.m.q.l0,.int .i64 u.m.mode,.int .u64 u.m.rate,.int .u64 u.m.win,.int .u64 u.g,.bool u.m.rec',.bool u.m.first,.int .u64 u.m.til,.int .u64 u.m.sav]^blk nw [.int .u64 u.m.w.w,.int .u64 u.m.w.t0,.int .u64 u.m.w.t1,.int .u64 u.m.w.t2,.int .u64 u.m.w.v0,.int .u64 u.m.w.v1,.int .u64 u.m.w.v2,.int .u64 u.m.w.la,.bool false])) :=
 tri_0 (call_canterref20_Sock_Tso (some ⟨b,0⟩)) fun w0 S R h=>by
  unfold W_canterref20_Sock_Tso
  have hr':U u.m.rate:=by rw [hu];exact hr
  refine w_drw h fun w h=>w_deref (w_deref (w_ld (x:=some ⟨mb,0⟩) h rfl (w_ld (x:=m0) h rfl (w_deref (w_ld (x:=u.m.rate) h rfl ?_)))))
  refine w_call (size_tri u.m.rate m0 hr') (h.le ((star_emp _).trans (star_comm _ _))) fun r w h=>?_
  obtain ⟨hr1,h⟩:=h.purP
  exact Own.retP (by rw [hr1,hu];unfold skTso;rw [hm,tso_c]) h.drop
theorem rlearn {b mb nw:Nat} {m0 c0:Int} {v:Sk} {u:Rm} {w0 w:World} {S0 R0:Nat→Prop} {G:SP} {K:WP} (hv:OkSk v) (hu:OkR v.md u) (hm:v.mss=clampM m0) {now lost:Int} (hn:U now) (hlo:U lost)
  (h:Own w0 S0 R0 w (bdo b m0 c0 v mb v.bd^(blk mb [.int .u64 u.m.mss,.ptr (some ⟨nw,0⟩),.int .u64 u.m.r.n,.int .u64 u.m.r.nx,.int .u64 u.m.p.best,.int .i64 u.m.p.n,.bool u.m.p.full,.int .i64 u.m.c.ph,.int .u64 u.m.c.at',.int .u64 u.m.b.best,.int .u64 u.m.b.at',.bool u.m.b.on,.bool u.set,.bool u.m.b.rd,.int .u64 u.till,.bool u.m.q.use,.bool u.m.q.mea,.int .u64 u.m.q.bw,.int .i64 u.m.q.n,.int .u64 u.m.q.lost,.int .u64 u.m.q.t0,.int .u64 u.m.q.d0,.int .u64 u.m.q.l0,.int .i64 u.m.mode,.int .u64 u.m.rate,.int .u64 u.m.win,.int .u64 u.g,.bool u.m.rec',.bool u.m.first,.int .u64 u.m.til,.int .u64 u.m.sav]^blk nw [.int .u64 u.m.w.w,.int .u64 u.m.w.t0,.int .u64 u.m.w.t1,.int .u64 u.m.w.t2,.int .u64 u.m.w.v0,.int .u64 u.m.w.v1,.int .u64 u.m.w.v2,.int .u64 u.m.w.la,.bool false])^G))
  (k:∀ w' u',OkR (learnS v now lost).md u'→Own w0 S0 R0 w' (bdo b m0 c0 (learnS v now lost) mb v.bd^(blk mb [.int .u64 u'.m.mss,.ptr (some ⟨nw,0⟩),.int .u64 u'.m.r.n,.int .u64 u'.m.r.nx,.int .u64 u'.m.p.best,.int .i64 u'.m.p.n,.bool u'.m.p.full,.int .i64 u'.m.c.ph,.int .u64 u'.m.c.at',.int .u64 u'.m.b.best,.int .u64 u'.m.b.at',.bool u'.m.b.on,.bool u'.set,.bool u'.m.b.rd,.int .u64 u'.till,.bool u'.m.q.use,.bool u'.m.q.mea,.int .u64 u'.m.q.bw,.int .i64 u'.m.q.n,.int .u64 u'.m.q.lost,.int .u64 u'.m.q.t0,.int .u64 u'.m.q.d0,.int .u64 u'.m.q.l0,.int .i64 u'.m.mode,.int .u64 u'.m.rate,.int .u64 u'.m.win,.int .u64 u'.g,.bool u'.m.rec',.bool u'.m.first,.int .u64 u'.m.til,.int .u64 u'.m.sav]^blk nw [.int .u64 u'.m.w.w,.int .u64 u'.m.w.t0,.int .u64 u'.m.w.t1,.int .u64 u'.m.w.t2,.int .u64 u'.m.w.v0,.int .u64 u'.m.w.v1,.int .u64 u'.m.w.v2,.int .u64 u'.m.w.la,.bool false])^G)→K w') :
  deref (some ⟨b,0⟩) (fun q15=>deref (some ⟨b,0⟩) fun q16=>deref (some ⟨b,0⟩) fun q17=>ld [.ptr] ⟨q15.b,q15.o+20⟩ fun (x18:Option Pt) =>
   call Tryz.prog N_canterref20_Board_Flight [.lf (.ptr (some ⟨q17.b,q17.o+7⟩))] [.lf (.int .u64)] fun (r19:Int) =>
   chk ⟨q15.b,q15.o+20⟩ (Ks.mk [.ptr] x18) <|
   call Tryz.prog N_canterref08_Sampler_Take [.lf (.ptr (some ⟨q16.b,q16.o+9⟩)),.lf (.int .u64 now),.lf (.int .u64 lost),.lf (.int .u64 r19)] [.agg K_u8b] fun (r20:T_u8b) =>
   chk ⟨q15.b,q15.o+20⟩ (Ks.mk [.ptr] x18) <|
   call Tryz.prog N_canterref20_Sock_Tso [.lf (.ptr (some ⟨b,0⟩))] [.lf (.int .i64)] fun (r21:Int) =>
   chk ⟨q15.b,q15.o+20⟩ (Ks.mk [.ptr] x18) <|
   call Tryz.prog N_canterref08_Model_Update [.lf (.ptr x18),.agg (Ks.mk K_u8b r20),.lf (.int .u64 (IntKind.u64.wrap r21))] [.agg K_i2u6b2] fun _=>K) w:=by
 obtain ⟨hu1,hu2,hu3⟩:=hu
 have hbl:v.bd.1.length≤4294967296:=by have:=hv.bl;omega
 have hts:=tso_r v.md.rate v.mss hv.md.rate.1
 have ew:IntKind.u64.wrap (skTso v)=skTso v:=wu (by unfold skTso;omega) (by unfold skTso;omega)
 have hft:U (skFl v):=hv.fl
 obtain ⟨v1,hv1⟩:∃ v1:Sk,v1={ v with sp:=(takeP v.sp now lost (skFl v)).2 }:=⟨_,rfl⟩
 have et:skTso v1=skTso v:=by rw [hv1];rfl
 obtain ⟨s,h⟩:=h.bdo (m0:=m0) (c0:=c0) (u:=v) (mq:=mb) (v:=v.bd) b
 refine w_deref (w_deref (w_deref (w_ld (x:=some ⟨mb,0⟩) h rfl ?_)))
 have h:Own w0 S0 R0 w (bdo b m0 c0 v mb v.bd^(blk mb [.int .u64 u.m.mss,.ptr (some ⟨nw,0⟩),.int .u64 u.m.r.n,.int .u64 u.m.r.nx,.int .u64 u.m.p.best,.int .i64 u.m.p.n,.bool u.m.p.full,.int .i64 u.m.c.ph,.int .u64 u.m.c.at',.int .u64 u.m.b.best,.int .u64 u.m.b.at',.bool u.m.b.on,.bool u.set,.bool u.m.b.rd,.int .u64 u.till,.bool u.m.q.use,.bool u.m.q.mea,.int .u64 u.m.q.bw,.int .i64 u.m.q.n,.int .u64 u.m.q.lost,.int .u64 u.m.q.t0,.int .u64 u.m.q.d0,.int .u64 u.m.q.l0,.int .i64 u.m.mode,.int .u64 u.m.rate,.int .u64 u.m.win,.int .u64 u.g,.bool u.m.rec',.bool u.m.first,.int .u64 u.m.til,.int .u64 u.m.sav]^blk nw [.int .u64 u.m.w.w,.int .u64 u.m.w.t0,.int .u64 u.m.w.t1,.int .u64 u.m.w.t2,.int .u64 u.m.w.v0,.int .u64 u.m.w.v1,.int .u64 u.m.w.v2,.int .u64 u.m.w.la,.bool false])^G):=(h.mkBdo b m0 c0 v mb s v.bd.1 v.bd.2).fin
 refine w_call (r_flight_tri b m0 c0 v mb v.bd hbl) h fun r w h=>?_
 obtain ⟨hr,h⟩:=h.purP;rw [hr]
 obtain ⟨s,h⟩:=h.bdo (m0:=m0) (c0:=c0) (u:=v) (mq:=mb) (v:=v.bd) b
 have h:Own w0 S0 R0 w (blk b (rL m0 c0 v s mb)^arr s K_u6b3 v.bd.1^(blk mb [.int .u64 u.m.mss,.ptr (some ⟨nw,0⟩),.int .u64 u.m.r.n,.int .u64 u.m.r.nx,.int .u64 u.m.p.best,.int .i64 u.m.p.n,.bool u.m.p.full,.int .i64 u.m.c.ph,.int .u64 u.m.c.at',.int .u64 u.m.b.best,.int .u64 u.m.b.at',.bool u.m.b.on,.bool u.set,.bool u.m.b.rd,.int .u64 u.till,.bool u.m.q.use,.bool u.m.q.mea,.int .u64 u.m.q.bw,.int .i64 u.m.q.n,.int .u64 u.m.q.lost,.int .u64 u.m.q.t0,.int .u64 u.m.q.d0,.int .u64 u.m.q.l0,.int .i64 u.m.mode,.int .u64 u.m.rate,.int .u64 u.m.win,.int .u64 u.g,.bool u.m.rec',.bool u.m.first,.int .u64 u.m.til,.int .u64 u.m.sav]^blk nw [.int .u64 u.m.w.w,.int .u64 u.m.w.t0,.int .u64 u.m.w.t1,.int .u64 u.m.w.t2,.int .u64 u.m.w.v0,.int .u64 u.m.w.v1,.int .u64 u.m.w.v2,.int .u64 u.m.w.la,.bool false])^G):=h
 refine w_chk h rfl (w_call (rstake_tri b m0 c0 v s mb now lost (skFl v) hv.sp hn) h fun r w h=>?_)
 obtain ⟨hr,h⟩:=h.purP;rw [hr]
 have h:Own w0 S0 R0 w (blk b (rL m0 c0 v1 s mb)^arr s K_u6b3 v.bd.1^(blk mb [.int .u64 u.m.mss,.ptr (some ⟨nw,0⟩),.int .u64 u.m.r.n,.int .u64 u.m.r.nx,.int .u64 u.m.p.best,.int .i64 u.m.p.n,.bool u.m.p.full,.int .i64 u.m.c.ph,.int .u64 u.m.c.at',.int .u64 u.m.b.best,.int .u64 u.m.b.at',.bool u.m.b.on,.bool u.set,.bool u.m.b.rd,.int .u64 u.till,.bool u.m.q.use,.bool u.m.q.mea,.int .u64 u.m.q.bw,.int .i64 u.m.q.n,.int .u64 u.m.q.lost,.int .u64 u.m.q.t0,.int .u64 u.m.q.d0,.int .u64 u.m.q.l0,.int .i64 u.m.mode,.int .u64 u.m.rate,.int .u64 u.m.win,.int .u64 u.g,.bool u.m.rec',.bool u.m.first,.int .u64 u.m.til,.int .u64 u.m.sav]^blk nw [.int .u64 u.m.w.w,.int .u64 u.m.w.t0,.int .u64 u.m.w.t1,.int .u64 u.m.w.t2,.int .u64 u.m.w.v0,.int .u64 u.m.w.v1,.int .u64 u.m.w.v2,.int .u64 u.m.w.la,.bool false])^G):=by rw [hv1];exact h
 refine w_chk h rfl (w_call (rtso_tri b mb nw m0 c0 v1 s u (by rw [hv1];exact hu1) (by rw [hv1];exact hv.md.rate) (by rw [hv1];exact hm)) h fun r w h=>?_)
 obtain ⟨hr,h⟩:=h.purP;rw [hr,et,ew]
 refine w_chk h rfl (w_call (rmupd_tri mb nw u (by rw [hu1];exact hv.md) hu2 (takeP v.sp now lost (skFl v)).1 (take_ok hv.sp hn hlo hv.fl) (skTso v) ⟨by unfold skTso;omega,by unfold skTso;omega⟩) h fun r w h=>?_)
 obtain ⟨u',⟨g1,g2,g3,_⟩,h⟩:=h.outq
 have h:Own w0 S0 R0 w (blk b (rL m0 c0 { v with sp:=(takeP v.sp now lost (skFl v)).2 } s mb)^arr s K_u6b3 v.bd.1^(blk mb [.int .u64 u'.m.mss,.ptr (some ⟨nw,0⟩),.int .u64 u'.m.r.n,.int .u64 u'.m.r.nx,.int .u64 u'.m.p.best,.int .i64 u'.m.p.n,.bool u'.m.p.full,.int .i64 u'.m.c.ph,.int .u64 u'.m.c.at',.int .u64 u'.m.b.best,.int .u64 u'.m.b.at',.bool u'.m.b.on,.bool u'.set,.bool u'.m.b.rd,.int .u64 u'.till,.bool u'.m.q.use,.bool u'.m.q.mea,.int .u64 u'.m.q.bw,.int .i64 u'.m.q.n,.int .u64 u'.m.q.lost,.int .u64 u'.m.q.t0,.int .u64 u'.m.q.d0,.int .u64 u'.m.q.l0,.int .i64 u'.m.mode,.int .u64 u'.m.rate,.int .u64 u'.m.win,.int .u64 u'.g,.bool u'.m.rec',.bool u'.m.first,.int .u64 u'.m.til,.int .u64 u'.m.sav]^blk nw [.int .u64 u'.m.w.w,.int .u64 u'.m.w.t0,.int .u64 u'.m.w.t1,.int .u64 u'.m.w.t2,.int .u64 u'.m.w.v0,.int .u64 u'.m.w.v1,.int .u64 u'.m.w.v2,.int .u64 u'.m.w.la,.bool false])^G):=by rw [← hv1];exact h.fin
 have h:Own w0 S0 R0 w (blk b (rL m0 c0 (eV (learnS v now lost) v.bd.2) s mb)^arr s K_u6b3 v.bd.1^(blk mb [.int .u64 u'.m.mss,.ptr (some ⟨nw,0⟩),.int .u64 u'.m.r.n,.int .u64 u'.m.r.nx,.int .u64 u'.m.p.best,.int .i64 u'.m.p.n,.bool u'.m.p.full,.int .i64 u'.m.c.ph,.int .u64 u'.m.c.at',.int .u64 u'.m.b.best,.int .u64 u'.m.b.at',.bool u'.m.b.on,.bool u'.set,.bool u'.m.b.rd,.int .u64 u'.till,.bool u'.m.q.use,.bool u'.m.q.mea,.int .u64 u'.m.q.bw,.int .i64 u'.m.q.n,.int .u64 u'.m.q.lost,.int .u64 u'.m.q.t0,.int .u64 u'.m.q.d0,.int .u64 u'.m.q.l0,.int .i64 u'.m.mode,.int .u64 u'.m.rate,.int .u64 u'.m.win,.int .u64 u'.g,.bool u'.m.rec',.bool u'.m.first,.int .u64 u'.m.til,.int .u64 u'.m.sav]^blk nw [.int .u64 u'.m.w.w,.int .u64 u'.m.w.t0,.int .u64 u'.m.w.t1,.int .u64 u'.m.w.t2,.int .u64 u'.m.w.v0,.int .u64 u'.m.w.v1,.int .u64 u'.m.w.v2,.int .u64 u'.m.w.la,.bool false])^G):=h
 refine k w u' ⟨by rw [g1,hu1];rfl,g2,by rw [g3,g1,hu1];rfl⟩ (h.mkBdo b m0 c0 (learnS v now lost) mb s v.bd.1 v.bd.2).fin
def rsk (b:Nat) (m0 c0:Int) (v:Sk):SP:=exq (fun x:Nat × Nat × Rm=>OkR v.md x.2.2) (fun x=>(fun mb nw u=>bdo b m0 c0 v mb v.bd^(blk mb [.int .u64 u.m.mss,.ptr (some ⟨nw,0⟩),.int .u64 u.m.r.n,.int .u64 u.m.r.nx,.int .u64 u.m.p.best,.int .i64 u.m.p.n,.bool u.m.p.full,.int .i64 u.m.c.ph,.int .u64 u.m.c.at',.int .u64 u.m.b.best,.int .u64 u.m.b.at',.bool u.m.b.on,.bool u.set,.bool u.m.b.rd,.int .u64 u.till,.bool u.m.q.use,.bool u.m.q.mea,.int .u64 u.m.q.bw,.int .i64 u.m.q.n,.int .u64 u.m.q.lost,.int .u64 u.m.q.t0,.int .u64 u.m.q.d0,.int .u64 u.m.q.l0,.int .i64 u.m.mode,.int .u64 u.m.rate,.int .u64 u.m.win,.int .u64 u.g,.bool u.m.rec',.bool u.m.first,.int .u64 u.m.til,.int .u64 u.m.sav]^blk nw [.int .u64 u.m.w.w,.int .u64 u.m.w.t0,.int .u64 u.m.w.t1,.int .u64 u.m.w.t2,.int .u64 u.m.w.v0,.int .u64 u.m.w.v1,.int .u64 u.m.w.v2,.int .u64 u.m.w.la,.bool false])) x.1 x.2.1 x.2.2)
instance (b:Nat) (m0 c0:Int) (v:Sk):NoR (rsk b m0 c0 v):=by unfold rsk;infer_instance
section
variable {w0 w : World} {S0 R0 : Nat → Prop} {F G : SP}
theorem _root_.Go.X.Own.rsk (h:Own w0 S0 R0 w F) (b:Nat) {m0 c0:Int} {v:Sk} [tk:Take (RsF.rsk b m0 c0 v) F G]:∃ (mb nw:Nat) (u:Rm),OkR v.md u∧Own w0 S0 R0 w (bdo b m0 c0 v mb v.bd^(blk mb [.int .u64 u.m.mss,.ptr (some ⟨nw,0⟩),.int .u64 u.m.r.n,.int .u64 u.m.r.nx,.int .u64 u.m.p.best,.int .i64 u.m.p.n,.bool u.m.p.full,.int .i64 u.m.c.ph,.int .u64 u.m.c.at',.int .u64 u.m.b.best,.int .u64 u.m.b.at',.bool u.m.b.on,.bool u.set,.bool u.m.b.rd,.int .u64 u.till,.bool u.m.q.use,.bool u.m.q.mea,.int .u64 u.m.q.bw,.int .i64 u.m.q.n,.int .u64 u.m.q.lost,.int .u64 u.m.q.t0,.int .u64 u.m.q.d0,.int .u64 u.m.q.l0,.int .i64 u.m.mode,.int .u64 u.m.rate,.int .u64 u.m.win,.int .u64 u.g,.bool u.m.rec',.bool u.m.first,.int .u64 u.m.til,.int .u64 u.m.sav]^blk nw [.int .u64 u.m.w.w,.int .u64 u.m.w.t0,.int .u64 u.m.w.t1,.int .u64 u.m.w.t2,.int .u64 u.m.w.v0,.int .u64 u.m.w.v1,.int .u64 u.m.w.v2,.int .u64 u.m.w.la,.bool false])^G):=by
 obtain ⟨⟨mb,nw,u⟩,hu,h⟩:=(h.le tk.le).outq
 exact ⟨mb,nw,u,hu,h.fin⟩
theorem _root_.Go.X.Own.mkRsk (h:Own w0 S0 R0 w F) (b:Nat) (m0 c0:Int) (v:Sk) (mb nw:Nat) (u:Rm) (hu:OkR v.md u) [tk:Take (bdo b m0 c0 v mb v.bd^(blk mb [.int .u64 u.m.mss,.ptr (some ⟨nw,0⟩),.int .u64 u.m.r.n,.int .u64 u.m.r.nx,.int .u64 u.m.p.best,.int .i64 u.m.p.n,.bool u.m.p.full,.int .i64 u.m.c.ph,.int .u64 u.m.c.at',.int .u64 u.m.b.best,.int .u64 u.m.b.at',.bool u.m.b.on,.bool u.set,.bool u.m.b.rd,.int .u64 u.till,.bool u.m.q.use,.bool u.m.q.mea,.int .u64 u.m.q.bw,.int .i64 u.m.q.n,.int .u64 u.m.q.lost,.int .u64 u.m.q.t0,.int .u64 u.m.q.d0,.int .u64 u.m.q.l0,.int .i64 u.m.mode,.int .u64 u.m.rate,.int .u64 u.m.win,.int .u64 u.g,.bool u.m.rec',.bool u.m.first,.int .u64 u.m.til,.int .u64 u.m.sav]^blk nw [.int .u64 u.m.w.w,.int .u64 u.m.w.t0,.int .u64 u.m.w.t1,.int .u64 u.m.w.t2,.int .u64 u.m.w.v0,.int .u64 u.m.w.v1,.int .u64 u.m.w.v2,.int .u64 u.m.w.la,.bool false])) F G]:Own w0 S0 R0 w (RsF.rsk b m0 c0 v^G) :=
 Own.inq (f:=fun x:Nat × Nat × Rm=>(fun mb nw u=>bdo b m0 c0 v mb v.bd^(blk mb [.int .u64 u.m.mss,.ptr (some ⟨nw,0⟩),.int .u64 u.m.r.n,.int .u64 u.m.r.nx,.int .u64 u.m.p.best,.int .i64 u.m.p.n,.bool u.m.p.full,.int .i64 u.m.c.ph,.int .u64 u.m.c.at',.int .u64 u.m.b.best,.int .u64 u.m.b.at',.bool u.m.b.on,.bool u.set,.bool u.m.b.rd,.int .u64 u.till,.bool u.m.q.use,.bool u.m.q.mea,.int .u64 u.m.q.bw,.int .i64 u.m.q.n,.int .u64 u.m.q.lost,.int .u64 u.m.q.t0,.int .u64 u.m.q.d0,.int .u64 u.m.q.l0,.int .i64 u.m.mode,.int .u64 u.m.rate,.int .u64 u.m.win,.int .u64 u.g,.bool u.m.rec',.bool u.m.first,.int .u64 u.m.til,.int .u64 u.m.sav]^blk nw [.int .u64 u.m.w.w,.int .u64 u.m.w.t0,.int .u64 u.m.w.t1,.int .u64 u.m.w.t2,.int .u64 u.m.w.v0,.int .u64 u.m.w.v1,.int .u64 u.m.w.v2,.int .u64 u.m.w.la,.bool false])) x.1 x.2.1 x.2.2) h (mb,nw,u) hu
end
theorem rlose_tri (b:Nat) (m0 c0:Int) (v:Sk) (hv:OkSk v) (hm:v.mss=clampM m0) (now:Int) (hn:U now):Tri Tryz.prog N_canterref20_Sock_Lose [.lf (.ptr (some ⟨b,0⟩)),.lf (.int .u64 now)] [] (rsk b m0 c0 v) (fun _=>rsk b m0 c0 (loseS v now)) :=
 tri_0 (call_canterref20_Sock_Lose (some ⟨b,0⟩) now) fun w0 S R h=>by
  unfold W_canterref20_Sock_Lose
  have hbl:v.bd.1.length≤4294967295:=by have:=hv.bl;omega
  obtain ⟨mb,nw,u,hu,h⟩:=(h.le (star_emp _)).rsk b (m0:=m0) (c0:=c0) (v:=v)
  refine w_deref (w_call (r_lose_tri b m0 c0 v mb v.bd hbl) h fun r w h=>?_)
  obtain ⟨hr,h⟩:=h.purP;rw [hr]
  refine w_drw h fun w h=>?_
  refine rlearn (v:={ v with bd:=(v.bd.1.map loseP,v.bd.2) }) (b:=b) (mb:=mb) (nw:=nw) (G:=emp) (OkSk.lose hv) hu hm hn hv.fl h fun w u' hu' h=>?_
  have h:Own w0 S R w (bdo b m0 c0 (loseS v now) mb (loseS v now).bd^(blk mb [.int .u64 u'.m.mss,.ptr (some ⟨nw,0⟩),.int .u64 u'.m.r.n,.int .u64 u'.m.r.nx,.int .u64 u'.m.p.best,.int .i64 u'.m.p.n,.bool u'.m.p.full,.int .i64 u'.m.c.ph,.int .u64 u'.m.c.at',.int .u64 u'.m.b.best,.int .u64 u'.m.b.at',.bool u'.m.b.on,.bool u'.set,.bool u'.m.b.rd,.int .u64 u'.till,.bool u'.m.q.use,.bool u'.m.q.mea,.int .u64 u'.m.q.bw,.int .i64 u'.m.q.n,.int .u64 u'.m.q.lost,.int .u64 u'.m.q.t0,.int .u64 u'.m.q.d0,.int .u64 u'.m.q.l0,.int .i64 u'.m.mode,.int .u64 u'.m.rate,.int .u64 u'.m.win,.int .u64 u'.g,.bool u'.m.rec',.bool u'.m.first,.int .u64 u'.m.til,.int .u64 u'.m.sav]^blk nw [.int .u64 u'.m.w.w,.int .u64 u'.m.w.t0,.int .u64 u'.m.w.t1,.int .u64 u'.m.w.t2,.int .u64 u'.m.w.v0,.int .u64 u'.m.w.v1,.int .u64 u'.m.w.v2,.int .u64 u'.m.w.la,.bool false])^emp):=h
  exact (h.mkRsk b m0 c0 (loseS v now) mb nw u' hu').keep
end RsF

namespace RsG
open Arith ArithC Delays Board BbrM BbrMm BbrX BbrZ SockA SockB SockM SockD SockH SockJ SockL RsA RsC RsD RsE RsF
abbrev KR:Ks:=[.int .u64,.int .u64]
theorem akdL_take {now:Int} {s:Sp} {l:List Pc} {i:Nat} {q:Pc} (h:l[i]?=some q):akdL now s (l.take (i+1))=stepP now (akdL now s (l.take i)) q:=by
 unfold akdL
 rw [List.take_add_one,h,List.foldl_append]
 rfl
theorem rack_tri (b:Nat) (m0 c0:Int) (v:Sk) (hv:OkSk v) (hp:OkPs v.bd.1) (hm:v.mss=clampM m0) (now upto:Int) (hn:U now) (a:Sl) (xs:List (Ks.T KR)) (hx:xs.length≤4294967296):Tri Tryz.prog N_canterref20_Sock_Ack [.lf (.ptr (some ⟨b,0⟩)),.lf (.int .u64 now),.lf (.int .u64 upto),.lf (.sl a)] [.lf (.int .i64)] (rsk b m0 c0 v^rarr a KR xs) (fun r=>pur (r=(ackS v now upto xs).1) (rsk b m0 c0 (ackS v now upto xs).2)) :=
 tri_0 (call_canterref20_Sock_Ack (some ⟨b,0⟩) now upto a) fun w0 S R h=>by
  unfold W_canterref20_Sock_Ack
  have hbl:v.bd.1.length≤4294967295:=by have:=hv.bl;omega
  obtain ⟨mb,nw,u,hu,h⟩:=h.rsk b (m0:=m0) (c0:=c0) (v:=v)
  have t:=r_ack_tri b m0 c0 v mb v.bd upto a xs hbl hx
  cases hc:mayF v.bd upto xs with
  | false =>
   have e:ackS v now upto xs=(11,v):=by unfold ackS;rw [if_neg (by rw [hc];intro c;cases c)]
   rw [e]
   have t:Tri Tryz.prog N_canterref20_Board_Ack [.lf (.ptr (some ⟨b,7⟩)),.lf (.int .u64 upto),.lf (.sl a)] [.lf .sl,.lf (.int .u64),.lf (.int .i64)] (bdo b m0 c0 v mb v.bd^rarr a KR xs) (fun r=>pur (r.1=⟨none,0,0⟩∧r.2.1=0∧r.2.2=11) (arr r.1 K_u6b3 []^bdo b m0 c0 v mb v.bd)):=by
    unfold ackPost at t
    rw [hc] at t
    exact t
   refine w_deref (w_callL (Q:=rarr a KR xs) t h fun r w h=>?_)
   obtain ⟨r1,r2,r3⟩:=r
   obtain ⟨⟨_,_,h3⟩,h⟩:=h.purP
   dsimp only at h3 h ⊢
   refine w_ite (fun _=>?_) fun c=>(by rw [h3] at c;cases c)
   rw [h3]
   have h:Own w0 S R w (bdo b m0 c0 v mb v.bd^(blk mb [.int .u64 u.m.mss,.ptr (some ⟨nw,0⟩),.int .u64 u.m.r.n,.int .u64 u.m.r.nx,.int .u64 u.m.p.best,.int .i64 u.m.p.n,.bool u.m.p.full,.int .i64 u.m.c.ph,.int .u64 u.m.c.at',.int .u64 u.m.b.best,.int .u64 u.m.b.at',.bool u.m.b.on,.bool u.set,.bool u.m.b.rd,.int .u64 u.till,.bool u.m.q.use,.bool u.m.q.mea,.int .u64 u.m.q.bw,.int .i64 u.m.q.n,.int .u64 u.m.q.lost,.int .u64 u.m.q.t0,.int .u64 u.m.q.d0,.int .u64 u.m.q.l0,.int .i64 u.m.mode,.int .u64 u.m.rate,.int .u64 u.m.win,.int .u64 u.g,.bool u.m.rec',.bool u.m.first,.int .u64 u.m.til,.int .u64 u.m.sav]^blk nw [.int .u64 u.m.w.w,.int .u64 u.m.w.t0,.int .u64 u.m.w.t1,.int .u64 u.m.w.t2,.int .u64 u.m.w.v0,.int .u64 u.m.w.v1,.int .u64 u.m.w.v2,.int .u64 u.m.w.la,.bool false])^emp):=h.fin
   exact Own.retP rfl (h.mkRsk b m0 c0 v mb nw u hu).keep
  | true =>
   have e:ackS v now upto xs=(0,learnS (toldS v now upto xs) now (passF (restL upto xs v.bd.1)).2.1):=by unfold ackS;rw [if_pos hc]
   rw [e]
   have t:Tri Tryz.prog N_canterref20_Board_Ack [.lf (.ptr (some ⟨b,7⟩)),.lf (.int .u64 upto),.lf (.sl a)] [.lf .sl,.lf (.int .u64),.lf (.int .i64)] (bdo b m0 c0 v mb v.bd^rarr a KR xs) (fun r=>pur (r.2.1=(passF (restL upto xs v.bd.1)).2.1∧r.2.2=0) (arr r.1 K_u6b3 (toldL upto xs v.bd.1)^bdo b m0 c0 v mb ((passF (restL upto xs v.bd.1)).1,v.bd.2))):=by
    unfold ackPost at t
    rw [hc] at t
    exact t
   refine w_deref (w_callL (Q:=rarr a KR xs) t h fun r w h=>?_)
   obtain ⟨r1,r2,r3⟩:=r
   obtain ⟨⟨h2,h3⟩,h⟩:=h.purP
   dsimp only at h2 h3 h ⊢
   refine w_ite (fun c=>(by rw [h3] at c;cases c)) fun _=>?_
   obtain ⟨L,hL⟩:∃ L,L=toldL upto xs v.bd.1:=⟨_,rfl⟩
   obtain ⟨P,hP⟩:∃ P,P=(passF (restL upto xs v.bd.1)).1:=⟨_,rfl⟩
   rw [← hL,← hP] at h
   have hLen:L.length≤4294967295:=by
    rw [hL]
    exact Nat.le_trans (List.length_filter_le _ _) hbl
   have h:Own w0 S R w (bdo b m0 c0 v mb (P,v.bd.2)^arr r1 K_u6b3 L^(blk mb [.int .u64 u.m.mss,.ptr (some ⟨nw,0⟩),.int .u64 u.m.r.n,.int .u64 u.m.r.nx,.int .u64 u.m.p.best,.int .i64 u.m.p.n,.bool u.m.p.full,.int .i64 u.m.c.ph,.int .u64 u.m.c.at',.int .u64 u.m.b.best,.int .u64 u.m.b.at',.bool u.m.b.on,.bool u.set,.bool u.m.b.rd,.int .u64 u.till,.bool u.m.q.use,.bool u.m.q.mea,.int .u64 u.m.q.bw,.int .i64 u.m.q.n,.int .u64 u.m.q.lost,.int .u64 u.m.q.t0,.int .u64 u.m.q.d0,.int .u64 u.m.q.l0,.int .i64 u.m.mode,.int .u64 u.m.rate,.int .u64 u.m.win,.int .u64 u.g,.bool u.m.rec',.bool u.m.first,.int .u64 u.m.til,.int .u64 u.m.sav]^blk nw [.int .u64 u.m.w.w,.int .u64 u.m.w.t0,.int .u64 u.m.w.t1,.int .u64 u.m.w.t2,.int .u64 u.m.w.v0,.int .u64 u.m.w.v1,.int .u64 u.m.w.v2,.int .u64 u.m.w.la,.bool false])^emp):=h.fin
   obtain ⟨s,h⟩:=h.bdo (m0:=m0) (c0:=c0) (u:=v) (mq:=mb) (v:=(P,v.bd.2)) b
   have h:Own w0 S R w (blk b (rL m0 c0 v s mb)^arr s K_u6b3 P^arr r1 K_u6b3 L^(blk mb [.int .u64 u.m.mss,.ptr (some ⟨nw,0⟩),.int .u64 u.m.r.n,.int .u64 u.m.r.nx,.int .u64 u.m.p.best,.int .i64 u.m.p.n,.bool u.m.p.full,.int .i64 u.m.c.ph,.int .u64 u.m.c.at',.int .u64 u.m.b.best,.int .u64 u.m.b.at',.bool u.m.b.on,.bool u.set,.bool u.m.b.rd,.int .u64 u.till,.bool u.m.q.use,.bool u.m.q.mea,.int .u64 u.m.q.bw,.int .i64 u.m.q.n,.int .u64 u.m.q.lost,.int .u64 u.m.q.t0,.int .u64 u.m.q.d0,.int .u64 u.m.q.l0,.int .i64 u.m.mode,.int .u64 u.m.rate,.int .u64 u.m.win,.int .u64 u.g,.bool u.m.rec',.bool u.m.first,.int .u64 u.m.til,.int .u64 u.m.sav]^blk nw [.int .u64 u.m.w.w,.int .u64 u.m.w.t0,.int .u64 u.m.w.t1,.int .u64 u.m.w.t2,.int .u64 u.m.w.v0,.int .u64 u.m.w.v1,.int .u64 u.m.w.v2,.int .u64 u.m.w.la,.bool false])^emp):=h
   refine w_deref (w_call (racked_tri b m0 c0 v s mb upto) h fun r w h=>?_)
   obtain ⟨_,h⟩:=h.purP
   have hr1:=(Own.rd (s:=r1) (K:=K_u6b3) (xs:=L) h).2
   have hLs:OkPs L:=by rw [hL];exact told_ok hp
   have h:Own w0 S R w (blk b (rL m0 c0 { v with bf:=(akF v.bf upto).2,sp:=akdL now v.sp (L.take (0:Int).toNat) } s mb)^arr s K_u6b3 P^arr r1 K_u6b3 L^(blk mb [.int .u64 u.m.mss,.ptr (some ⟨nw,0⟩),.int .u64 u.m.r.n,.int .u64 u.m.r.nx,.int .u64 u.m.p.best,.int .i64 u.m.p.n,.bool u.m.p.full,.int .i64 u.m.c.ph,.int .u64 u.m.c.at',.int .u64 u.m.b.best,.int .u64 u.m.b.at',.bool u.m.b.on,.bool u.set,.bool u.m.b.rd,.int .u64 u.till,.bool u.m.q.use,.bool u.m.q.mea,.int .u64 u.m.q.bw,.int .i64 u.m.q.n,.int .u64 u.m.q.lost,.int .u64 u.m.q.t0,.int .u64 u.m.q.d0,.int .u64 u.m.q.l0,.int .i64 u.m.mode,.int .u64 u.m.rate,.int .u64 u.m.win,.int .u64 u.g,.bool u.m.rec',.bool u.m.first,.int .u64 u.m.til,.int .u64 u.m.sav]^blk nw [.int .u64 u.m.w.w,.int .u64 u.m.w.t0,.int .u64 u.m.w.t1,.int .u64 u.m.w.t2,.int .u64 u.m.w.v0,.int .u64 u.m.w.v1,.int .u64 u.m.w.v2,.int .u64 u.m.w.la,.bool false])^emp):=h
   refine w_loop (fun i:Int=>blk b (rL m0 c0 { v with bf:=(akF v.bf upto).2,sp:=akdL now v.sp (L.take i.toNat) } s mb)^arr s K_u6b3 P^arr r1 K_u6b3 L^(blk mb [.int .u64 u.m.mss,.ptr (some ⟨nw,0⟩),.int .u64 u.m.r.n,.int .u64 u.m.r.nx,.int .u64 u.m.p.best,.int .i64 u.m.p.n,.bool u.m.p.full,.int .i64 u.m.c.ph,.int .u64 u.m.c.at',.int .u64 u.m.b.best,.int .u64 u.m.b.at',.bool u.m.b.on,.bool u.set,.bool u.m.b.rd,.int .u64 u.till,.bool u.m.q.use,.bool u.m.q.mea,.int .u64 u.m.q.bw,.int .i64 u.m.q.n,.int .u64 u.m.q.lost,.int .u64 u.m.q.t0,.int .u64 u.m.q.d0,.int .u64 u.m.q.l0,.int .i64 u.m.mode,.int .u64 u.m.rate,.int .u64 u.m.win,.int .u64 u.g,.bool u.m.rec',.bool u.m.first,.int .u64 u.m.til,.int .u64 u.m.sav]^blk nw [.int .u64 u.m.w.w,.int .u64 u.m.w.t0,.int .u64 u.m.w.t1,.int .u64 u.m.w.t2,.int .u64 u.m.w.v0,.int .u64 u.m.w.v1,.int .u64 u.m.w.v2,.int .u64 u.m.w.la,.bool false])^emp) (fun i:Int=>0≤i∧i≤L.length) (fun i:Int=>L.length - i.toNat) h ⟨Int.le_refl 0,by omega⟩ ?_
   rintro (i:Int) w ⟨i0,i1⟩ h
   refine w_ite (fun c=>?_) fun c=>?_
   ·have c:i < ((r1.len:Nat):Int):=of_decide_eq_true c
    have hi:i.toNat < L.length:=by omega
    obtain ⟨q,hq⟩:∃ q,L[i.toNat]?=some q:=⟨_,at_some hi⟩
    have hqm:=List.mem_of_getElem? hq
    have hsp:OkSp (akdL now v.sp (L.take i.toNat)):=akdL_ok hn _ _ hv.sp fun z hz=>hLs z (List.mem_of_mem_take hz)
    have ei:(i+1).toNat=i.toNat+1:=by omega
    refine w_drw h fun w h=>w_deref ?_
    have hA:=h.take (arr r1 K_u6b3 L)
    refine w_idx (s:=r1) hA i0 hi (w_idx (s:=r1) hA i0 hi (w_idx (s:=r1) hA i0 hi ?_))
    refine w_ldA hA r1 i.toNat 1 q hq rfl (by decide) (x:=q.2.1) rfl (w_ldA hA r1 i.toNat 0 q hq rfl (by decide) (x:=q.1) rfl (w_ldA hA r1 i.toNat 2 q hq rfl (by decide) (x:=snP q) rfl ?_))
    refine w_call (rsacked_tri b m0 c0 { v with bf:=(akF v.bf upto).2,sp:=akdL now v.sp (L.take i.toNat) } s mb now (IntKind.u64.wrap (q.2.1 - q.1)) (snP q) hsp hn (U_wrap _) (hLs q hqm)) h fun _ w h=>?_
    rw [wi (n:=i+1) (by omega) (by omega)]
    refine ⟨⟨⟨by show (0:Int)≤i+1;omega,by show i+1≤_;omega⟩,?_⟩,by show L.length - (i+1).toNat < _;omega⟩
    show Own w0 S R w (blk b (rL m0 c0 { v with bf:=(akF v.bf upto).2,sp:=akdL now v.sp (L.take (i+1).toNat) } s mb)^_)
    rw [ei,akdL_take hq]
    exact h
   ·have c:¬ i < ((r1.len:Nat):Int):=of_decide_eq_false c
    have ei:L.take i.toNat=L:=List.take_of_length_le (by omega)
    rw [ei] at h
    have eT:toldS v now upto xs={ v with bd:=(P,v.bd.2),bf:=(akF v.bf upto).2,sp:=akdL now v.sp L }:=by unfold toldS;rw [hL,hP]
    have hm2:(toldS v now upto xs).mss=clampM m0:=hm
    have hu2:OkR (toldS v now upto xs).md u:=hu
    have h:Own w0 S R w (bdo b m0 c0 (toldS v now upto xs) mb (toldS v now upto xs).bd^(blk mb [.int .u64 u.m.mss,.ptr (some ⟨nw,0⟩),.int .u64 u.m.r.n,.int .u64 u.m.r.nx,.int .u64 u.m.p.best,.int .i64 u.m.p.n,.bool u.m.p.full,.int .i64 u.m.c.ph,.int .u64 u.m.c.at',.int .u64 u.m.b.best,.int .u64 u.m.b.at',.bool u.m.b.on,.bool u.set,.bool u.m.b.rd,.int .u64 u.till,.bool u.m.q.use,.bool u.m.q.mea,.int .u64 u.m.q.bw,.int .i64 u.m.q.n,.int .u64 u.m.q.lost,.int .u64 u.m.q.t0,.int .u64 u.m.q.d0,.int .u64 u.m.q.l0,.int .i64 u.m.mode,.int .u64 u.m.rate,.int .u64 u.m.win,.int .u64 u.g,.bool u.m.rec',.bool u.m.first,.int .u64 u.m.til,.int .u64 u.m.sav]^blk nw [.int .u64 u.m.w.w,.int .u64 u.m.w.t0,.int .u64 u.m.w.t1,.int .u64 u.m.w.t2,.int .u64 u.m.w.v0,.int .u64 u.m.w.v1,.int .u64 u.m.w.v2,.int .u64 u.m.w.la,.bool false])^arr r1 K_u6b3 L):=by
     rw [eT]
     have h:Own w0 S R w (blk b (rL m0 c0 (eV { v with bd:=(P,v.bd.2),bf:=(akF v.bf upto).2,sp:=akdL now v.sp L } v.bd.2) s mb)^arr s K_u6b3 P^arr r1 K_u6b3 L^(blk mb [.int .u64 u.m.mss,.ptr (some ⟨nw,0⟩),.int .u64 u.m.r.n,.int .u64 u.m.r.nx,.int .u64 u.m.p.best,.int .i64 u.m.p.n,.bool u.m.p.full,.int .i64 u.m.c.ph,.int .u64 u.m.c.at',.int .u64 u.m.b.best,.int .u64 u.m.b.at',.bool u.m.b.on,.bool u.set,.bool u.m.b.rd,.int .u64 u.till,.bool u.m.q.use,.bool u.m.q.mea,.int .u64 u.m.q.bw,.int .i64 u.m.q.n,.int .u64 u.m.q.lost,.int .u64 u.m.q.t0,.int .u64 u.m.q.d0,.int .u64 u.m.q.l0,.int .i64 u.m.mode,.int .u64 u.m.rate,.int .u64 u.m.win,.int .u64 u.g,.bool u.m.rec',.bool u.m.first,.int .u64 u.m.til,.int .u64 u.m.sav]^blk nw [.int .u64 u.m.w.w,.int .u64 u.m.w.t0,.int .u64 u.m.w.t1,.int .u64 u.m.w.t2,.int .u64 u.m.w.v0,.int .u64 u.m.w.v1,.int .u64 u.m.w.v2,.int .u64 u.m.w.la,.bool false])^emp):=h
     exact (h.mkBdo b m0 c0 { v with bd:=(P,v.bd.2),bf:=(akF v.bf upto).2,sp:=akdL now v.sp L } mb s P v.bd.2).fin
    rw [h2]
    refine w_drw h fun w h=>?_
    refine rlearn (v:=toldS v now upto xs) (b:=b) (mb:=mb) (nw:=nw) (G:=arr r1 K_u6b3 L) (toldS_ok hv hp hn upto xs) hu2 hm2 hn (pass_U _) h fun w u' hu' h=>?_
    have h:Own w0 S R w (bdo b m0 c0 (learnS (toldS v now upto xs) now (passF (restL upto xs v.bd.1)).2.1) mb (learnS (toldS v now upto xs) now (passF (restL upto xs v.bd.1)).2.1).bd^(blk mb [.int .u64 u'.m.mss,.ptr (some ⟨nw,0⟩),.int .u64 u'.m.r.n,.int .u64 u'.m.r.nx,.int .u64 u'.m.p.best,.int .i64 u'.m.p.n,.bool u'.m.p.full,.int .i64 u'.m.c.ph,.int .u64 u'.m.c.at',.int .u64 u'.m.b.best,.int .u64 u'.m.b.at',.bool u'.m.b.on,.bool u'.set,.bool u'.m.b.rd,.int .u64 u'.till,.bool u'.m.q.use,.bool u'.m.q.mea,.int .u64 u'.m.q.bw,.int .i64 u'.m.q.n,.int .u64 u'.m.q.lost,.int .u64 u'.m.q.t0,.int .u64 u'.m.q.d0,.int .u64 u'.m.q.l0,.int .i64 u'.m.mode,.int .u64 u'.m.rate,.int .u64 u'.m.win,.int .u64 u'.g,.bool u'.m.rec',.bool u'.m.first,.int .u64 u'.m.til,.int .u64 u'.m.sav]^blk nw [.int .u64 u'.m.w.w,.int .u64 u'.m.w.t0,.int .u64 u'.m.w.t1,.int .u64 u'.m.w.t2,.int .u64 u'.m.w.v0,.int .u64 u'.m.w.v1,.int .u64 u'.m.w.v2,.int .u64 u'.m.w.la,.bool false])^arr r1 K_u6b3 L):=h
    exact Own.retP rfl (h.mkRsk b m0 c0 (learnS (toldS v now upto xs) now (passF (restL upto xs v.bd.1)).2.1) mb nw u' hu').keep
end RsG

end Go.X
