/- Contracts and plain facts: RsH RsI RsJ RsK. -/
import Derived.Test.YtkideobegadadaaGreatB0
import Derived.Test.YtkideobegadadaaGreatB1
import Derived.Test.YtkideobegadadaaGreatB2
import Derived.Test.YtkideobegadadaaGreatB3
import Derived.Test.YtkideobegadadaaGreatB4
import Derived.Test.YtkideobegadadaaGreatB5
import Derived.Test.YtkideobegadadaaGreatB6
import Derived.Test.YtkideobegadadaaGreatB7
import Derived.Test.YtkideobegadadaaGreatK
import Derived.Test.YtkideobegadadaaGreatF0
import Derived.Test.YtkideobegadadaaGreatF1
import Derived.Test.YtkideobegadadaaGreatF2
set_option linter.unusedVariables false
set_option linter.unusedSimpArgs false
set_option linter.unusedSectionVars false
namespace Go.X
open Go.Proofs
namespace RsH
open Arith ArithC Delays Board BbrM BbrMm BbrX BbrZ SockA SockB SockM SockD SockE SockH SockJ SockL RsA RsB RsC RsD RsE RsF
abbrev KR:Ks:=[.int .u64,.int .u64]
def rfinE (b n1 n4:Nat) (o:Int) (ag:Bool) (R:Rs.T [.agg KS,.lf (.int .i64)]→WP):WP :=
 ld [.int .u64] ⟨n4,1⟩ fun (x56:Int) =>
 ld [.int .u64] ⟨n4,0⟩ fun (x57:Int) =>
 drw <|
 deref (some ⟨b,0⟩) fun q58 =>
 ld [.int .u64] ⟨n4,0⟩ fun (x59:Int) =>
 deref (some ⟨b,0⟩) fun q60 =>
 ld [.int .i64] q58 fun (x61:Int) =>
 ld [.int .u64] ⟨q60.b,q60.o+22⟩ fun (x62:Int) =>
 new [.int .i64 (0:Int),.int .u64 (0:Int),.int .i64 (0:Int),.int .u64 (0:Int),.bool false] fun n63 =>
 chk ⟨q60.b,q60.o+22⟩ (Ks.mk [.int .u64] x62) <|
 chk q58 (Ks.mk [.int .i64] x61) <|
 chk ⟨n4,0⟩ (Ks.mk [.int .u64] x59) <|
 st ⟨n63,0⟩ [.int .i64 x61,.int .u64 x59,.int .i64 (IntKind.i64.wrap (IntKind.u64.wrap (x56 - x57))),.int .u64 (if x62 > o then x62 else o),.bool ag] <|
 drw <|
 ld [.int .u64] ⟨n63,3⟩ fun (x64:Int) =>
 deref (some ⟨b,0⟩) fun q65 =>
 ld [.ptr] ⟨q65.b,q65.o+20⟩ fun (x66:Option Pt) =>
 deref x66 fun q67 =>
 ld [.int .u64] ⟨q67.b,q67.o+24⟩ fun (x68:Int) =>
 call Tryz.prog N_canterref01_Delay [.lf (.int .i64 (IntKind.i64.wrap (IntKind.u64.wrap (x56 - x57)))),.lf (.int .u64 x68)] [.lf (.int .u64)] fun (r69:Int) =>
 chk ⟨n63,3⟩ (Ks.mk [.int .u64] x64) <|
 call Tryz.prog N_canterref01_Add [.lf (.int .u64 x64),.lf (.int .u64 r69)] [.lf (.int .u64)] fun (r70:Int) =>
 deref (some ⟨b,0⟩) fun q71 =>
 st ⟨q71.b,q71.o+22⟩ [.int .u64 r70] <|
 deref (some ⟨b,0⟩) fun q72 =>
 ld [.int .u64] ⟨q72.b,q72.o+21⟩ fun (x73:Int) =>
 call Tryz.prog N_canterref01_Add [.lf (.int .u64 x73),.lf (.int .u64 (IntKind.u64.wrap (IntKind.i64.wrap (IntKind.u64.wrap (x56 - x57)))))] [.lf (.int .u64)] fun (r74:Int) =>
 deref (some ⟨b,0⟩) fun q75 =>
 st ⟨q75.b,q75.o+21⟩ [.int .u64 r74] <|
 ld KS ⟨n63,0⟩ fun (x76:Ks.T KS) =>
 st ⟨n1,0⟩ (Ks.mk KS x76) <|
 ld KS ⟨n1,0⟩ fun (x77:Ks.T KS) =>
 R (x77,(0:Int))
theorem w_rfin {w0 w:World} {S0 R0:Nat→Prop} {G:SP} {R:Rs.T [.agg KS,.lf (.int .i64)]→WP} {b n1 n4 mb nw:Nat} {m0 c0:Int} {v:Sk} {u:Rm} {now x y:Int} {ag:Bool} (hu:u.m=v.md) (hm:OkM v.md) (hn:U now) (hnx:U v.nx) (hab:0≤y - x∧y - x≤65536) (ho:0≤v.out∧v.out+65536 < 18446744073709551616)
  (h:Own w0 S0 R0 w (blk n1 zS^blk n4 [.int .u64 x,.int .u64 y]^bdo b m0 c0 v mb v.bd^(blk mb [.int .u64 u.m.mss,.ptr (some ⟨nw,0⟩),.int .u64 u.m.r.n,.int .u64 u.m.r.nx,.int .u64 u.m.p.best,.int .i64 u.m.p.n,.bool u.m.p.full,.int .i64 u.m.c.ph,.int .u64 u.m.c.at',.int .u64 u.m.b.best,.int .u64 u.m.b.at',.bool u.m.b.on,.bool u.set,.bool u.m.b.rd,.int .u64 u.till,.bool u.m.q.use,.bool u.m.q.mea,.int .u64 u.m.q.bw,.int .i64 u.m.q.n,.int .u64 u.m.q.lost,.int .u64 u.m.q.t0,.int .u64 u.m.q.d0,.int .u64 u.m.q.l0,.int .i64 u.m.mode,.int .u64 u.m.rate,.int .u64 u.m.win,.int .u64 u.g,.bool u.m.rec',.bool u.m.first,.int .u64 u.m.til,.int .u64 u.m.sav]^blk nw [.int .u64 u.m.w.w,.int .u64 u.m.w.t0,.int .u64 u.m.w.t1,.int .u64 u.m.w.t2,.int .u64 u.m.w.v0,.int .u64 u.m.w.v1,.int .u64 u.m.w.v2,.int .u64 u.m.w.la,.bool false])^G))
  (k:∀ w',Own w0 S0 R0 w' (bdo b m0 c0 (putS v (x,y) ag now).2 mb v.bd^(blk mb [.int .u64 u.m.mss,.ptr (some ⟨nw,0⟩),.int .u64 u.m.r.n,.int .u64 u.m.r.nx,.int .u64 u.m.p.best,.int .i64 u.m.p.n,.bool u.m.p.full,.int .i64 u.m.c.ph,.int .u64 u.m.c.at',.int .u64 u.m.b.best,.int .u64 u.m.b.at',.bool u.m.b.on,.bool u.set,.bool u.m.b.rd,.int .u64 u.till,.bool u.m.q.use,.bool u.m.q.mea,.int .u64 u.m.q.bw,.int .i64 u.m.q.n,.int .u64 u.m.q.lost,.int .u64 u.m.q.t0,.int .u64 u.m.q.d0,.int .u64 u.m.q.l0,.int .i64 u.m.mode,.int .u64 u.m.rate,.int .u64 u.m.win,.int .u64 u.g,.bool u.m.rec',.bool u.m.first,.int .u64 u.m.til,.int .u64 u.m.sav]^blk nw [.int .u64 u.m.w.w,.int .u64 u.m.w.t0,.int .u64 u.m.w.t1,.int .u64 u.m.w.t2,.int .u64 u.m.w.v0,.int .u64 u.m.w.v1,.int .u64 u.m.w.v2,.int .u64 u.m.w.la,.bool false])^G)→R ((putS v (x,y) ag now).1,0) w'):rfinE b n1 n4 now ag R w:=by
 unfold rfinE
 have e1:IntKind.u64.wrap (y - x)=y - x:=wu (by omega) (by omega)
 have e2:IntKind.i64.wrap (y - x)=y - x:=wi (by omega) (by omega)
 have hst:U (if v.nx > now then v.nx else now):=by split;exact hnx;exact hn
 have hD:U (delayI (y - x) v.md.rate):=U_delay (by omega) hm.rate
 obtain ⟨s,h⟩:=h.bdo (m0:=m0) (c0:=c0) (u:=v) (mq:=mb) (v:=v.bd) b
 have h:Own w0 S0 R0 w (blk b (rL m0 c0 v s mb)^arr s K_u6b3 v.bd.1^blk n1 zS^blk n4 [.int .u64 x,.int .u64 y]^(blk mb [.int .u64 u.m.mss,.ptr (some ⟨nw,0⟩),.int .u64 u.m.r.n,.int .u64 u.m.r.nx,.int .u64 u.m.p.best,.int .i64 u.m.p.n,.bool u.m.p.full,.int .i64 u.m.c.ph,.int .u64 u.m.c.at',.int .u64 u.m.b.best,.int .u64 u.m.b.at',.bool u.m.b.on,.bool u.set,.bool u.m.b.rd,.int .u64 u.till,.bool u.m.q.use,.bool u.m.q.mea,.int .u64 u.m.q.bw,.int .i64 u.m.q.n,.int .u64 u.m.q.lost,.int .u64 u.m.q.t0,.int .u64 u.m.q.d0,.int .u64 u.m.q.l0,.int .i64 u.m.mode,.int .u64 u.m.rate,.int .u64 u.m.win,.int .u64 u.g,.bool u.m.rec',.bool u.m.first,.int .u64 u.m.til,.int .u64 u.m.sav]^blk nw [.int .u64 u.m.w.w,.int .u64 u.m.w.t0,.int .u64 u.m.w.t1,.int .u64 u.m.w.t2,.int .u64 u.m.w.v0,.int .u64 u.m.w.v1,.int .u64 u.m.w.v2,.int .u64 u.m.w.la,.bool false])^G):=h
 refine w_ld (x:=y) h rfl (w_ld (x:=x) h rfl (w_drw h fun w h=>w_deref (w_ld (x:=x) h rfl (w_deref (w_ld (x:=v.id) h rfl (w_ld (x:=v.nx) h rfl (w_new h fun n63 w h=>?_)))))))
 refine w_chk h rfl (w_chk h rfl (w_chk h rfl ?_))
 rw [e1,e2]
 refine w_setAll h (by rfl) fun w h=>w_drw h fun w h=>w_ld (x:=if v.nx > now then v.nx else now) h rfl (w_deref (w_ld (x:=some ⟨mb,0⟩) h rfl (w_deref (w_ld (x:=u.m.rate) h rfl ?_))))
 rw [hu]
 refine w_call (rdelay_tri (y - x) v.md.rate (by omega) hm.rate) (h.le ((star_emp _).trans (star_comm _ _))) fun r w h=>?_
 obtain ⟨hr,h⟩:=h.purP;rw [hr]
 have h:=h.drop
 refine w_chk h rfl (w_call (radd_tri _ _ hst hD) (h.le ((star_emp _).trans (star_comm _ _))) fun r w h=>?_)
 obtain ⟨hr,h⟩:=h.purP;rw [hr]
 have h:=h.drop
 refine w_deref (w_setTo h b (rL m0 c0 { v with nx:=addI (if v.nx > now then v.nx else now) (delayI (y - x) v.md.rate) } s mb) rfl rfl rfl fun w h=>?_)
 refine w_deref (w_ld (x:=v.out) h rfl ?_)
 rw [e1]
 refine w_call (radd_tri v.out (y - x) ⟨ho.1,by omega⟩ ⟨hab.1,by omega⟩) (h.le ((star_emp _).trans (star_comm _ _))) fun r w h=>?_
 obtain ⟨hr,h⟩:=h.purP
 have e3:addI v.out (y - x)=v.out+(y - x):=by unfold addI;rw [if_pos (by omega)]
 rw [hr,e3]
 have h:=h.drop
 refine w_deref (w_setTo h b (rL m0 c0 { v with nx:=addI (if v.nx > now then v.nx else now) (delayI (y - x) v.md.rate),out:=v.out+(y - x) } s mb) rfl rfl rfl fun w h=>?_)
 refine w_ldAll (b:=n63) (x:=(putS v (x,y) ag now).1) h rfl (w_setAll h (by rfl) fun w h=>w_ldAll (b:=n1) (x:=(putS v (x,y) ag now).1) h rfl ?_)
 have h:Own w0 S0 R0 w (blk b (rL m0 c0 (eV (putS v (x,y) ag now).2 v.bd.2) s mb)^arr s K_u6b3 v.bd.1^(blk mb [.int .u64 u.m.mss,.ptr (some ⟨nw,0⟩),.int .u64 u.m.r.n,.int .u64 u.m.r.nx,.int .u64 u.m.p.best,.int .i64 u.m.p.n,.bool u.m.p.full,.int .i64 u.m.c.ph,.int .u64 u.m.c.at',.int .u64 u.m.b.best,.int .u64 u.m.b.at',.bool u.m.b.on,.bool u.set,.bool u.m.b.rd,.int .u64 u.till,.bool u.m.q.use,.bool u.m.q.mea,.int .u64 u.m.q.bw,.int .i64 u.m.q.n,.int .u64 u.m.q.lost,.int .u64 u.m.q.t0,.int .u64 u.m.q.d0,.int .u64 u.m.q.l0,.int .i64 u.m.mode,.int .u64 u.m.rate,.int .u64 u.m.win,.int .u64 u.g,.bool u.m.rec',.bool u.m.first,.int .u64 u.m.til,.int .u64 u.m.sav]^blk nw [.int .u64 u.m.w.w,.int .u64 u.m.w.t0,.int .u64 u.m.w.t1,.int .u64 u.m.w.t2,.int .u64 u.m.w.v0,.int .u64 u.m.w.v1,.int .u64 u.m.w.v2,.int .u64 u.m.w.la,.bool false])^G):=by
  have h:Own w0 S0 R0 w (blk b (rL m0 c0 { v with nx:=addI (if v.nx > now then v.nx else now) (delayI (y - x) v.md.rate),out:=v.out+(y - x) } s mb)^arr s K_u6b3 v.bd.1^(blk mb [.int .u64 u.m.mss,.ptr (some ⟨nw,0⟩),.int .u64 u.m.r.n,.int .u64 u.m.r.nx,.int .u64 u.m.p.best,.int .i64 u.m.p.n,.bool u.m.p.full,.int .i64 u.m.c.ph,.int .u64 u.m.c.at',.int .u64 u.m.b.best,.int .u64 u.m.b.at',.bool u.m.b.on,.bool u.set,.bool u.m.b.rd,.int .u64 u.till,.bool u.m.q.use,.bool u.m.q.mea,.int .u64 u.m.q.bw,.int .i64 u.m.q.n,.int .u64 u.m.q.lost,.int .u64 u.m.q.t0,.int .u64 u.m.q.d0,.int .u64 u.m.q.l0,.int .i64 u.m.mode,.int .u64 u.m.rate,.int .u64 u.m.win,.int .u64 u.g,.bool u.m.rec',.bool u.m.first,.int .u64 u.m.til,.int .u64 u.m.sav]^blk nw [.int .u64 u.m.w.w,.int .u64 u.m.w.t0,.int .u64 u.m.w.t1,.int .u64 u.m.w.t2,.int .u64 u.m.w.v0,.int .u64 u.m.w.v1,.int .u64 u.m.w.v2,.int .u64 u.m.w.la,.bool false])^G):=h.fin
  exact h
 exact k w (h.mkBdo b m0 c0 (putS v (x,y) ag now).2 mb s v.bd.1 v.bd.2).fin
end RsH

namespace RsI
open Arith ArithC Delays Board BbrM BbrMm BbrX BbrZ SockA SockB SockM SockD SockE SockF SockG SockH SockJ SockL RsA RsB RsC RsD RsE RsF RsH
abbrev KR:Ks:=[.int .u64,.int .u64]
theorem remit_tri (b:Nat) (m0:Int) (v:Sk) (hv:OkSk v) (hL:OkL v.bd.1) (hm:v.mss=clampM m0) (now:Int) (hn:U now):Tri Tryz.prog N_canterref20_Sock_Emit [.lf (.ptr (some ⟨b,0⟩)),.lf (.int .u64 now)] [.agg KS,.lf (.int .i64)] (rsk b m0 v.cap v) (fun r=>pur (r=(emitS v now).1) (rsk b m0 v.cap (emitS v now).2)) :=
 tri_0 (call_canterref20_Sock_Emit (some ⟨b,0⟩) now) fun w0 S R h=>by
  unfold W_canterref20_Sock_Emit
  have hbl:v.bd.1.length≤4294967296:=by have:=hv.bl;omega
  have hts:=tso_r v.md.rate v.mss hv.md.rate.1
  have b1:=hv.bf.u
  have b2:=hv.bf.un
  have b3:=hv.bf.nw
  have b4:=hv.bf.w
  obtain ⟨c0,hc0⟩:∃ c0,c0=v.cap:=⟨_,rfl⟩
  rw [← hc0] at h ⊢
  obtain ⟨mb,nw,u,hu,h⟩:=(h.le (star_emp _)).rsk b (m0:=m0) (c0:=c0) (v:=v)
  obtain ⟨hu1,hu2,hu3⟩:=hu
  have bad:∀ {w:World} {n1:Nat} (e:Int),e≠0→(mayS v).1=e→∀ {G:SP},Own w0 S R w (blk n1 zS^bdo b m0 c0 (mayS v).2 mb v.bd^(blk mb [.int .u64 u.m.mss,.ptr (some ⟨nw,0⟩),.int .u64 u.m.r.n,.int .u64 u.m.r.nx,.int .u64 u.m.p.best,.int .i64 u.m.p.n,.bool u.m.p.full,.int .i64 u.m.c.ph,.int .u64 u.m.c.at',.int .u64 u.m.b.best,.int .u64 u.m.b.at',.bool u.m.b.on,.bool u.set,.bool u.m.b.rd,.int .u64 u.till,.bool u.m.q.use,.bool u.m.q.mea,.int .u64 u.m.q.bw,.int .i64 u.m.q.n,.int .u64 u.m.q.lost,.int .u64 u.m.q.t0,.int .u64 u.m.q.d0,.int .u64 u.m.q.l0,.int .i64 u.m.mode,.int .u64 u.m.rate,.int .u64 u.m.win,.int .u64 u.g,.bool u.m.rec',.bool u.m.first,.int .u64 u.m.til,.int .u64 u.m.sav]^blk nw [.int .u64 u.m.w.w,.int .u64 u.m.w.t0,.int .u64 u.m.w.t1,.int .u64 u.m.w.t2,.int .u64 u.m.w.v0,.int .u64 u.m.w.v1,.int .u64 u.m.w.v2,.int .u64 u.m.w.la,.bool false])^G) →
    st ⟨n1,0⟩ zS (ld KS ⟨n1,0⟩ fun (x:Ks.T KS)=>(fun (r:Ks.T KS × Int) w=>Own w0 S R w (pur (r=(emitS v now).1) (rsk b m0 c0 (emitS v now).2))) (x,e)) w:=by
   intro w n1 e he hme G h
   have ee:emitS v now=((noS,(mayS v).1),(mayS v).2):=by unfold emitS;rw [if_pos (by rw [hme];exact he)]
   have em:(mayS v).2.md=v.md∧(mayS v).2.bd=v.bd:=by
    unfold mayS;(repeat' split)<;>exact ⟨rfl,rfl⟩
   refine w_setAll h (by rfl) fun w h=>w_ldAll (b:=n1) (x:=noS) h rfl ?_
   rw [ee,hme]
   have h:Own w0 S R w (bdo b m0 c0 (mayS v).2 mb (mayS v).2.bd^(blk mb [.int .u64 u.m.mss,.ptr (some ⟨nw,0⟩),.int .u64 u.m.r.n,.int .u64 u.m.r.nx,.int .u64 u.m.p.best,.int .i64 u.m.p.n,.bool u.m.p.full,.int .i64 u.m.c.ph,.int .u64 u.m.c.at',.int .u64 u.m.b.best,.int .u64 u.m.b.at',.bool u.m.b.on,.bool u.set,.bool u.m.b.rd,.int .u64 u.till,.bool u.m.q.use,.bool u.m.q.mea,.int .u64 u.m.q.bw,.int .i64 u.m.q.n,.int .u64 u.m.q.lost,.int .u64 u.m.q.t0,.int .u64 u.m.q.d0,.int .u64 u.m.q.l0,.int .i64 u.m.mode,.int .u64 u.m.rate,.int .u64 u.m.win,.int .u64 u.g,.bool u.m.rec',.bool u.m.first,.int .u64 u.m.til,.int .u64 u.m.sav]^blk nw [.int .u64 u.m.w.w,.int .u64 u.m.w.t0,.int .u64 u.m.w.t1,.int .u64 u.m.w.t2,.int .u64 u.m.w.v0,.int .u64 u.m.w.v1,.int .u64 u.m.w.v2,.int .u64 u.m.w.la,.bool false])^emp):=by rw [em.2];exact h.fin
   exact Own.retP rfl (h.mkRsk b m0 c0 (mayS v).2 mb nw u ⟨by rw [em.1];exact hu1,hu2,by rw [em.1];exact hu3⟩).keep
  refine w_new h fun n1 w h=>w_deref (w_call (r_Lost_tri b m0 c0 v mb v.bd hbl) h fun r w h=>?_)
  obtain ⟨hr,h⟩:=h.purP;rw [hr]
  refine w_new h fun n4 w h=>w_setAll h (by rfl) fun w h=>w_deref (w_call (r_flight_tri b m0 c0 v mb v.bd hbl) h fun r w h=>?_)
  obtain ⟨hr,h⟩:=h.purP;rw [hr]
  obtain ⟨s,h⟩:=h.bdo (m0:=m0) (c0:=c0) (u:=v) (mq:=mb) (v:=v.bd) b
  have h:Own w0 S R w (blk b (rL m0 c0 v s mb)^arr s K_u6b3 v.bd.1^blk n1 zS^blk n4 (Ks.mk KR (lostF v.bd.1).1)^(blk mb [.int .u64 u.m.mss,.ptr (some ⟨nw,0⟩),.int .u64 u.m.r.n,.int .u64 u.m.r.nx,.int .u64 u.m.p.best,.int .i64 u.m.p.n,.bool u.m.p.full,.int .i64 u.m.c.ph,.int .u64 u.m.c.at',.int .u64 u.m.b.best,.int .u64 u.m.b.at',.bool u.m.b.on,.bool u.set,.bool u.m.b.rd,.int .u64 u.till,.bool u.m.q.use,.bool u.m.q.mea,.int .u64 u.m.q.bw,.int .i64 u.m.q.n,.int .u64 u.m.q.lost,.int .u64 u.m.q.t0,.int .u64 u.m.q.d0,.int .u64 u.m.q.l0,.int .i64 u.m.mode,.int .u64 u.m.rate,.int .u64 u.m.win,.int .u64 u.g,.bool u.m.rec',.bool u.m.first,.int .u64 u.m.til,.int .u64 u.m.sav]^blk nw [.int .u64 u.m.w.w,.int .u64 u.m.w.t0,.int .u64 u.m.w.t1,.int .u64 u.m.w.t2,.int .u64 u.m.w.v0,.int .u64 u.m.w.v1,.int .u64 u.m.w.v2,.int .u64 u.m.w.la,.bool false])^emp):=h.fin
  have hsl:=((h.take (arr s K_u6b3 v.bd.1)).rd (s:=s)).2
  refine w_join h (fun _=>blk b (rL m0 c0 v s mb)^arr s K_u6b3 v.bd.1^blk n1 zS^blk n4 (Ks.mk KR (lostF v.bd.1).1)^(blk mb [.int .u64 u.m.mss,.ptr (some ⟨nw,0⟩),.int .u64 u.m.r.n,.int .u64 u.m.r.nx,.int .u64 u.m.p.best,.int .i64 u.m.p.n,.bool u.m.p.full,.int .i64 u.m.c.ph,.int .u64 u.m.c.at',.int .u64 u.m.b.best,.int .u64 u.m.b.at',.bool u.m.b.on,.bool u.set,.bool u.m.b.rd,.int .u64 u.till,.bool u.m.q.use,.bool u.m.q.mea,.int .u64 u.m.q.bw,.int .i64 u.m.q.n,.int .u64 u.m.q.lost,.int .u64 u.m.q.t0,.int .u64 u.m.q.d0,.int .u64 u.m.q.l0,.int .i64 u.m.mode,.int .u64 u.m.rate,.int .u64 u.m.win,.int .u64 u.g,.bool u.m.rec',.bool u.m.first,.int .u64 u.m.til,.int .u64 u.m.sav]^blk nw [.int .u64 u.m.w.w,.int .u64 u.m.w.t0,.int .u64 u.m.w.t1,.int .u64 u.m.w.t2,.int .u64 u.m.w.v0,.int .u64 u.m.w.v1,.int .u64 u.m.w.v2,.int .u64 u.m.w.la,.bool false])^emp) (fun y:Bool=>y=decide ((lostF v.bd.1).2=false∧bW v.bf - bN v.bf=0)) (fun (y:Bool) w hy h=>?_) ?_
  rotate_left
  ·refine w_drw h fun w h=>w_ite (fun c=>?_) fun c=>?_
   ·have c:(lostF v.bd.1).2=false:=by simpa using c
    refine w_deref (w_deref (w_ld (x:=bN v.bf) h rfl (w_ld (x:=bW v.bf) h rfl ⟨?_,h⟩)))
    show (bN v.bf == bW v.bf)=_
    by_cases e:bN v.bf=bW v.bf
    ·rw [decide_eq_true (show _∧_ from ⟨c,by omega⟩),e];simp
    ·rw [decide_eq_false (fun hh:_∧_=>e (by have:=hh.2;omega))];simpa using e
   ·have c:(lostF v.bd.1).2=true:=by simpa using c
    exact ⟨by rw [decide_eq_false (fun hh:_∧_=>by rw [c] at hh;cases hh.1)],h⟩
  rw [hy]
  refine w_ite (fun c=>?_) fun c=>?_
  ·have c:=of_decide_eq_true c
   refine w_deref (w_ld (x:=some ⟨mb,0⟩) h rfl (w_deref (w_ld (x:=u.m.win) h rfl (w_ite (fun c2=>?_) fun c2=>?_))))
   ·have c2:skFl v < v.md.win:=by have:=of_decide_eq_true c2;rw [hu1] at this;exact this
    have em:mayS v=(7,{ v with sp:=limitP v.sp (skFl v) }):=by unfold mayS;rw [if_pos c,if_pos c2]
    refine w_deref (w_call (rslimit_tri b m0 c0 v s mb (skFl v) hv.sp hv.fl) h fun _ w h=>?_)
    have h:Own w0 S R w (blk b (rL m0 c0 (eV { v with sp:=limitP v.sp (skFl v) } v.bd.2) s mb)^arr s K_u6b3 v.bd.1^blk n1 zS^blk n4 (Ks.mk KR (lostF v.bd.1).1)^(blk mb [.int .u64 u.m.mss,.ptr (some ⟨nw,0⟩),.int .u64 u.m.r.n,.int .u64 u.m.r.nx,.int .u64 u.m.p.best,.int .i64 u.m.p.n,.bool u.m.p.full,.int .i64 u.m.c.ph,.int .u64 u.m.c.at',.int .u64 u.m.b.best,.int .u64 u.m.b.at',.bool u.m.b.on,.bool u.set,.bool u.m.b.rd,.int .u64 u.till,.bool u.m.q.use,.bool u.m.q.mea,.int .u64 u.m.q.bw,.int .i64 u.m.q.n,.int .u64 u.m.q.lost,.int .u64 u.m.q.t0,.int .u64 u.m.q.d0,.int .u64 u.m.q.l0,.int .i64 u.m.mode,.int .u64 u.m.rate,.int .u64 u.m.win,.int .u64 u.g,.bool u.m.rec',.bool u.m.first,.int .u64 u.m.til,.int .u64 u.m.sav]^blk nw [.int .u64 u.m.w.w,.int .u64 u.m.w.t0,.int .u64 u.m.w.t1,.int .u64 u.m.w.t2,.int .u64 u.m.w.v0,.int .u64 u.m.w.v1,.int .u64 u.m.w.v2,.int .u64 u.m.w.la,.bool false])^emp):=h.fin
    have h:=h.mkBdo b m0 c0 { v with sp:=limitP v.sp (skFl v) } mb s v.bd.1 v.bd.2
    have h:Own w0 S R w (blk n1 zS^bdo b m0 c0 (mayS v).2 mb v.bd^(blk mb [.int .u64 u.m.mss,.ptr (some ⟨nw,0⟩),.int .u64 u.m.r.n,.int .u64 u.m.r.nx,.int .u64 u.m.p.best,.int .i64 u.m.p.n,.bool u.m.p.full,.int .i64 u.m.c.ph,.int .u64 u.m.c.at',.int .u64 u.m.b.best,.int .u64 u.m.b.at',.bool u.m.b.on,.bool u.set,.bool u.m.b.rd,.int .u64 u.till,.bool u.m.q.use,.bool u.m.q.mea,.int .u64 u.m.q.bw,.int .i64 u.m.q.n,.int .u64 u.m.q.lost,.int .u64 u.m.q.t0,.int .u64 u.m.q.d0,.int .u64 u.m.q.l0,.int .i64 u.m.mode,.int .u64 u.m.rate,.int .u64 u.m.win,.int .u64 u.g,.bool u.m.rec',.bool u.m.first,.int .u64 u.m.til,.int .u64 u.m.sav]^blk nw [.int .u64 u.m.w.w,.int .u64 u.m.w.t0,.int .u64 u.m.w.t1,.int .u64 u.m.w.t2,.int .u64 u.m.w.v0,.int .u64 u.m.w.v1,.int .u64 u.m.w.v2,.int .u64 u.m.w.la,.bool false])^blk n4 (Ks.mk KR (lostF v.bd.1).1)):=by rw [em];exact h.fin
    exact bad 7 (by decide) (by rw [em]) h
   ·have c2:¬ skFl v < v.md.win:=by have:=of_decide_eq_false c2;rw [hu1] at this;exact this
    have em:mayS v=(7,v):=by unfold mayS;rw [if_pos c,if_neg c2]
    have h:Own w0 S R w (blk b (rL m0 c0 (eV v v.bd.2) s mb)^arr s K_u6b3 v.bd.1^blk n1 zS^blk n4 (Ks.mk KR (lostF v.bd.1).1)^(blk mb [.int .u64 u.m.mss,.ptr (some ⟨nw,0⟩),.int .u64 u.m.r.n,.int .u64 u.m.r.nx,.int .u64 u.m.p.best,.int .i64 u.m.p.n,.bool u.m.p.full,.int .i64 u.m.c.ph,.int .u64 u.m.c.at',.int .u64 u.m.b.best,.int .u64 u.m.b.at',.bool u.m.b.on,.bool u.set,.bool u.m.b.rd,.int .u64 u.till,.bool u.m.q.use,.bool u.m.q.mea,.int .u64 u.m.q.bw,.int .i64 u.m.q.n,.int .u64 u.m.q.lost,.int .u64 u.m.q.t0,.int .u64 u.m.q.d0,.int .u64 u.m.q.l0,.int .i64 u.m.mode,.int .u64 u.m.rate,.int .u64 u.m.win,.int .u64 u.g,.bool u.m.rec',.bool u.m.first,.int .u64 u.m.til,.int .u64 u.m.sav]^blk nw [.int .u64 u.m.w.w,.int .u64 u.m.w.t0,.int .u64 u.m.w.t1,.int .u64 u.m.w.t2,.int .u64 u.m.w.v0,.int .u64 u.m.w.v1,.int .u64 u.m.w.v2,.int .u64 u.m.w.la,.bool false])^emp):=h
    have h:=h.mkBdo b m0 c0 v mb s v.bd.1 v.bd.2
    have h:Own w0 S R w (blk n1 zS^bdo b m0 c0 (mayS v).2 mb v.bd^(blk mb [.int .u64 u.m.mss,.ptr (some ⟨nw,0⟩),.int .u64 u.m.r.n,.int .u64 u.m.r.nx,.int .u64 u.m.p.best,.int .i64 u.m.p.n,.bool u.m.p.full,.int .i64 u.m.c.ph,.int .u64 u.m.c.at',.int .u64 u.m.b.best,.int .u64 u.m.b.at',.bool u.m.b.on,.bool u.set,.bool u.m.b.rd,.int .u64 u.till,.bool u.m.q.use,.bool u.m.q.mea,.int .u64 u.m.q.bw,.int .i64 u.m.q.n,.int .u64 u.m.q.lost,.int .u64 u.m.q.t0,.int .u64 u.m.q.d0,.int .u64 u.m.q.l0,.int .i64 u.m.mode,.int .u64 u.m.rate,.int .u64 u.m.win,.int .u64 u.g,.bool u.m.rec',.bool u.m.first,.int .u64 u.m.til,.int .u64 u.m.sav]^blk nw [.int .u64 u.m.w.w,.int .u64 u.m.w.t0,.int .u64 u.m.w.t1,.int .u64 u.m.w.t2,.int .u64 u.m.w.v0,.int .u64 u.m.w.v1,.int .u64 u.m.w.v2,.int .u64 u.m.w.la,.bool false])^blk n4 (Ks.mk KR (lostF v.bd.1).1)):=by rw [em];exact h.fin
    exact bad 7 (by decide) (by rw [em]) h
  ·have c:=of_decide_eq_false c
   refine w_join h (fun _=>blk b (rL m0 c0 v s mb)^arr s K_u6b3 v.bd.1^blk n1 zS^blk n4 (Ks.mk KR (lostF v.bd.1).1)^(blk mb [.int .u64 u.m.mss,.ptr (some ⟨nw,0⟩),.int .u64 u.m.r.n,.int .u64 u.m.r.nx,.int .u64 u.m.p.best,.int .i64 u.m.p.n,.bool u.m.p.full,.int .i64 u.m.c.ph,.int .u64 u.m.c.at',.int .u64 u.m.b.best,.int .u64 u.m.b.at',.bool u.m.b.on,.bool u.set,.bool u.m.b.rd,.int .u64 u.till,.bool u.m.q.use,.bool u.m.q.mea,.int .u64 u.m.q.bw,.int .i64 u.m.q.n,.int .u64 u.m.q.lost,.int .u64 u.m.q.t0,.int .u64 u.m.q.d0,.int .u64 u.m.q.l0,.int .i64 u.m.mode,.int .u64 u.m.rate,.int .u64 u.m.win,.int .u64 u.g,.bool u.m.rec',.bool u.m.first,.int .u64 u.m.til,.int .u64 u.m.sav]^blk nw [.int .u64 u.m.w.w,.int .u64 u.m.w.t0,.int .u64 u.m.w.t1,.int .u64 u.m.w.t2,.int .u64 u.m.w.v0,.int .u64 u.m.w.v1,.int .u64 u.m.w.v2,.int .u64 u.m.w.la,.bool false])^emp) (fun y:Bool=>y=decide (¬ (skFl v < v.md.win∧v.out < belowF v.md.rate (skTso v) v.cap)∨((lostF v.bd.1).2=false∧(v.bd.1.length:Int) ≥ 4096))) (fun (y:Bool) w hy h=>?_) ?_
   rotate_left
   ·refine w_drw h fun w h=>w_deref (w_ld (x:=some ⟨mb,0⟩) h rfl (w_deref (w_ld (x:=u.m.win) h rfl (w_ite (fun c2=>?_) fun c2=>?_))))
    ·have c2:skFl v ≥ v.md.win:=by have:=of_decide_eq_true c2;rw [hu1] at this;exact this
     exact ⟨(decide_eq_true (.inl (fun hh=>by have:=hh.1;omega))).symm,h⟩
    ·have c2:¬ skFl v ≥ v.md.win:=by have:=of_decide_eq_false c2;rw [hu1] at this;exact this
     refine w_deref (w_deref (w_deref (w_ld (x:=v.out) h rfl (w_ld (x:=some ⟨mb,0⟩) h rfl (w_ld (x:=c0) h rfl (w_deref (w_ld (x:=v.md.rate) h (by rw [← hu1];rfl) ?_)))))))
     refine w_call (rtso_tri b mb nw m0 c0 v s u hu1 hv.md.rate hm) h fun r w h=>?_
     obtain ⟨hr,h⟩:=h.purP;rw [hr]
     refine w_chk h (by rw [← hu1];rfl) (w_chk h rfl (w_chk h rfl (w_chk h rfl ?_)))
     refine w_call (SockV.rlimit_tri v.md.rate (skTso v) c0 hv.md.rate ⟨by unfold skTso;omega,by unfold skTso;omega⟩ (by rw [hc0];exact hv.cap)) (h.le ((star_emp _).trans (star_comm _ _))) fun r w h=>?_
     obtain ⟨hr,h⟩:=h.purP
     have h:=h.drop
     rw [hr,hc0]
     refine w_chk h rfl (w_ite (fun c3=>?_) fun c3=>?_)
     ·have c3:v.out ≥ belowF v.md.rate (skTso v) v.cap:=of_decide_eq_true c3
      rw [← hc0]
      exact ⟨(decide_eq_true (.inl (fun hh=>by have:=hh.2;rw [← hc0] at *;omega))).symm,h.fin⟩
     ·have c3:¬ v.out ≥ belowF v.md.rate (skTso v) v.cap:=of_decide_eq_false c3
      have hgo:skFl v < v.md.win∧v.out < belowF v.md.rate (skTso v) v.cap:=⟨by omega,by omega⟩
      rw [← hc0]
      refine w_ite (fun c4=>?_) fun c4=>?_
      ·have c4:(lostF v.bd.1).2=false:=by simpa using c4
       refine w_deref (w_ld (x:=s) h rfl ⟨?_,h.fin⟩)
       rw [hsl]
       by_cases e:(v.bd.1.length:Int) ≥ 4096
       ·rw [decide_eq_true e,decide_eq_true (.inr ⟨c4,e⟩)]
       ·rw [decide_eq_false e,decide_eq_false]
        rintro (hh | hh)
        ·exact hh (by rw [hc0];exact hgo)
        ·exact e hh.2
      ·have c4:(lostF v.bd.1).2=true:=by simpa using c4
       refine ⟨?_,h.fin⟩
       rw [decide_eq_false]
       rintro (hh | hh)
       ·exact hh (by rw [hc0];exact hgo)
       ·rw [c4] at hh;cases hh.1
   rw [hy]
   refine w_ite (fun c2=>?_) fun c2=>?_
   ·have c2:=of_decide_eq_true c2
    have em:mayS v=(5,v):=by
     unfold mayS
     rw [if_neg c]
     by_cases e:¬ (skFl v < v.md.win∧v.out < belowF v.md.rate (skTso v) v.cap)
     ·rw [if_pos e]
     ·rw [if_neg e]
      rcases c2 with c2 | c2
      ·exact absurd c2 e
      ·rw [if_pos c2]
    have h:Own w0 S R w (blk b (rL m0 c0 (eV v v.bd.2) s mb)^arr s K_u6b3 v.bd.1^blk n1 zS^blk n4 (Ks.mk KR (lostF v.bd.1).1)^(blk mb [.int .u64 u.m.mss,.ptr (some ⟨nw,0⟩),.int .u64 u.m.r.n,.int .u64 u.m.r.nx,.int .u64 u.m.p.best,.int .i64 u.m.p.n,.bool u.m.p.full,.int .i64 u.m.c.ph,.int .u64 u.m.c.at',.int .u64 u.m.b.best,.int .u64 u.m.b.at',.bool u.m.b.on,.bool u.set,.bool u.m.b.rd,.int .u64 u.till,.bool u.m.q.use,.bool u.m.q.mea,.int .u64 u.m.q.bw,.int .i64 u.m.q.n,.int .u64 u.m.q.lost,.int .u64 u.m.q.t0,.int .u64 u.m.q.d0,.int .u64 u.m.q.l0,.int .i64 u.m.mode,.int .u64 u.m.rate,.int .u64 u.m.win,.int .u64 u.g,.bool u.m.rec',.bool u.m.first,.int .u64 u.m.til,.int .u64 u.m.sav]^blk nw [.int .u64 u.m.w.w,.int .u64 u.m.w.t0,.int .u64 u.m.w.t1,.int .u64 u.m.w.t2,.int .u64 u.m.w.v0,.int .u64 u.m.w.v1,.int .u64 u.m.w.v2,.int .u64 u.m.w.la,.bool false])^emp):=h
    have h:=h.mkBdo b m0 c0 v mb s v.bd.1 v.bd.2
    have h:Own w0 S R w (blk n1 zS^bdo b m0 c0 (mayS v).2 mb v.bd^(blk mb [.int .u64 u.m.mss,.ptr (some ⟨nw,0⟩),.int .u64 u.m.r.n,.int .u64 u.m.r.nx,.int .u64 u.m.p.best,.int .i64 u.m.p.n,.bool u.m.p.full,.int .i64 u.m.c.ph,.int .u64 u.m.c.at',.int .u64 u.m.b.best,.int .u64 u.m.b.at',.bool u.m.b.on,.bool u.set,.bool u.m.b.rd,.int .u64 u.till,.bool u.m.q.use,.bool u.m.q.mea,.int .u64 u.m.q.bw,.int .i64 u.m.q.n,.int .u64 u.m.q.lost,.int .u64 u.m.q.t0,.int .u64 u.m.q.d0,.int .u64 u.m.q.l0,.int .i64 u.m.mode,.int .u64 u.m.rate,.int .u64 u.m.win,.int .u64 u.g,.bool u.m.rec',.bool u.m.first,.int .u64 u.m.til,.int .u64 u.m.sav]^blk nw [.int .u64 u.m.w.w,.int .u64 u.m.w.t0,.int .u64 u.m.w.t1,.int .u64 u.m.w.t2,.int .u64 u.m.w.v0,.int .u64 u.m.w.v1,.int .u64 u.m.w.v2,.int .u64 u.m.w.la,.bool false])^blk n4 (Ks.mk KR (lostF v.bd.1).1)):=by rw [em];exact h.fin
    exact bad 5 (by decide) (by rw [em]) h
   ·have c2:=of_decide_eq_false c2
    have c3:skFl v < v.md.win∧v.out < belowF v.md.rate (skTso v) v.cap:=Classical.not_not.1 fun hh=>c2 (.inl hh)
    have em:(mayS v).1=0:=by
     unfold mayS
     rw [if_neg c,if_neg (fun hh=>hh c3),if_neg (fun hh=>c2 (.inr hh))]
    have ee:emitS v now=(((goS v now).1,0),(goS v now).2):=by unfold emitS;rw [if_neg (by rw [em];exact fun e=>e rfl)]
    have hout:v.out < 18014398509481984:=(may_out hv.md.rate em).1
    rw [ee]
    have ho2:0≤v.out∧v.out+65536 < 18446744073709551616:=⟨hv.out.1,by omega⟩
    obtain ⟨sn,hsn⟩:∃ sn,sn=(sentP v.sp now (skFl v)).1:=⟨_,rfl⟩
    refine w_deref (w_call (rssent_tri b m0 c0 v s mb now (skFl v)) h fun r w h=>?_)
    obtain ⟨hr,h⟩:=h.purP;rw [hr,← hsn]
    have h:Own w0 S R w (blk b (rL m0 c0 (eV (touchS v now) v.bd.2) s mb)^arr s K_u6b3 v.bd.1^blk n1 zS^blk n4 (Ks.mk KR (lostF v.bd.1).1)^(blk mb [.int .u64 u.m.mss,.ptr (some ⟨nw,0⟩),.int .u64 u.m.r.n,.int .u64 u.m.r.nx,.int .u64 u.m.p.best,.int .i64 u.m.p.n,.bool u.m.p.full,.int .i64 u.m.c.ph,.int .u64 u.m.c.at',.int .u64 u.m.b.best,.int .u64 u.m.b.at',.bool u.m.b.on,.bool u.set,.bool u.m.b.rd,.int .u64 u.till,.bool u.m.q.use,.bool u.m.q.mea,.int .u64 u.m.q.bw,.int .i64 u.m.q.n,.int .u64 u.m.q.lost,.int .u64 u.m.q.t0,.int .u64 u.m.q.d0,.int .u64 u.m.q.l0,.int .i64 u.m.mode,.int .u64 u.m.rate,.int .u64 u.m.win,.int .u64 u.g,.bool u.m.rec',.bool u.m.first,.int .u64 u.m.til,.int .u64 u.m.sav]^blk nw [.int .u64 u.m.w.w,.int .u64 u.m.w.t0,.int .u64 u.m.w.t1,.int .u64 u.m.w.t2,.int .u64 u.m.w.v0,.int .u64 u.m.w.v1,.int .u64 u.m.w.v2,.int .u64 u.m.w.la,.bool false])^emp):=h.fin
    have h:=h.mkBdo b m0 c0 (touchS v now) mb s v.bd.1 v.bd.2
    refine w_new h fun n42 w h=>w_setAll h (by rfl) fun w h=>?_
    have fin:∀ (V:Sk) (rg:Int × Int) (ag:Bool),goS v now=putS V rg ag now→V.md=v.md→V.nx=v.nx→V.out=v.out→(0≤rg.2 - rg.1∧rg.2 - rg.1≤65536)→∀ {w:World},Own w0 S R w (blk n1 zS^blk n4 [.int .u64 rg.1,.int .u64 rg.2]^bdo b m0 c0 V mb V.bd^(blk mb [.int .u64 u.m.mss,.ptr (some ⟨nw,0⟩),.int .u64 u.m.r.n,.int .u64 u.m.r.nx,.int .u64 u.m.p.best,.int .i64 u.m.p.n,.bool u.m.p.full,.int .i64 u.m.c.ph,.int .u64 u.m.c.at',.int .u64 u.m.b.best,.int .u64 u.m.b.at',.bool u.m.b.on,.bool u.set,.bool u.m.b.rd,.int .u64 u.till,.bool u.m.q.use,.bool u.m.q.mea,.int .u64 u.m.q.bw,.int .i64 u.m.q.n,.int .u64 u.m.q.lost,.int .u64 u.m.q.t0,.int .u64 u.m.q.d0,.int .u64 u.m.q.l0,.int .i64 u.m.mode,.int .u64 u.m.rate,.int .u64 u.m.win,.int .u64 u.g,.bool u.m.rec',.bool u.m.first,.int .u64 u.m.til,.int .u64 u.m.sav]^blk nw [.int .u64 u.m.w.w,.int .u64 u.m.w.t0,.int .u64 u.m.w.t1,.int .u64 u.m.w.t2,.int .u64 u.m.w.v0,.int .u64 u.m.w.v1,.int .u64 u.m.w.v2,.int .u64 u.m.w.la,.bool false])^emp)→rfinE b n1 n4 now ag (fun (r:Ks.T KS × Int) w=>Own w0 S R w (pur (r=((goS v now).1,0)) (rsk b m0 c0 (goS v now).2))) w:=by
     intro V rg ag hg e1 e2 e3 hrg w h
     rw [hg]
     refine w_rfin (G:=emp) (mb:=mb) (nw:=nw) (m0:=m0) (c0:=c0) (v:=V) (u:=u) (x:=rg.1) (y:=rg.2) (by rw [e1];exact hu1) (by rw [e1];exact hv.md) hn (by rw [e2];exact hv.nx) hrg (by rw [e3];exact ho2) h fun w h=>?_
     have h:Own w0 S R w (bdo b m0 c0 (putS V rg ag now).2 mb (putS V rg ag now).2.bd^(blk mb [.int .u64 u.m.mss,.ptr (some ⟨nw,0⟩),.int .u64 u.m.r.n,.int .u64 u.m.r.nx,.int .u64 u.m.p.best,.int .i64 u.m.p.n,.bool u.m.p.full,.int .i64 u.m.c.ph,.int .u64 u.m.c.at',.int .u64 u.m.b.best,.int .u64 u.m.b.at',.bool u.m.b.on,.bool u.set,.bool u.m.b.rd,.int .u64 u.till,.bool u.m.q.use,.bool u.m.q.mea,.int .u64 u.m.q.bw,.int .i64 u.m.q.n,.int .u64 u.m.q.lost,.int .u64 u.m.q.t0,.int .u64 u.m.q.d0,.int .u64 u.m.q.l0,.int .i64 u.m.mode,.int .u64 u.m.rate,.int .u64 u.m.win,.int .u64 u.g,.bool u.m.rec',.bool u.m.first,.int .u64 u.m.til,.int .u64 u.m.sav]^blk nw [.int .u64 u.m.w.w,.int .u64 u.m.w.t0,.int .u64 u.m.w.t1,.int .u64 u.m.w.t2,.int .u64 u.m.w.v0,.int .u64 u.m.w.v1,.int .u64 u.m.w.v2,.int .u64 u.m.w.la,.bool false])^emp):=h
     exact Own.retP rfl (h.mkRsk b m0 c0 (putS V rg ag now).2 mb nw u ⟨by rw [show (putS V rg ag now).2.md=V.md from rfl,e1];exact hu1,hu2,by rw [show (putS V rg ag now).2.md=V.md from rfl,e1];exact hu3⟩).keep
    cases hl:(lostF v.bd.1).2 with
    | true =>
     have hg:goS v now=putS { touchS v now with bd:=(againF v.bd.1 sn,v.bd.2) } (lostF v.bd.1).1 true now:=by unfold goS;rw [if_pos hl,hsn]
     refine w_join h (fun _=>blk n1 zS^blk n4 [.int .u64 (lostF v.bd.1).1.1,.int .u64 (lostF v.bd.1).1.2]^bdo b m0 c0 { touchS v now with bd:=(againF v.bd.1 sn,v.bd.2) } mb (againF v.bd.1 sn,v.bd.2)^(blk mb [.int .u64 u.m.mss,.ptr (some ⟨nw,0⟩),.int .u64 u.m.r.n,.int .u64 u.m.r.nx,.int .u64 u.m.p.best,.int .i64 u.m.p.n,.bool u.m.p.full,.int .i64 u.m.c.ph,.int .u64 u.m.c.at',.int .u64 u.m.b.best,.int .u64 u.m.b.at',.bool u.m.b.on,.bool u.set,.bool u.m.b.rd,.int .u64 u.till,.bool u.m.q.use,.bool u.m.q.mea,.int .u64 u.m.q.bw,.int .i64 u.m.q.n,.int .u64 u.m.q.lost,.int .u64 u.m.q.t0,.int .u64 u.m.q.d0,.int .u64 u.m.q.l0,.int .i64 u.m.mode,.int .u64 u.m.rate,.int .u64 u.m.win,.int .u64 u.g,.bool u.m.rec',.bool u.m.first,.int .u64 u.m.til,.int .u64 u.m.sav]^blk nw [.int .u64 u.m.w.w,.int .u64 u.m.w.t0,.int .u64 u.m.w.t1,.int .u64 u.m.w.t2,.int .u64 u.m.w.v0,.int .u64 u.m.w.v1,.int .u64 u.m.w.v2,.int .u64 u.m.w.la,.bool false])^emp) (fun _=>True) (fun _ w _ h=>?_) ?_
     ·exact fin { touchS v now with bd:=(againF v.bd.1 sn,v.bd.2) } (lostF v.bd.1).1 true hg rfl rfl rfl (hL hl) h
     ·refine w_ite (fun _=>?_) fun c=>by cases c
      refine w_drw h fun w h=>w_ldAll (b:=n42) (x:=sn) h rfl (w_deref (w_call (r_Again_tri b m0 c0 (touchS v now) mb sn v.bd hbl) h fun r w h=>?_))
      obtain ⟨_,h⟩:=h.purP
      obtain ⟨s,h⟩:=h.bdo (m0:=m0) (c0:=c0) (u:=touchS v now) (mq:=mb) (v:=(againF v.bd.1 sn,v.bd.2)) b
      have h:Own w0 S R w (blk b (rL m0 c0 (eV (touchS v now) v.bd.2) s mb)^arr s K_u6b3 (againF v.bd.1 sn)^blk n1 zS^blk n4 (Ks.mk KR (lostF v.bd.1).1)^(blk mb [.int .u64 u.m.mss,.ptr (some ⟨nw,0⟩),.int .u64 u.m.r.n,.int .u64 u.m.r.nx,.int .u64 u.m.p.best,.int .i64 u.m.p.n,.bool u.m.p.full,.int .i64 u.m.c.ph,.int .u64 u.m.c.at',.int .u64 u.m.b.best,.int .u64 u.m.b.at',.bool u.m.b.on,.bool u.set,.bool u.m.b.rd,.int .u64 u.till,.bool u.m.q.use,.bool u.m.q.mea,.int .u64 u.m.q.bw,.int .i64 u.m.q.n,.int .u64 u.m.q.lost,.int .u64 u.m.q.t0,.int .u64 u.m.q.d0,.int .u64 u.m.q.l0,.int .i64 u.m.mode,.int .u64 u.m.rate,.int .u64 u.m.win,.int .u64 u.g,.bool u.m.rec',.bool u.m.first,.int .u64 u.m.til,.int .u64 u.m.sav]^blk nw [.int .u64 u.m.w.w,.int .u64 u.m.w.t0,.int .u64 u.m.w.t1,.int .u64 u.m.w.t2,.int .u64 u.m.w.v0,.int .u64 u.m.w.v1,.int .u64 u.m.w.v2,.int .u64 u.m.w.la,.bool false])^emp):=h.fin
      have h:Own w0 S R w (blk b (rL m0 c0 (eV { touchS v now with bd:=(againF v.bd.1 sn,v.bd.2) } v.bd.2) s mb)^arr s K_u6b3 (againF v.bd.1 sn)^blk n1 zS^blk n4 [.int .u64 (lostF v.bd.1).1.1,.int .u64 (lostF v.bd.1).1.2]^(blk mb [.int .u64 u.m.mss,.ptr (some ⟨nw,0⟩),.int .u64 u.m.r.n,.int .u64 u.m.r.nx,.int .u64 u.m.p.best,.int .i64 u.m.p.n,.bool u.m.p.full,.int .i64 u.m.c.ph,.int .u64 u.m.c.at',.int .u64 u.m.b.best,.int .u64 u.m.b.at',.bool u.m.b.on,.bool u.set,.bool u.m.b.rd,.int .u64 u.till,.bool u.m.q.use,.bool u.m.q.mea,.int .u64 u.m.q.bw,.int .i64 u.m.q.n,.int .u64 u.m.q.lost,.int .u64 u.m.q.t0,.int .u64 u.m.q.d0,.int .u64 u.m.q.l0,.int .i64 u.m.mode,.int .u64 u.m.rate,.int .u64 u.m.win,.int .u64 u.g,.bool u.m.rec',.bool u.m.first,.int .u64 u.m.til,.int .u64 u.m.sav]^blk nw [.int .u64 u.m.w.w,.int .u64 u.m.w.t0,.int .u64 u.m.w.t1,.int .u64 u.m.w.t2,.int .u64 u.m.w.v0,.int .u64 u.m.w.v1,.int .u64 u.m.w.v2,.int .u64 u.m.w.la,.bool false])^emp):=h
      exact ⟨trivial,(h.mkBdo b m0 c0 { touchS v now with bd:=(againF v.bd.1 sn,v.bd.2) } mb s (againF v.bd.1 sn) v.bd.2).fin⟩
    | false =>
     obtain ⟨T,hT⟩:∃ T,T=tkF v.bf (skTso v):=⟨_,rfl⟩
     have hg:goS v now=putS { touchS v now with bf:=T.2,bd:=(sentF v.bd T.1.1.1 T.1.1.2 sn).2 } T.1.1 false now:=by unfold goS;rw [if_neg (by rw [hl];intro c;cases c),hsn,hT]
     refine w_join h (fun _=>blk n1 zS^blk n4 [.int .u64 T.1.1.1,.int .u64 T.1.1.2]^bdo b m0 c0 { touchS v now with bf:=T.2,bd:=(sentF v.bd T.1.1.1 T.1.1.2 sn).2 } mb (sentF v.bd T.1.1.1 T.1.1.2 sn).2^(blk mb [.int .u64 u.m.mss,.ptr (some ⟨nw,0⟩),.int .u64 u.m.r.n,.int .u64 u.m.r.nx,.int .u64 u.m.p.best,.int .i64 u.m.p.n,.bool u.m.p.full,.int .i64 u.m.c.ph,.int .u64 u.m.c.at',.int .u64 u.m.b.best,.int .u64 u.m.b.at',.bool u.m.b.on,.bool u.set,.bool u.m.b.rd,.int .u64 u.till,.bool u.m.q.use,.bool u.m.q.mea,.int .u64 u.m.q.bw,.int .i64 u.m.q.n,.int .u64 u.m.q.lost,.int .u64 u.m.q.t0,.int .u64 u.m.q.d0,.int .u64 u.m.q.l0,.int .i64 u.m.mode,.int .u64 u.m.rate,.int .u64 u.m.win,.int .u64 u.g,.bool u.m.rec',.bool u.m.first,.int .u64 u.m.til,.int .u64 u.m.sav]^blk nw [.int .u64 u.m.w.w,.int .u64 u.m.w.t0,.int .u64 u.m.w.t1,.int .u64 u.m.w.t2,.int .u64 u.m.w.v0,.int .u64 u.m.w.v1,.int .u64 u.m.w.v2,.int .u64 u.m.w.la,.bool false])^emp) (fun _=>True) (fun _ w _ h=>?_) ?_
     ·exact fin { touchS v now with bf:=T.2,bd:=(sentF v.bd T.1.1.1 T.1.1.2 sn).2 } T.1.1 false hg rfl rfl rfl (by rw [hT];exact tk_range hv.bf hts.2) h
     ·refine w_ite (fun c=>by cases c) fun _=>?_
      obtain ⟨s,h⟩:=h.bdo (m0:=m0) (c0:=c0) (u:=touchS v now) (mq:=mb) (v:=v.bd) b
      have h:Own w0 S R w (blk b (rL m0 c0 (touchS v now) s mb)^arr s K_u6b3 v.bd.1^blk n42 (Ks.mk K_u4b sn)^blk n1 zS^blk n4 (Ks.mk KR (lostF v.bd.1).1)^(blk mb [.int .u64 u.m.mss,.ptr (some ⟨nw,0⟩),.int .u64 u.m.r.n,.int .u64 u.m.r.nx,.int .u64 u.m.p.best,.int .i64 u.m.p.n,.bool u.m.p.full,.int .i64 u.m.c.ph,.int .u64 u.m.c.at',.int .u64 u.m.b.best,.int .u64 u.m.b.at',.bool u.m.b.on,.bool u.set,.bool u.m.b.rd,.int .u64 u.till,.bool u.m.q.use,.bool u.m.q.mea,.int .u64 u.m.q.bw,.int .i64 u.m.q.n,.int .u64 u.m.q.lost,.int .u64 u.m.q.t0,.int .u64 u.m.q.d0,.int .u64 u.m.q.l0,.int .i64 u.m.mode,.int .u64 u.m.rate,.int .u64 u.m.win,.int .u64 u.g,.bool u.m.rec',.bool u.m.first,.int .u64 u.m.til,.int .u64 u.m.sav]^blk nw [.int .u64 u.m.w.w,.int .u64 u.m.w.t0,.int .u64 u.m.w.t1,.int .u64 u.m.w.t2,.int .u64 u.m.w.v0,.int .u64 u.m.w.v1,.int .u64 u.m.w.v2,.int .u64 u.m.w.la,.bool false])^emp):=h.fin
      refine w_drw h fun w h=>w_deref (w_call (rtso_tri b mb nw m0 c0 (touchS v now) s u hu1 hv.md.rate hm) h fun r w h=>?_)
      obtain ⟨hr,h⟩:=h.purP;rw [hr]
      refine w_call (rtake_tri b m0 c0 (touchS v now) s mb (skTso v) hv.bf (by unfold skTso;omega)) h fun r w h=>?_
      obtain ⟨hr,h⟩:=h.purP
      have hr:r=T.1:=by rw [hr,hT]
      rw [hr]
      refine w_setAll h (by rfl) fun w h=>w_drw h fun w h=>w_ldAll (b:=n42) (x:=sn) h rfl (w_deref (w_ld (x:=T.1.1.1) h rfl (w_ld (x:=T.1.1.2) h rfl ?_)))
      have h:Own w0 S R w (blk n4 (Ks.mk KR T.1.1)^blk b (rL m0 c0 { touchS v now with bf:=(tkF (touchS v now).bf (skTso v)).2 } s mb)^arr s K_u6b3 v.bd.1^blk n1 zS^(blk mb [.int .u64 u.m.mss,.ptr (some ⟨nw,0⟩),.int .u64 u.m.r.n,.int .u64 u.m.r.nx,.int .u64 u.m.p.best,.int .i64 u.m.p.n,.bool u.m.p.full,.int .i64 u.m.c.ph,.int .u64 u.m.c.at',.int .u64 u.m.b.best,.int .u64 u.m.b.at',.bool u.m.b.on,.bool u.set,.bool u.m.b.rd,.int .u64 u.till,.bool u.m.q.use,.bool u.m.q.mea,.int .u64 u.m.q.bw,.int .i64 u.m.q.n,.int .u64 u.m.q.lost,.int .u64 u.m.q.t0,.int .u64 u.m.q.d0,.int .u64 u.m.q.l0,.int .i64 u.m.mode,.int .u64 u.m.rate,.int .u64 u.m.win,.int .u64 u.g,.bool u.m.rec',.bool u.m.first,.int .u64 u.m.til,.int .u64 u.m.sav]^blk nw [.int .u64 u.m.w.w,.int .u64 u.m.w.t0,.int .u64 u.m.w.t1,.int .u64 u.m.w.t2,.int .u64 u.m.w.v0,.int .u64 u.m.w.v1,.int .u64 u.m.w.v2,.int .u64 u.m.w.la,.bool false])^emp):=h.fin
      have h:Own w0 S R w (blk n4 [.int .u64 T.1.1.1,.int .u64 T.1.1.2]^blk b (rL m0 c0 (eV { touchS v now with bf:=(tkF v.bf (skTso v)).2 } v.bd.2) s mb)^arr s K_u6b3 v.bd.1^blk n1 zS^(blk mb [.int .u64 u.m.mss,.ptr (some ⟨nw,0⟩),.int .u64 u.m.r.n,.int .u64 u.m.r.nx,.int .u64 u.m.p.best,.int .i64 u.m.p.n,.bool u.m.p.full,.int .i64 u.m.c.ph,.int .u64 u.m.c.at',.int .u64 u.m.b.best,.int .u64 u.m.b.at',.bool u.m.b.on,.bool u.set,.bool u.m.b.rd,.int .u64 u.till,.bool u.m.q.use,.bool u.m.q.mea,.int .u64 u.m.q.bw,.int .i64 u.m.q.n,.int .u64 u.m.q.lost,.int .u64 u.m.q.t0,.int .u64 u.m.q.d0,.int .u64 u.m.q.l0,.int .i64 u.m.mode,.int .u64 u.m.rate,.int .u64 u.m.win,.int .u64 u.g,.bool u.m.rec',.bool u.m.first,.int .u64 u.m.til,.int .u64 u.m.sav]^blk nw [.int .u64 u.m.w.w,.int .u64 u.m.w.t0,.int .u64 u.m.w.t1,.int .u64 u.m.w.t2,.int .u64 u.m.w.v0,.int .u64 u.m.w.v1,.int .u64 u.m.w.v2,.int .u64 u.m.w.la,.bool false])^emp):=h
      rw [← hT] at h
      have h:=h.mkBdo b m0 c0 { touchS v now with bf:=T.2 } mb s v.bd.1 v.bd.2
      refine w_call (r_sent_tri b m0 c0 { touchS v now with bf:=T.2 } mb T.1.1.1 T.1.1.2 sn v.bd) h fun r w h=>?_
      obtain ⟨_,h⟩:=h.purP
      obtain ⟨s,h⟩:=h.bdo (m0:=m0) (c0:=c0) (u:={ touchS v now with bf:=T.2 }) (mq:=mb) (v:=(sentF v.bd T.1.1.1 T.1.1.2 sn).2) b
      have h:Own w0 S R w (blk b (rL m0 c0 (eV { touchS v now with bf:=T.2,bd:=(sentF v.bd T.1.1.1 T.1.1.2 sn).2 } (sentF v.bd T.1.1.1 T.1.1.2 sn).2.2) s mb)^arr s K_u6b3 (sentF v.bd T.1.1.1 T.1.1.2 sn).2.1^blk n1 zS^blk n4 [.int .u64 T.1.1.1,.int .u64 T.1.1.2]^(blk mb [.int .u64 u.m.mss,.ptr (some ⟨nw,0⟩),.int .u64 u.m.r.n,.int .u64 u.m.r.nx,.int .u64 u.m.p.best,.int .i64 u.m.p.n,.bool u.m.p.full,.int .i64 u.m.c.ph,.int .u64 u.m.c.at',.int .u64 u.m.b.best,.int .u64 u.m.b.at',.bool u.m.b.on,.bool u.set,.bool u.m.b.rd,.int .u64 u.till,.bool u.m.q.use,.bool u.m.q.mea,.int .u64 u.m.q.bw,.int .i64 u.m.q.n,.int .u64 u.m.q.lost,.int .u64 u.m.q.t0,.int .u64 u.m.q.d0,.int .u64 u.m.q.l0,.int .i64 u.m.mode,.int .u64 u.m.rate,.int .u64 u.m.win,.int .u64 u.g,.bool u.m.rec',.bool u.m.first,.int .u64 u.m.til,.int .u64 u.m.sav]^blk nw [.int .u64 u.m.w.w,.int .u64 u.m.w.t0,.int .u64 u.m.w.t1,.int .u64 u.m.w.t2,.int .u64 u.m.w.v0,.int .u64 u.m.w.v1,.int .u64 u.m.w.v2,.int .u64 u.m.w.la,.bool false])^emp):=h.fin
      exact ⟨trivial,(h.mkBdo b m0 c0 { touchS v now with bf:=T.2,bd:=(sentF v.bd T.1.1.1 T.1.1.2 sn).2 } mb s (sentF v.bd T.1.1.1 T.1.1.2 sn).2.1 (sentF v.bd T.1.1.1 T.1.1.2 sn).2.2).fin⟩
end RsI

namespace RsJ
open Arith ArithC Delays Board BbrM BbrMm BbrX BbrZ SockA SockB SockM SockC SockD SockE SockF SockG SockH SockJ SockK SockL SockO SockV SockW RsA RsB RsC RsD RsE RsF RsH RsI
theorem mss_w (m:Int) (hm:m < 9223372036854775808):mMss (IntKind.u64.wrap (if m > (0:Int) then m else (0:Int)))=mMss (clampM m):=by
 have h:IntKind.u64.wrap (if m > (0:Int) then m else (0:Int))=(if m > (0:Int) then m else (0:Int)):=wu (by split<;>omega) (by split<;>omega)
 rw [h]
 unfold mMss clampM
 (repeat' split)<;>omega
theorem rsnew_tri (id:Int) (c:Ks.T KCf) (hc:c.2.2.2.2.2.2.2.2 < 9223372036854775808):Tri Tryz.prog N_canterref20_NewSock [.lf (.int .i64 id),.agg (Ks.mk KCf c)] [.lf .ptr] emp (fun r=>ex fun p:Nat=>pur (r=some ⟨p,0⟩) (rsk p c.2.2.2.2.2.2.2.2 c.2.2.2.2.2.2.2.1 (newS id c.2.2.2.2.2.2.2.2 c.2.2.2.2.2.2.2.1))) :=
 tri_0 (call_canterref20_NewSock id c) fun w0 S R h=>by
  unfold W_canterref20_NewSock
  obtain ⟨m,hm⟩:∃ m:Int,m=c.2.2.2.2.2.2.2.2:=⟨_,rfl⟩
  obtain ⟨k,hk⟩:∃ k:Int,k=c.2.2.2.2.2.2.2.1:=⟨_,rfl⟩
  rw [← hm] at hc
  refine w_new h fun n1 w h=>w_drw h fun w h=>w_ld (x:=m) h (by rw [hm];rfl) (w_ld (x:=k) h (by rw [hk];rfl) (w_ld (x:=m) h (by rw [hm];rfl) ?_))
  refine w_call (rnew_tri (IntKind.u64.wrap (if m > (0:Int) then m else (0:Int)))) (h.le ((star_emp _).trans (star_comm _ _))) fun r w h=>?_
  obtain ⟨⟨mb,nw⟩,h⟩:=h.exP
  dsimp only at h
  obtain ⟨hr,h⟩:=h.purP;rw [hr]
  rw [mss_w m hc] at h
  obtain ⟨u,hu⟩:∃ u:Rm,u=Rm.mk (mNew (clampM m)) false 0 739:=⟨_,rfl⟩
  have h:Own w0 S R w ((blk mb [.int .u64 u.m.mss,.ptr (some ⟨nw,0⟩),.int .u64 u.m.r.n,.int .u64 u.m.r.nx,.int .u64 u.m.p.best,.int .i64 u.m.p.n,.bool u.m.p.full,.int .i64 u.m.c.ph,.int .u64 u.m.c.at',.int .u64 u.m.b.best,.int .u64 u.m.b.at',.bool u.m.b.on,.bool u.set,.bool u.m.b.rd,.int .u64 u.till,.bool u.m.q.use,.bool u.m.q.mea,.int .u64 u.m.q.bw,.int .i64 u.m.q.n,.int .u64 u.m.q.lost,.int .u64 u.m.q.t0,.int .u64 u.m.q.d0,.int .u64 u.m.q.l0,.int .i64 u.m.mode,.int .u64 u.m.rate,.int .u64 u.m.win,.int .u64 u.g,.bool u.m.rec',.bool u.m.first,.int .u64 u.m.til,.int .u64 u.m.sav]^blk nw [.int .u64 u.m.w.w,.int .u64 u.m.w.t0,.int .u64 u.m.w.t1,.int .u64 u.m.w.t2,.int .u64 u.m.w.v0,.int .u64 u.m.w.v1,.int .u64 u.m.w.v2,.int .u64 u.m.w.la,.bool false])^blk n1 (Ks.mk KCf c)^emp):=by rw [hu];exact h.fin
  refine w_chk h (by rw [hk];rfl) (w_chk h (by rw [hm];rfl) (w_new h fun n6 w h=>?_))
  have h:=h.nil K_u6b3
  have h:Own w0 S R w (blk n6 (rL m k (eV (newS id m k) 0) ⟨none,0,0⟩ mb)^arr ⟨none,0,0⟩ K_u6b3 []^(blk mb [.int .u64 u.m.mss,.ptr (some ⟨nw,0⟩),.int .u64 u.m.r.n,.int .u64 u.m.r.nx,.int .u64 u.m.p.best,.int .i64 u.m.p.n,.bool u.m.p.full,.int .i64 u.m.c.ph,.int .u64 u.m.c.at',.int .u64 u.m.b.best,.int .u64 u.m.b.at',.bool u.m.b.on,.bool u.set,.bool u.m.b.rd,.int .u64 u.till,.bool u.m.q.use,.bool u.m.q.mea,.int .u64 u.m.q.bw,.int .i64 u.m.q.n,.int .u64 u.m.q.lost,.int .u64 u.m.q.t0,.int .u64 u.m.q.d0,.int .u64 u.m.q.l0,.int .i64 u.m.mode,.int .u64 u.m.rate,.int .u64 u.m.win,.int .u64 u.g,.bool u.m.rec',.bool u.m.first,.int .u64 u.m.til,.int .u64 u.m.sav]^blk nw [.int .u64 u.m.w.w,.int .u64 u.m.w.t0,.int .u64 u.m.w.t1,.int .u64 u.m.w.t2,.int .u64 u.m.w.v0,.int .u64 u.m.w.v1,.int .u64 u.m.w.v2,.int .u64 u.m.w.la,.bool false])^emp):=by
   have h:Own w0 S R w (blk n6 [.int .i64 id,.int .i64 m,.int .i64 k,.int .i64 (1073741824:Int),.int .u64 (0:Int),.int .u64 (0:Int),.int .u64 (0:Int),.sl ⟨none,0,0⟩,.int .u64 (0:Int),.int .u64 (0:Int),.int .u64 (0:Int),.int .u64 (0:Int),.int .u64 (0:Int),.bool false,.int .u64 (0:Int),.int .u64 (0:Int),.int .u64 (0:Int),.int .u64 (0:Int),.int .u64 (0:Int),.bool false,.ptr (some ⟨mb,0⟩),.int .u64 (0:Int),.int .u64 (0:Int)]^arr ⟨none,0,0⟩ K_u6b3 []^(blk mb [.int .u64 u.m.mss,.ptr (some ⟨nw,0⟩),.int .u64 u.m.r.n,.int .u64 u.m.r.nx,.int .u64 u.m.p.best,.int .i64 u.m.p.n,.bool u.m.p.full,.int .i64 u.m.c.ph,.int .u64 u.m.c.at',.int .u64 u.m.b.best,.int .u64 u.m.b.at',.bool u.m.b.on,.bool u.set,.bool u.m.b.rd,.int .u64 u.till,.bool u.m.q.use,.bool u.m.q.mea,.int .u64 u.m.q.bw,.int .i64 u.m.q.n,.int .u64 u.m.q.lost,.int .u64 u.m.q.t0,.int .u64 u.m.q.d0,.int .u64 u.m.q.l0,.int .i64 u.m.mode,.int .u64 u.m.rate,.int .u64 u.m.win,.int .u64 u.g,.bool u.m.rec',.bool u.m.first,.int .u64 u.m.til,.int .u64 u.m.sav]^blk nw [.int .u64 u.m.w.w,.int .u64 u.m.w.t0,.int .u64 u.m.w.t1,.int .u64 u.m.w.t2,.int .u64 u.m.w.v0,.int .u64 u.m.w.v1,.int .u64 u.m.w.v2,.int .u64 u.m.w.la,.bool false])^emp):=h.fin
   exact h
  have h:=h.mkBdo n6 m k (newS id m k) mb ⟨none,0,0⟩ [] 0
  have h:Own w0 S R w (bdo n6 m k (newS id m k) mb (newS id m k).bd^(blk mb [.int .u64 u.m.mss,.ptr (some ⟨nw,0⟩),.int .u64 u.m.r.n,.int .u64 u.m.r.nx,.int .u64 u.m.p.best,.int .i64 u.m.p.n,.bool u.m.p.full,.int .i64 u.m.c.ph,.int .u64 u.m.c.at',.int .u64 u.m.b.best,.int .u64 u.m.b.at',.bool u.m.b.on,.bool u.set,.bool u.m.b.rd,.int .u64 u.till,.bool u.m.q.use,.bool u.m.q.mea,.int .u64 u.m.q.bw,.int .i64 u.m.q.n,.int .u64 u.m.q.lost,.int .u64 u.m.q.t0,.int .u64 u.m.q.d0,.int .u64 u.m.q.l0,.int .i64 u.m.mode,.int .u64 u.m.rate,.int .u64 u.m.win,.int .u64 u.g,.bool u.m.rec',.bool u.m.first,.int .u64 u.m.til,.int .u64 u.m.sav]^blk nw [.int .u64 u.m.w.w,.int .u64 u.m.w.t0,.int .u64 u.m.w.t1,.int .u64 u.m.w.t2,.int .u64 u.m.w.v0,.int .u64 u.m.w.v1,.int .u64 u.m.w.v2,.int .u64 u.m.w.la,.bool false])^emp):=h
  rw [← hm,← hk]
  exact Own.retE n6 (Own.retP rfl (h.mkRsk n6 m k (newS id m k) mb nw u (by rw [hu];exact ⟨rfl,(fun hh=>by cases hh),rfl⟩)).keep)
theorem tri_call {P:Program} {f:FuncId} {args:List V1} {rs:List Sh} {Pre:SP} {Post:Rs.T rs→SP} (H:∀ w S R,Own w S R w Pre→call P f args rs (fun x w'=>Own w S R w' (Post x)) w):Tri P f args rs Pre Post :=
 fun w S R hp=>CallX.mono (H w S R (own_start hp)) fun v w' ⟨x,hv,_,ho⟩=>⟨x,hv,ho⟩
theorem rwr_tri (b:Nat) (m0 c0:Int) (v:Sk) (hb:OkBf v.bf) (hl:bL v.bf=1073741824) (hw:bW v.bf≤1152921504606846976) (n:Int) (hn:n < 9223372036854775808):Tri Tryz.prog N_canterref04_Buffer_Write [.lf (.ptr (some ⟨b,3⟩)),.lf (.int .i64 n)] [.lf (.int .i64)] (rsk b m0 c0 v) (fun r=>pur (r=(writeS v n).1) (rsk b m0 c0 (writeS v n).2)) :=
 tri_call fun w0 S R h=>by
  obtain ⟨mb,nw,u,hu,h⟩:=(h.le (star_emp _)).rsk b (m0:=m0) (c0:=c0) (v:=v)
  obtain ⟨s,h⟩:=h.bdo (m0:=m0) (c0:=c0) (u:=v) (mq:=mb) (v:=v.bd) b
  have h:Own w0 S R w0 (blk b (rL m0 c0 v s mb)^arr s K_u6b3 v.bd.1^(blk mb [.int .u64 u.m.mss,.ptr (some ⟨nw,0⟩),.int .u64 u.m.r.n,.int .u64 u.m.r.nx,.int .u64 u.m.p.best,.int .i64 u.m.p.n,.bool u.m.p.full,.int .i64 u.m.c.ph,.int .u64 u.m.c.at',.int .u64 u.m.b.best,.int .u64 u.m.b.at',.bool u.m.b.on,.bool u.set,.bool u.m.b.rd,.int .u64 u.till,.bool u.m.q.use,.bool u.m.q.mea,.int .u64 u.m.q.bw,.int .i64 u.m.q.n,.int .u64 u.m.q.lost,.int .u64 u.m.q.t0,.int .u64 u.m.q.d0,.int .u64 u.m.q.l0,.int .i64 u.m.mode,.int .u64 u.m.rate,.int .u64 u.m.win,.int .u64 u.g,.bool u.m.rec',.bool u.m.first,.int .u64 u.m.til,.int .u64 u.m.sav]^blk nw [.int .u64 u.m.w.w,.int .u64 u.m.w.t0,.int .u64 u.m.w.t1,.int .u64 u.m.w.t2,.int .u64 u.m.w.v0,.int .u64 u.m.w.v1,.int .u64 u.m.w.v2,.int .u64 u.m.w.la,.bool false])^emp):=h
  refine w_call (rwrite_tri b m0 c0 v s mb n hb hl hw hn) h fun r w h=>?_
  obtain ⟨hr,h⟩:=h.purP
  have h:Own w0 S R w (blk b (rL m0 c0 (eV (writeS v n).2 v.bd.2) s mb)^arr s K_u6b3 v.bd.1^(blk mb [.int .u64 u.m.mss,.ptr (some ⟨nw,0⟩),.int .u64 u.m.r.n,.int .u64 u.m.r.nx,.int .u64 u.m.p.best,.int .i64 u.m.p.n,.bool u.m.p.full,.int .i64 u.m.c.ph,.int .u64 u.m.c.at',.int .u64 u.m.b.best,.int .u64 u.m.b.at',.bool u.m.b.on,.bool u.set,.bool u.m.b.rd,.int .u64 u.till,.bool u.m.q.use,.bool u.m.q.mea,.int .u64 u.m.q.bw,.int .i64 u.m.q.n,.int .u64 u.m.q.lost,.int .u64 u.m.q.t0,.int .u64 u.m.q.d0,.int .u64 u.m.q.l0,.int .i64 u.m.mode,.int .u64 u.m.rate,.int .u64 u.m.win,.int .u64 u.g,.bool u.m.rec',.bool u.m.first,.int .u64 u.m.til,.int .u64 u.m.sav]^blk nw [.int .u64 u.m.w.w,.int .u64 u.m.w.t0,.int .u64 u.m.w.t1,.int .u64 u.m.w.t2,.int .u64 u.m.w.v0,.int .u64 u.m.w.v1,.int .u64 u.m.w.v2,.int .u64 u.m.w.la,.bool false])^emp):=h
  have h:=h.mkBdo b m0 c0 (writeS v n).2 mb s v.bd.1 v.bd.2
  have h:Own w0 S R w (bdo b m0 c0 (writeS v n).2 mb (writeS v n).2.bd^(blk mb [.int .u64 u.m.mss,.ptr (some ⟨nw,0⟩),.int .u64 u.m.r.n,.int .u64 u.m.r.nx,.int .u64 u.m.p.best,.int .i64 u.m.p.n,.bool u.m.p.full,.int .i64 u.m.c.ph,.int .u64 u.m.c.at',.int .u64 u.m.b.best,.int .u64 u.m.b.at',.bool u.m.b.on,.bool u.set,.bool u.m.b.rd,.int .u64 u.till,.bool u.m.q.use,.bool u.m.q.mea,.int .u64 u.m.q.bw,.int .i64 u.m.q.n,.int .u64 u.m.q.lost,.int .u64 u.m.q.t0,.int .u64 u.m.q.d0,.int .u64 u.m.q.l0,.int .i64 u.m.mode,.int .u64 u.m.rate,.int .u64 u.m.win,.int .u64 u.g,.bool u.m.rec',.bool u.m.first,.int .u64 u.m.til,.int .u64 u.m.sav]^blk nw [.int .u64 u.m.w.w,.int .u64 u.m.w.t0,.int .u64 u.m.w.t1,.int .u64 u.m.w.t2,.int .u64 u.m.w.v0,.int .u64 u.m.w.v1,.int .u64 u.m.w.v2,.int .u64 u.m.w.la,.bool false])^emp):=h
  exact Own.retP hr (h.mkRsk b m0 c0 (writeS v n).2 mb nw u hu).keep
theorem done_keep (v:Sk) (n:Int):(doneS v n).2.md=v.md∧(doneS v n).2.bd=v.bd:=by unfold doneS;split<;>exact ⟨rfl,rfl⟩
theorem rdn_tri (b:Nat) (m0 c0:Int) (v:Sk) (ho:0≤v.out∧v.out < 9223372036854775808) (n:Int) (hn:n < 9223372036854775808):Tri Tryz.prog N_canterref20_Sock_Done [.lf (.ptr (some ⟨b,0⟩)),.lf (.int .i64 n)] [.lf (.int .i64)] (rsk b m0 c0 v) (fun r=>pur (r=(doneS v n).1) (rsk b m0 c0 (doneS v n).2)) :=
 tri_call fun w0 S R h=>by
  obtain ⟨k1,k2⟩:=done_keep v n
  obtain ⟨mb,nw,u,hu,h⟩:=(h.le (star_emp _)).rsk b (m0:=m0) (c0:=c0) (v:=v)
  obtain ⟨s,h⟩:=h.bdo (m0:=m0) (c0:=c0) (u:=v) (mq:=mb) (v:=v.bd) b
  have h:Own w0 S R w0 (blk b (rL m0 c0 v s mb)^arr s K_u6b3 v.bd.1^(blk mb [.int .u64 u.m.mss,.ptr (some ⟨nw,0⟩),.int .u64 u.m.r.n,.int .u64 u.m.r.nx,.int .u64 u.m.p.best,.int .i64 u.m.p.n,.bool u.m.p.full,.int .i64 u.m.c.ph,.int .u64 u.m.c.at',.int .u64 u.m.b.best,.int .u64 u.m.b.at',.bool u.m.b.on,.bool u.set,.bool u.m.b.rd,.int .u64 u.till,.bool u.m.q.use,.bool u.m.q.mea,.int .u64 u.m.q.bw,.int .i64 u.m.q.n,.int .u64 u.m.q.lost,.int .u64 u.m.q.t0,.int .u64 u.m.q.d0,.int .u64 u.m.q.l0,.int .i64 u.m.mode,.int .u64 u.m.rate,.int .u64 u.m.win,.int .u64 u.g,.bool u.m.rec',.bool u.m.first,.int .u64 u.m.til,.int .u64 u.m.sav]^blk nw [.int .u64 u.m.w.w,.int .u64 u.m.w.t0,.int .u64 u.m.w.t1,.int .u64 u.m.w.t2,.int .u64 u.m.w.v0,.int .u64 u.m.w.v1,.int .u64 u.m.w.v2,.int .u64 u.m.w.la,.bool false])^emp):=h
  refine w_call (rdone_tri b m0 c0 v s mb n ho hn) h fun r w h=>?_
  obtain ⟨hr,h⟩:=h.purP
  rw [← k2] at h
  have h:Own w0 S R w (blk b (rL m0 c0 (eV (doneS v n).2 (doneS v n).2.bd.2) s mb)^arr s K_u6b3 (doneS v n).2.bd.1^(blk mb [.int .u64 u.m.mss,.ptr (some ⟨nw,0⟩),.int .u64 u.m.r.n,.int .u64 u.m.r.nx,.int .u64 u.m.p.best,.int .i64 u.m.p.n,.bool u.m.p.full,.int .i64 u.m.c.ph,.int .u64 u.m.c.at',.int .u64 u.m.b.best,.int .u64 u.m.b.at',.bool u.m.b.on,.bool u.set,.bool u.m.b.rd,.int .u64 u.till,.bool u.m.q.use,.bool u.m.q.mea,.int .u64 u.m.q.bw,.int .i64 u.m.q.n,.int .u64 u.m.q.lost,.int .u64 u.m.q.t0,.int .u64 u.m.q.d0,.int .u64 u.m.q.l0,.int .i64 u.m.mode,.int .u64 u.m.rate,.int .u64 u.m.win,.int .u64 u.g,.bool u.m.rec',.bool u.m.first,.int .u64 u.m.til,.int .u64 u.m.sav]^blk nw [.int .u64 u.m.w.w,.int .u64 u.m.w.t0,.int .u64 u.m.w.t1,.int .u64 u.m.w.t2,.int .u64 u.m.w.v0,.int .u64 u.m.w.v1,.int .u64 u.m.w.v2,.int .u64 u.m.w.la,.bool false])^emp):=h
  have h:=h.mkBdo b m0 c0 (doneS v n).2 mb s (doneS v n).2.bd.1 (doneS v n).2.bd.2
  have h:Own w0 S R w (bdo b m0 c0 (doneS v n).2 mb (doneS v n).2.bd^(blk mb [.int .u64 u.m.mss,.ptr (some ⟨nw,0⟩),.int .u64 u.m.r.n,.int .u64 u.m.r.nx,.int .u64 u.m.p.best,.int .i64 u.m.p.n,.bool u.m.p.full,.int .i64 u.m.c.ph,.int .u64 u.m.c.at',.int .u64 u.m.b.best,.int .u64 u.m.b.at',.bool u.m.b.on,.bool u.set,.bool u.m.b.rd,.int .u64 u.till,.bool u.m.q.use,.bool u.m.q.mea,.int .u64 u.m.q.bw,.int .i64 u.m.q.n,.int .u64 u.m.q.lost,.int .u64 u.m.q.t0,.int .u64 u.m.q.d0,.int .u64 u.m.q.l0,.int .i64 u.m.mode,.int .u64 u.m.rate,.int .u64 u.m.win,.int .u64 u.g,.bool u.m.rec',.bool u.m.first,.int .u64 u.m.til,.int .u64 u.m.sav]^blk nw [.int .u64 u.m.w.w,.int .u64 u.m.w.t0,.int .u64 u.m.w.t1,.int .u64 u.m.w.t2,.int .u64 u.m.w.v0,.int .u64 u.m.w.v1,.int .u64 u.m.w.v2,.int .u64 u.m.w.la,.bool false])^emp):=h
  exact Own.retP hr (h.mkRsk b m0 c0 (doneS v n).2 mb nw u (by rw [k1];exact hu)).keep
structure IvR (m0 c0:Int) (v:Sk):Prop where
 m:v.mss=clampM m0
 c:v.cap=c0
 l:bL v.bf=1073741824
theorem IvR.of {m0 c0:Int} {v v':Sk} (h:IvR m0 c0 v) (h1:v'.mss=v.mss) (h2:v'.cap=v.cap) (h3:bL v'.bf=bL v.bf):IvR m0 c0 v':=⟨h1.trans h.m,h2.trans h.c,h3.trans h.l⟩
theorem tk_L (b:Bf) (m:Int):bL (tkF b m).2=bL b:=by unfold tkF;split<;>rfl
theorem IvR.emit {m0 c0:Int} {v:Sk} (h:IvR m0 c0 v) (now:Int):IvR m0 c0 (emitS v now).2:=by
 have e1:(mayS v).2.mss=v.mss∧(mayS v).2.cap=v.cap∧bL (mayS v).2.bf=bL v.bf:=by unfold mayS;(repeat' split)<;>exact ⟨rfl,rfl,rfl⟩
 have e2:(goS v now).2.mss=v.mss∧(goS v now).2.cap=v.cap∧bL (goS v now).2.bf=bL v.bf:=by
  unfold goS;split
  ·exact ⟨rfl,rfl,rfl⟩
  ·exact ⟨rfl,rfl,tk_L _ _⟩
 unfold emitS
 split
 ·exact h.of e1.1 e1.2.1 e1.2.2
 ·exact h.of e2.1 e2.2.1 e2.2.2
theorem IvR.ack {m0 c0:Int} {v:Sk} (h:IvR m0 c0 v) (now upto:Int) (xs:List (Int × Int)):IvR m0 c0 (ackS v now upto xs).2:=by
 unfold ackS
 split
 ·exact h.of rfl rfl (by show bL (akF v.bf upto).2=_;unfold akF;split<;>rfl)
 ·exact h
theorem IvR.lose {m0 c0:Int} {v:Sk} (h:IvR m0 c0 v) (now:Int):IvR m0 c0 (loseS v now):=h.of rfl rfl rfl
theorem IvR.done {m0 c0:Int} {v:Sk} (h:IvR m0 c0 v) (n:Int):IvR m0 c0 (doneS v n).2:=by
 unfold doneS;split
 ·exact h
 ·exact h.of rfl rfl rfl
theorem IvR.write {m0 c0:Int} {v:Sk} (h:IvR m0 c0 v) (n:Int):IvR m0 c0 (writeS v n).2:=h.of rfl rfl (by show bL (wrF v.bf n).2=_;unfold wrF;(repeat' split)<;>rfl)
theorem alike_tri (p b:Nat) (m0 c0:Int) (v:Sk) (hv:OkSk v) (hr:IvR m0 c0 v):Tri Tryz.prog N_canterlaw25_alike [.lf (.ptr (some ⟨p,0⟩)),.lf (.ptr (some ⟨b,0⟩))] [.lf .bool] (sck p v^rsk b m0 c0 v) (fun r=>pur (r=true) (sck p v^rsk b m0 c0 v)) :=
 tri_0 (call_canterlaw25_alike (some ⟨p,0⟩) (some ⟨b,0⟩)) fun w0 S R h=>by
  unfold W_canterlaw25_alike
  have hbl:v.bd.1.length≤4294967296:=by have:=hv.bl;omega
  have b2:=hv.bf.u
  have b3:=hv.bf.un
  have b4:=hv.bf.nw
  have b5:=hv.bf.w
  obtain ⟨mb,nw,u,hu,h⟩:=(h.le (star_comm _ _)).rsk b (m0:=m0) (c0:=c0) (v:=v)
  obtain ⟨hu1,hu2,hu3⟩:=hu
  obtain ⟨s,h⟩:=h.bdo (m0:=m0) (c0:=c0) (u:=v) (mq:=mb) (v:=v.bd) b
  have h:Own w0 S R w0 (blk b (rL m0 c0 v s mb)^arr s K_u6b3 v.bd.1^(blk mb [.int .u64 u.m.mss,.ptr (some ⟨nw,0⟩),.int .u64 u.m.r.n,.int .u64 u.m.r.nx,.int .u64 u.m.p.best,.int .i64 u.m.p.n,.bool u.m.p.full,.int .i64 u.m.c.ph,.int .u64 u.m.c.at',.int .u64 u.m.b.best,.int .u64 u.m.b.at',.bool u.m.b.on,.bool u.set,.bool u.m.b.rd,.int .u64 u.till,.bool u.m.q.use,.bool u.m.q.mea,.int .u64 u.m.q.bw,.int .i64 u.m.q.n,.int .u64 u.m.q.lost,.int .u64 u.m.q.t0,.int .u64 u.m.q.d0,.int .u64 u.m.q.l0,.int .i64 u.m.mode,.int .u64 u.m.rate,.int .u64 u.m.win,.int .u64 u.g,.bool u.m.rec',.bool u.m.first,.int .u64 u.m.til,.int .u64 u.m.sav]^blk nw [.int .u64 u.m.w.w,.int .u64 u.m.w.t0,.int .u64 u.m.w.t1,.int .u64 u.m.w.t2,.int .u64 u.m.w.v0,.int .u64 u.m.w.v1,.int .u64 u.m.w.v2,.int .u64 u.m.w.la,.bool false])^sck p v):=h
  refine w_drw h fun w h=>w_deref (w_ld (x:=v.out) h rfl (w_call (SockC.out_tri p v) h fun r w h=>?_))
  obtain ⟨hr1,h⟩:=h.purP;rw [hr1]
  refine w_chk h rfl (w_ite (fun _=>?_) fun c=>absurd c (by simp))
  refine w_deref (w_call (SockC.flight_tri p v hbl) h fun r w h=>?_)
  obtain ⟨hr1,h⟩:=h.purP;rw [hr1]
  have h:Own w0 S R w (blk b (rL m0 c0 (eV v v.bd.2) s mb)^arr s K_u6b3 v.bd.1^sck p v^(blk mb [.int .u64 u.m.mss,.ptr (some ⟨nw,0⟩),.int .u64 u.m.r.n,.int .u64 u.m.r.nx,.int .u64 u.m.p.best,.int .i64 u.m.p.n,.bool u.m.p.full,.int .i64 u.m.c.ph,.int .u64 u.m.c.at',.int .u64 u.m.b.best,.int .u64 u.m.b.at',.bool u.m.b.on,.bool u.set,.bool u.m.b.rd,.int .u64 u.till,.bool u.m.q.use,.bool u.m.q.mea,.int .u64 u.m.q.bw,.int .i64 u.m.q.n,.int .u64 u.m.q.lost,.int .u64 u.m.q.t0,.int .u64 u.m.q.d0,.int .u64 u.m.q.l0,.int .i64 u.m.mode,.int .u64 u.m.rate,.int .u64 u.m.win,.int .u64 u.g,.bool u.m.rec',.bool u.m.first,.int .u64 u.m.til,.int .u64 u.m.sav]^blk nw [.int .u64 u.m.w.w,.int .u64 u.m.w.t0,.int .u64 u.m.w.t1,.int .u64 u.m.w.t2,.int .u64 u.m.w.v0,.int .u64 u.m.w.v1,.int .u64 u.m.w.v2,.int .u64 u.m.w.la,.bool false])):=h.fin
  have h:=h.mkBdo b m0 c0 v mb s v.bd.1 v.bd.2
  refine w_call (r_flight_tri b m0 c0 v mb v.bd hbl) h fun r w h=>?_
  obtain ⟨hr1,h⟩:=h.purP;rw [hr1]
  refine w_ite (fun _=>?_) fun c=>absurd c (by unfold skFl;simp)
  refine w_call (SockW.tso_tri p v hv.md) h fun r w h=>?_
  obtain ⟨hr1,h⟩:=h.purP;rw [hr1]
  obtain ⟨s,h⟩:=h.bdo (m0:=m0) (c0:=c0) (u:=v) (mq:=mb) (v:=v.bd) b
  have h:Own w0 S R w (blk b (rL m0 c0 v s mb)^(blk mb [.int .u64 u.m.mss,.ptr (some ⟨nw,0⟩),.int .u64 u.m.r.n,.int .u64 u.m.r.nx,.int .u64 u.m.p.best,.int .i64 u.m.p.n,.bool u.m.p.full,.int .i64 u.m.c.ph,.int .u64 u.m.c.at',.int .u64 u.m.b.best,.int .u64 u.m.b.at',.bool u.m.b.on,.bool u.set,.bool u.m.b.rd,.int .u64 u.till,.bool u.m.q.use,.bool u.m.q.mea,.int .u64 u.m.q.bw,.int .i64 u.m.q.n,.int .u64 u.m.q.lost,.int .u64 u.m.q.t0,.int .u64 u.m.q.d0,.int .u64 u.m.q.l0,.int .i64 u.m.mode,.int .u64 u.m.rate,.int .u64 u.m.win,.int .u64 u.g,.bool u.m.rec',.bool u.m.first,.int .u64 u.m.til,.int .u64 u.m.sav]^blk nw [.int .u64 u.m.w.w,.int .u64 u.m.w.t0,.int .u64 u.m.w.t1,.int .u64 u.m.w.t2,.int .u64 u.m.w.v0,.int .u64 u.m.w.v1,.int .u64 u.m.w.v2,.int .u64 u.m.w.la,.bool false])^arr s K_u6b3 v.bd.1^sck p v):=h.fin
  refine w_call (rtso_tri b mb nw m0 c0 v s u hu1 hv.md.rate hr.m) h fun r w h=>?_
  obtain ⟨hr1,h⟩:=h.purP;rw [hr1]
  refine w_ite (fun _=>?_) fun c=>absurd c (by simp)
  refine w_deref (w_deref (w_ld (x:=bW v.bf) h rfl (w_ld (x:=bN v.bf) h rfl (w_call (SockC.unsent_tri p v hv.bf) h fun r w h=>?_))))
  obtain ⟨hr1,h⟩:=h.purP;rw [hr1]
  refine w_chk h rfl (w_chk h rfl ?_)
  rw [wu (n:=bW v.bf - bN v.bf) (by omega) (by omega)]
  refine w_ite (fun _=>?_) fun c=>absurd c (by simp)
  refine w_deref (w_ld (x:=some ⟨mb,0⟩) h rfl (w_call (SockC.model_tri p v) h fun r w h=>?_))
  obtain ⟨hr1,h⟩:=h.purP;rw [hr1]
  refine w_chk h rfl (w_call (rstate_tri mb nw u) h fun r w h=>?_)
  obtain ⟨hr2,h⟩:=h.purP
  have er:rSt u=mSt v.md:=by unfold rSt mSt;rw [hu3,hu1]
  rw [hr2,er]
  have h:Own w0 S R w (blk b (rL m0 c0 (eV v v.bd.2) s mb)^arr s K_u6b3 v.bd.1^sck p v^(blk mb [.int .u64 u.m.mss,.ptr (some ⟨nw,0⟩),.int .u64 u.m.r.n,.int .u64 u.m.r.nx,.int .u64 u.m.p.best,.int .i64 u.m.p.n,.bool u.m.p.full,.int .i64 u.m.c.ph,.int .u64 u.m.c.at',.int .u64 u.m.b.best,.int .u64 u.m.b.at',.bool u.m.b.on,.bool u.set,.bool u.m.b.rd,.int .u64 u.till,.bool u.m.q.use,.bool u.m.q.mea,.int .u64 u.m.q.bw,.int .i64 u.m.q.n,.int .u64 u.m.q.lost,.int .u64 u.m.q.t0,.int .u64 u.m.q.d0,.int .u64 u.m.q.l0,.int .i64 u.m.mode,.int .u64 u.m.rate,.int .u64 u.m.win,.int .u64 u.g,.bool u.m.rec',.bool u.m.first,.int .u64 u.m.til,.int .u64 u.m.sav]^blk nw [.int .u64 u.m.w.w,.int .u64 u.m.w.t0,.int .u64 u.m.w.t1,.int .u64 u.m.w.t2,.int .u64 u.m.w.v0,.int .u64 u.m.w.v1,.int .u64 u.m.w.v2,.int .u64 u.m.w.la,.bool false])):=h.fin
  have h:=h.mkBdo b m0 c0 v mb s v.bd.1 v.bd.2
  have h:Own w0 S R w (bdo b m0 c0 v mb v.bd^(blk mb [.int .u64 u.m.mss,.ptr (some ⟨nw,0⟩),.int .u64 u.m.r.n,.int .u64 u.m.r.nx,.int .u64 u.m.p.best,.int .i64 u.m.p.n,.bool u.m.p.full,.int .i64 u.m.c.ph,.int .u64 u.m.c.at',.int .u64 u.m.b.best,.int .u64 u.m.b.at',.bool u.m.b.on,.bool u.set,.bool u.m.b.rd,.int .u64 u.till,.bool u.m.q.use,.bool u.m.q.mea,.int .u64 u.m.q.bw,.int .i64 u.m.q.n,.int .u64 u.m.q.lost,.int .u64 u.m.q.t0,.int .u64 u.m.q.d0,.int .u64 u.m.q.l0,.int .i64 u.m.mode,.int .u64 u.m.rate,.int .u64 u.m.win,.int .u64 u.g,.bool u.m.rec',.bool u.m.first,.int .u64 u.m.til,.int .u64 u.m.sav]^blk nw [.int .u64 u.m.w.w,.int .u64 u.m.w.t0,.int .u64 u.m.w.t1,.int .u64 u.m.w.t2,.int .u64 u.m.w.v0,.int .u64 u.m.w.v1,.int .u64 u.m.w.v2,.int .u64 u.m.w.la,.bool false])^sck p v):=h.fin
  exact Own.retP (by simp) ((h.mkRsk b m0 c0 v mb nw u ⟨hu1,hu2,hu3⟩).le (star_comm _ _))
end RsJ

namespace RsK
open Arith ArithC Delays Board BbrM BbrMm SockA SockB SockM SockC SockD SockE SockF SockG SockH SockI SockJ SockK SockL SockN SockO SockP SockV SockW RsF RsG RsI RsJ
theorem same_seg (x:Ks.T KS):((x.1 == x.1) && ((x.2.1 == x.2.1) && ((x.2.2.1 == x.2.2.1) && ((x.2.2.2.1 == x.2.2.2.1) && (x.2.2.2.2 == x.2.2.2.2)))))=true:=by simp
theorem plays_tri (d:Int) (o:Conf.Cf) (a:Sl) (raw:Bool) (ps:List OpS) (ho:0≤Conf.cH o∧U (Conf.cR o)) (hcap:-9223372036854775808≤Conf.cCap o∧Conf.cCap o < 9223372036854775808) (hmss:Conf.cMss o < 9223372036854775808) (hp:∀ p∈ps,OkO p):Tri Tryz.prog N_canterlaw25_SockPlays [.lf (.int .i64 d),.agg (Ks.mk Conf.KC o),.lf (.sl a),.lf (.bool raw)] [.lf .bool] (opSk a ps) (fun r=>pur (r=true) emp) :=
 tri_0 (call_canterlaw25_SockPlays d o a raw) fun w0 S R h=>by
  unfold W_canterlaw25_SockPlays
  have h:Own w0 S R w0 (rarr a KO (ps.map Prod.fst)^rl (fun p:OpS=>rarr (oS p.1) KR p.2) ps):=h
  have hal:=(h.rd (s:=a)).2
  rw [List.length_map] at hal
  refine w_new h fun n1 w h=>?_
  obtain ⟨c,hce⟩:∃ c:Conf.Cf,c=if raw=true then o else Conf.configF o:=⟨_,rfl⟩
  have hc1:-9223372036854775808≤Conf.cCap c∧Conf.cCap c < 9223372036854775808:=by
   rw [hce];split
   ·exact hcap
   ·have hc:=(Conf.config_ok ho.1 ho.2).cap
    exact ⟨by omega,by omega⟩
  have hc2:Conf.cMss c < 9223372036854775808:=by
   rw [hce];split
   ·exact hmss
   ·have hc:=(Conf.config_ok ho.1 ho.2).mss
    omega
  refine w_join h (fun _=>blk n1 (Ks.mk Conf.KC c)^rarr a KO (ps.map Prod.fst)^rl (fun p:OpS=>rarr (oS p.1) KR p.2) ps) (fun _=>True) (fun _ w _ h=>?_) ?_
  rotate_left
  ·refine w_ite (fun cc=>?_) fun cc=>?_
   ·have cc:raw=false:=by simpa using cc
    rw [if_neg (by rw [cc];intro e;cases e)] at hce
    refine w_ldAll (b:=n1) (x:=o) h rfl (w_call (Conf.config_tri o) (h.le ((star_emp _).trans (star_comm _ _))) fun r w h=>?_)
    obtain ⟨hr,h⟩:=h.purP;rw [hr,← hce]
    refine w_setAll h.drop (by rfl) fun w h=>⟨trivial,h⟩
   ·have cc:raw=true:=by simpa using cc
    rw [if_pos cc] at hce
    rw [hce]
    exact ⟨trivial,h⟩
  obtain ⟨m0,hm0⟩:∃ m0,m0=Conf.cMss c:=⟨_,rfl⟩
  obtain ⟨c0,hc0⟩:∃ c0,c0=Conf.cCap c:=⟨_,rfl⟩
  refine w_drw h fun w h=>w_ldAll (b:=n1) (x:=c) h rfl (w_ldAll (b:=n1) (x:=c) h rfl ?_)
  refine w_call (snew_tri d c) (h.le ((star_emp _).trans (star_comm _ _))) fun r w h=>?_
  obtain ⟨p,h⟩:=h.exP
  obtain ⟨hr,h⟩:=h.purP;rw [hr]
  have h:Own w0 S R w (sck p (newS d m0 c0)^blk n1 (Ks.mk Conf.KC c)^rarr a KO (ps.map Prod.fst)^rl (fun p:OpS=>rarr (oS p.1) KR p.2) ps):=by rw [hm0,hc0];exact h.fin
  refine w_chkAll (b:=n1) h (w_call (rsnew_tri d c hc2) (h.le ((star_emp _).trans (star_comm _ _))) fun r w h=>?_)
  obtain ⟨b,h⟩:=h.exP
  obtain ⟨hr,h⟩:=h.purP;rw [hr]
  have h:Own w0 S R w (rsk b (Conf.cMss c) (Conf.cCap c) (newS d (Conf.cMss c) (Conf.cCap c))^sck p (newS d m0 c0)^rarr a KO (ps.map Prod.fst)^rl (fun p:OpS=>rarr (oS p.1) KR p.2) ps):=h.fin
  rw [← hm0,← hc0] at h
  have h:Own w0 S R w (sck p (newS d m0 c0)^rsk b m0 c0 (newS d m0 c0)^rarr a KO (ps.map Prod.fst)^rl (fun p:OpS=>rarr (oS p.1) KR p.2) ps):=h.fin
  have i0:=new_inv d m0 c0 (by rw [hc0];exact hc1)
  have r0:IvR m0 c0 (newS d m0 c0):=⟨rfl,rfl,rfl⟩
  refine w_join h (fun _=>sck p (newS d m0 c0)^rsk b m0 c0 (newS d m0 c0)^rarr a KO (ps.map Prod.fst)^rl (fun p:OpS=>rarr (oS p.1) KR p.2) ps) (fun _=>True) (fun _ w _ h=>?_) ?_
  rotate_left
  ·refine w_call awake_tri (h.le ((star_emp _).trans (star_comm _ _))) fun r w h=>?_
   obtain ⟨hr,h⟩:=h.purP;rw [hr]
   have h:=h.drop
   refine w_ite (fun c=>(by cases c)) fun _=>?_
   refine w_call (alike_tri p b m0 c0 (newS d m0 c0) i0.ok r0) h fun r w h=>?_
   obtain ⟨hr,h⟩:=h.purP;rw [hr]
   refine w_ite (fun c=>(by cases c)) fun _=>⟨trivial,h.fin⟩
  refine w_loopE (fun (y:Int × Int) (v:Sk)=>sck p v^rsk b m0 c0 v^rarr a KO (ps.map Prod.fst)^rl (fun p:OpS=>rarr (oS p.1) KR p.2) ps)
   (fun (y:Int × Int) v=>(0≤y.1∧y.1≤4611686018427387904)∧(0≤y.2∧y.2≤80)∧IvS y.2 v∧IvR m0 c0 v) (fun (y:Int × Int) _=>(80 - y.2).toNat) (newS d m0 c0) h ⟨by decide,by decide,i0,r0⟩ ?_
  rintro K (⟨now,i⟩:Int × Int) v w ⟨hnow,hir,hv,hR⟩ h k
  dsimp only at hnow hir hv hR h ⊢
  refine w_ite (fun cc=>?_) fun cc=>Own.retP rfl h.emp'
  have hci:i < ps.length∧i < 80:=by
   have cc:(decide (i < ((a.len:Nat):Int)) && decide (i < 80))=true:=cc
   rw [Bool.and_eq_true,decide_eq_true_eq,decide_eq_true_eq] at cc
   omega
  have hi:i.toNat < ps.length:=by omega
  have hwi:IntKind.i64.wrap (i+1)=i+1:=wi (by omega) (by omega)
  obtain ⟨q,hpi⟩:∃ q,ps[i.toNat]?=some q:=⟨_,List.getElem?_eq_getElem hi⟩
  have hpm:(ps.map Prod.fst)[i.toNat]?=some q.1:=by rw [List.getElem?_map,hpi];rfl
  haveI:=rd_oS hpi
  have hO:=hp q (List.mem_of_getElem? hpi)
  obtain ⟨ht,htu,htl⟩:=later_r hnow hO.g
  refine w_idx (s:=a) h hir.1 (by rw [List.length_map];exact hi) (w_ldE h a i.toNat hpm rfl ?_)
  refine w_new h fun n11 w h=>w_setAll h (by rfl) fun w h=>w_ld (x:=oS q.1) h rfl (w_ite (fun _=>Own.retP rfl h.emp') fun c8=>?_)
  have c8:¬ (((oS q.1).len:Nat):Int) > 8:=of_decide_eq_false c8
  have hlen:=(h.rd (s:=oS q.1)).2
  refine w_ld (x:=oG q.1) h rfl (w_call (radd_tri now _ (u_now hnow) hO.g) (h.le ((star_emp _).trans (star_comm _ _))) fun r w h=>?_)
  obtain ⟨hr,h⟩:=h.purP;rw [hr]
  have h:=h.drop
  have et:(if (4611686018427387904:Int) < addI now (oG q.1) then (4611686018427387904:Int) else addI now (oG q.1))=later now (oG q.1):=rfl
  rw [et]
  obtain ⟨t,hte⟩:∃ t,t=later now (oG q.1):=⟨_,rfl⟩
  rw [← hte] at ht htl htu ⊢
  rw [hwi]
  have h:Own w0 S R w (blk n11 (Ks.mk KO q.1)^sck p v^rsk b m0 c0 v^rarr a KO (ps.map Prod.fst)^rl (fun p:OpS=>rarr (oS p.1) KR p.2) ps):=h.fin
  refine w_join h (fun y:Bool=>exq (fun v':Sk=>IvS (i+1) v'∧IvR m0 c0 v') fun v'=>sck p v'^rsk b m0 c0 v'^rarr a KO (ps.map Prod.fst)^rl (fun p:OpS=>rarr (oS p.1) KR p.2) ps) (fun y:Bool=>y=true) (fun (y:Bool) w hy h=>?_) ?_
  ·obtain ⟨v',⟨hv',hR'⟩,h⟩:=h.outq1
   rw [hy]
   refine w_ite (fun c=>(by cases c)) fun _=>?_
   refine w_call (alike_tri p b m0 c0 v' hv'.ok hR') h fun r w h=>?_
   obtain ⟨hr,h⟩:=h.purP;rw [hr]
   refine w_ite (fun c=>(by cases c)) fun _=>?_
   exact k (t,i+1) v' w ⟨ht,⟨by show (0:Int)≤i+1;omega,by show i+1≤80;omega⟩,hv',hR'⟩ h.fin (by show (80 - (i+1)).toNat < (80 - i).toNat;omega)
  ·have nx:∀ (v':Sk) (y:Bool),y=true→IvS (i+1) v'→IvR m0 c0 v'→∀ {w:World},Own w0 S R w (sck p v'^rsk b m0 c0 v'^rarr a KO (ps.map Prod.fst)^rl (fun p:OpS=>rarr (oS p.1) KR p.2) ps)→y=true∧Own w0 S R w (exq (fun v':Sk=>IvS (i+1) v'∧IvR m0 c0 v') fun v'=>sck p v'^rsk b m0 c0 v'^rarr a KO (ps.map Prod.fst)^rl (fun p:OpS=>rarr (oS p.1) KR p.2) ps):=by
    intro v' y hy hv' hR' w h
    exact ⟨hy,((h.le (star_emp _)).inq (f:=fun v':Sk=>sck p v'^rsk b m0 c0 v'^rarr a KO (ps.map Prod.fst)^rl (fun p:OpS=>rarr (oS p.1) KR p.2) ps) v' ⟨hv',hR'⟩).keep⟩
   refine w_ld (x:=oK q.1) h rfl ?_
   refine w_join h (fun y:Bool=>blk n11 (Ks.mk KO q.1)^sck p v^rsk b m0 c0 v^rarr a KO (ps.map Prod.fst)^rl (fun p:OpS=>rarr (oS p.1) KR p.2) ps) (fun _:Bool=>True) (fun (y:Bool) w _ h=>?_) ?_
   rotate_left
   ·refine w_ite (fun _=>⟨trivial,h⟩) fun _=>⟨trivial,h⟩
   refine w_ite (fun _=>?_) fun _=>?_
   ·refine w_call (emit_tri p v hv.ok (pcs_lost hv.pc) t htu) h fun r w h=>?_
    obtain ⟨hr,h⟩:=h.purP;rw [hr]
    refine w_new h fun n28 w h=>w_setAll h (by rfl) fun w h=>?_
    have te:=remit_tri b m0 v hv.ok (pcs_lost hv.pc) hR.m t htu
    rw [hR.c] at te
    refine w_call te h fun r w h=>?_
    obtain ⟨hr,h⟩:=h.purP;rw [hr]
    refine w_new h fun n30 w h=>w_setAll h (by rfl) fun w h=>w_ldAll (b:=n28) (x:=(emitS v t).1.1) h rfl (w_ldAll (b:=n30) (x:=(emitS v t).1.1) h rfl ?_)
    exact nx (emitS v t).2 _ (by rw [same_seg];simp) ((hv.emit htu).le (by omega)) (hR.emit t) h.fin
   ·refine w_ite (fun _=>?_) fun _=>?_
    ·refine w_drw h fun w h=>w_ld (x:=oU q.1) h rfl (w_ld (x:=oS q.1) h rfl (w_ld (x:=oU q.1) h rfl (w_ld (x:=oS q.1) h rfl ?_)))
     refine w_callL (A:=sck p v) (Q:=rarr (oS q.1) KR q.2) (sack_tri p v hv.ok hv.ps t (oU q.1) htu (oS q.1) q.2 (by omega)) h fun r w h=>?_
     obtain ⟨hr,h⟩:=h.purP;rw [hr]
     refine w_chk h rfl (w_chk h rfl ?_)
     refine w_callL (A:=rsk b m0 c0 v) (Q:=rarr (oS q.1) KR q.2) (rack_tri b m0 c0 v hv.ok hv.ps hR.m t (oU q.1) htu (oS q.1) q.2 (by omega)) h fun r w h=>?_
     obtain ⟨hr,h⟩:=h.purP;rw [hr]
     exact nx (ackS v t (oU q.1) q.2).2 _ (by simp) ((hv.ack htu (oU q.1) q.2).le (by omega)) (hR.ack t (oU q.1) q.2) h.fin
    ·refine w_ite (fun _=>?_) fun _=>?_
     ·refine w_call (rlose_tri b m0 c0 v hv.ok hR.m t htu) h fun _ w h=>?_
      refine w_call (slose_tri p v hv.ok t htu) h fun r w h=>?_
      obtain ⟨hr,h⟩:=h.purP;rw [hr]
      exact nx (loseS v t) _ rfl ((hv.lose htu).le (by omega)) (hR.lose t) h.fin
     ·have hout:=hv.ok.out
      have hout2:=hv.o
      unfold U at hout
      refine w_ite (fun _=>?_) fun _=>?_
      ·refine w_drw h fun w h=>w_ld (x:=oN q.1) h rfl (w_ld (x:=oN q.1) h rfl ?_)
       refine w_call (SockC.done_tri p v hv.ok.out (oN q.1) hO.n) h fun r w h=>?_
       obtain ⟨hr,h⟩:=h.purP;rw [hr]
       refine w_chk h rfl (w_call (rdn_tri b m0 c0 v ⟨hout.1,by omega⟩ (oN q.1) hO.n) h fun r w h=>?_)
       obtain ⟨hr,h⟩:=h.purP;rw [hr]
       exact nx (doneS v (oN q.1)).2 _ (by simp) ((hv.done (oN q.1)).le (by omega)) (hR.done (oN q.1)) h.fin
      ·have hw:=hv.w
       refine w_drw h fun w h=>w_ld (x:=oN q.1) h rfl (w_deref (w_ld (x:=oN q.1) h rfl ?_))
       refine w_call (SockC.write_tri p v hv.ok.bf (oN q.1) hO.n) h fun r w h=>?_
       obtain ⟨hr,h⟩:=h.purP;rw [hr]
       refine w_chk h rfl (w_call (rwr_tri b m0 c0 v hv.ok.bf hR.l (by omega) (oN q.1) hO.n) h fun r w h=>?_)
       obtain ⟨hr,h⟩:=h.purP;rw [hr]
       exact nx (writeS v (oN q.1)).2 _ (by simp) (hv.write (by omega) (oN q.1)) (hR.write (oN q.1)) h.fin
end RsK

end Go.X
