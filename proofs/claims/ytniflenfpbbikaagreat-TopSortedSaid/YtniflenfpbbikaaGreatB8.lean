/- Contracts and plain facts: SockQ SockV EgM EgA EgB EgC EgD EgE EgF. -/
import Derived.Test.YtniflenfpbbikaaGreatB0
import Derived.Test.YtniflenfpbbikaaGreatB1
import Derived.Test.YtniflenfpbbikaaGreatB2
import Derived.Test.YtniflenfpbbikaaGreatB3
import Derived.Test.YtniflenfpbbikaaGreatB4
import Derived.Test.YtniflenfpbbikaaGreatB5
import Derived.Test.YtniflenfpbbikaaGreatB6
import Derived.Test.YtniflenfpbbikaaGreatB7
import Derived.Test.YtniflenfpbbikaaGreatK
import Derived.Test.YtniflenfpbbikaaGreatF0
import Derived.Test.YtniflenfpbbikaaGreatF1
import Derived.Test.YtniflenfpbbikaaGreatF2
set_option linter.unusedVariables false
set_option linter.unusedSimpArgs false
set_option linter.unusedSectionVars false
namespace Go.X
open Go.Proofs
namespace SockQ
open Arith ArithC Delays Board BbrM BbrMm SockA SockB SockM SockC SockD SockE SockF SockG SockH SockI SockJ SockL SockO
def flS:List Pc→Int
 | []=>0
 | p :: l=>(if flyP p then pTo p - pFrom p else 0)+flS l
theorem flS_fold:∀ (l:List Pc),OkPcs l→∀ (n:Int),0≤n→n+65536 * (l.length:Int) < 18446744073709551616→l.foldl addF n=n+flS l
 | [],_,n,_,_=>by show n=n+0;omega
 | p :: l,h,n,h0,h1=>by
  have hp:=h p (List.mem_cons_self ..)
  have a1:=hp.ft
  have a2:=hp.le
  rw [List.length_cons] at h1
  have e:addF n p=n+(if flyP p then pTo p - pFrom p else 0):=by
   unfold addF
   split
   ·rw [wu (n:=pTo p - pFrom p) (by omega) (by omega)]
    exact wu (by omega) (by omega)
   ·omega
  have hb:0≤(if flyP p=true then pTo p - pFrom p else 0)∧(if flyP p=true then pTo p - pFrom p else 0)≤65536:=by split<;>omega
  rw [List.foldl_cons,flS_fold l (fun q hq=>h q (List.mem_cons_of_mem _ hq)) _ (by rw [e];omega) (by rw [e];omega),e,flS]
  omega
theorem flight_eq {l:List Pc} (h:OkPcs l) (hl:l.length≤4096):flightF l=flS l:=by
 have:=flS_fold l h 0 (by decide) (by omega)
 rw [flightF,this];omega
theorem flS_app:∀ (l m:List Pc),flS (l++m)=flS l+flS m
 | [],m=>by show flS m=0+flS m;omega
 | p :: l,m=>by show _+flS (l++m)=_+flS l+flS m;rw [flS_app l m];omega
theorem flS_r:∀ {l:List Pc},OkPcs l→0≤flS l∧flS l≤65536 * (l.length:Int)
 | [],_=>by show (0:Int)≤0∧(0:Int)≤65536 * (0:Nat);omega
 | p :: l,h=>by
  have hp:=h p (List.mem_cons_self ..)
  have a1:=hp.ft
  have a2:=hp.le
  have:=flS_r (l:=l) (fun q hq=>h q (List.mem_cons_of_mem _ hq))
  have hb:0≤(if flyP p=true then pTo p - pFrom p else 0)∧(if flyP p=true then pTo p - pFrom p else 0)≤65536:=by split<;>omega
  rw [List.length_cons,flS]
  omega
theorem flS_set:∀ {l:List Pc} {i:Nat} {p:Pc} (q:Pc),l[i]?=some p→flS (l.set i q)=flS l - (if flyP p then pTo p - pFrom p else 0)+(if flyP q then pTo q - pFrom q else 0)
 | [],i,p,q,h=>by cases h
 | a :: l,0,p,q,h=>by
  cases h
  show _+flS l=(_+flS l) - _+_
  omega
 | a :: l,i+1,p,q,h=>by
  have:=flS_set (l:=l) (i:=i) (p:=p) q (by simpa using h)
  show _+flS (l.set i q)=(_+flS l) - _+_
  rw [this]
  omega
theorem fI_some {α:Type} {f:α→Bool} {xs:List α} (h:¬ fI f xs < 0):∃ x,xs[(fI f xs).toNat]?=some x∧f x=true:=by
 unfold fI at h ⊢
 split at h
 ·rename_i i hi
  obtain ⟨hl,hp,_⟩:=List.findIdx?_eq_some_iff_getElem.1 hi
  exact ⟨xs[i],by simp [List.getElem?_eq_getElem hl],hp⟩
 ·exact absurd (by decide:(-1:Int) < 0) h
theorem lost_at {l:List Pc} (h:(lostF l).2=true):∃ i p,l[i]?=some p∧pLo p=true∧(lostF l).1=(pFrom p,pTo p)∧∀ s,againF l s=l.set i (againP p s):=by
 have hi:¬ fI pLo l < 0:=fun hc=>by rw [lostF_no hc] at h;cases h
 obtain ⟨p,hp,hl⟩:=fI_some hi
 refine ⟨(fI pLo l).toNat,p,hp,hl,?_,fun s=>?_⟩
 ·unfold lostF;rw [hp];dsimp only;rw [if_neg hi]
 ·unfold againF;rw [hp];dsimp only;rw [if_neg hi]
theorem again_fl {l:List Pc} (hl:OkPcs l) (h:(lostF l).2=true) (s:Snt):flS (againF l s)=flS l+((lostF l).1.2 - (lostF l).1.1)∧1≤(lostF l).1.2 - (lostF l).1.1:=by
 obtain ⟨i,p,hp,hlo,e1,e2⟩:=lost_at h
 have ho:=hl p (List.mem_of_getElem? hp)
 have hsk:=ho.x hlo
 have h1:=ho.ft
 have f1:flyP p=false:=by unfold flyP;rw [hlo];simp
 have f2:flyP (againP p s)=true:=by
  show (!(pSk p) && !false)=true
  rw [hsk];rfl
 rw [e2,flS_set _ hp,e1,f1,f2]
 refine ⟨?_,by show 1≤pTo p - pFrom p;omega⟩
 show flS l - 0+(pTo p - pFrom p)=flS l+(pTo p - pFrom p)
 omega
theorem may_yes {v:Sk} (h:(mayS v).1=0):skFl v < v.md.win∧v.out < belowF v.md.rate (skTso v) v.cap:=by
 unfold mayS at h
 split at h
 ·cases h
 ·split at h
  ·cases h
  ·rename_i c;exact Classical.not_not.1 c
structure SameB (v' v:Sk):Prop where
 id:v'.id=v.id
 mss:v'.mss=v.mss
 cap:v'.cap=v.cap
 bf:v'.bf=v.bf
 bd:v'.bd=v.bd
 md:v'.md=v.md
 out:v'.out=v.out
 nx:v'.nx=v.nx
theorem may_same (v:Sk):SameB (mayS v).2 v:=by
 unfold mayS
 split
 ·dsimp only;split<;>exact ⟨rfl,rfl,rfl,rfl,rfl,rfl,rfl,rfl⟩
 ·split
  ·exact ⟨rfl,rfl,rfl,rfl,rfl,rfl,rfl,rfl⟩
  ·split<;>exact ⟨rfl,rfl,rfl,rfl,rfl,rfl,rfl,rfl⟩
theorem emit_yes {v:Sk} {now:Int} (h:(emitS v now).1.2=0):(mayS v).1=0:=by
 by_cases hm:(mayS v).1=0
 ·exact hm
 ·unfold emitS at h;rw [if_pos hm] at h;exact h
abbrev gN (g:Sg):Int:=g.2.2.1
abbrev gF (g:Sg):Int:=g.2.1
abbrev gS (g:Sg):Int:=g.2.2.2.1
abbrev gA (g:Sg):Bool:=g.2.2.2.2
structure Went (v:Sk) (now:Int) (g:Sg) (v':Sk):Prop where
 n:1≤gN g∧gN g≤65536
 id:g.1=v.id
 st:gS g=if v.nx > now then v.nx else now
 out:v'.out=v.out+gN g
 fl:skFl v'=skFl v+gN g
 win:skFl v < v.md.win
 lim:v.out < belowF v.md.rate (skTso v) v.cap
 md:v'.md=v.md
 kid:v'.id=v.id
 mss:v'.mss=v.mss
 cap:v'.cap=v.cap
 nx:v'.nx=addI (gS g) (delayI (gN g) v.md.rate)
 new:gA g=false→gF g=bN v.bf∧v'.bf=(bW v.bf,bN v.bf+gN g,bU v.bf,bL v.bf)∧(lostF v.bd.1).2=false∧gN g=cutN v∧v'.bd=(v.bd.1++[mkPc (gF g) (gF g+gN g) (sentP v.sp now (skFl v)).1],gF g+gN g)
 old:gA g=true→v'.bf=v.bf∧lostF v.bd.1=((gF g,gF g+gN g),true)∧v'.bd=(againF v.bd.1 (sentP v.sp now (skFl v)).1,v.bd.2)
theorem emit_went {k:Int} {v:Sk} (h:IvS k v) {now:Int} (hn:U now) (he:(emitS v now).1.2=0):Went v now (emitS v now).1.1 (emitS v now).2:=by
 have hm:=emit_yes he
 obtain ⟨m1,m2⟩:=may_yes hm
 have hbl:=h.ok.bl
 have e:emitS v now=(((goS v now).1,0),(goS v now).2):=by unfold emitS;rw [if_neg (fun c=>c hm)]
 rw [e]
 dsimp only
 cases hl:(lostF v.bd.1).2 with
 | true =>
  have hp:=oldP_inv h hn
  obtain ⟨f1,f2⟩:=again_fl h.pc hl (sentP v.sp now (skFl v)).1
  obtain ⟨_,f3⟩:=pcs_lost h.pc hl
  rw [go_old v now hl]
  have hF:skFl (oldP v now)=skFl v+((lostF v.bd.1).1.2 - (lostF v.bd.1).1.1):=by
   show flightF (againF v.bd.1 _)=flightF v.bd.1+_
   rw [flight_eq hp.pc hp.ok.bl,flight_eq h.pc h.ok.bl]
   exact f1
  exact ⟨⟨f2,f3⟩,rfl,rfl,rfl,hF,m1,m2,rfl,rfl,rfl,rfl,rfl,fun c=>(by cases c),fun _=>⟨rfl,by
   show lostF v.bd.1=(((lostF v.bd.1).1.1,(lostF v.bd.1).1.1+((lostF v.bd.1).1.2 - (lostF v.bd.1).1.1)),true)
   rw [show (lostF v.bd.1).1.1+((lostF v.bd.1).1.2 - (lostF v.bd.1).1.1)=(lostF v.bd.1).1.2 by omega]
   exact Prod.ext rfl hl,rfl⟩⟩
 | false =>
  obtain ⟨g1,g2⟩:=may_go hm hl
  have hc:=cut_r h g1
  have hp:=newP_inv h hn hm hl
  rw [go_new h now hm hl]
  have hw:bN v.bf+cutN v - bN v.bf=cutN v:=by omega
  have hF:skFl (newP v now)=skFl v+(bN v.bf+cutN v - bN v.bf):=by
   show flightF (v.bd.1++[_])=flightF v.bd.1+_
   rw [flight_eq hp.pc hp.ok.bl,flight_eq h.pc h.ok.bl,flS_app]
   show _+(bN v.bf+cutN v - bN v.bf+0)=_
   omega
  refine ⟨⟨by show 1≤bN v.bf+cutN v - bN v.bf;omega,by show bN v.bf+cutN v - bN v.bf≤65536;omega⟩,rfl,rfl,rfl,hF,m1,m2,rfl,rfl,rfl,rfl,rfl,fun _=>⟨rfl,?_,hl,hw,?_⟩,fun c=>(by cases c)⟩
  ·show (bW v.bf,bN v.bf+cutN v,bU v.bf,bL v.bf)=(bW v.bf,bN v.bf+(bN v.bf+cutN v - bN v.bf),bU v.bf,bL v.bf)
   rw [hw]
  ·show (v.bd.1++[mkPc (bN v.bf) (bN v.bf+cutN v) _],bN v.bf+cutN v)=(v.bd.1++[mkPc (bN v.bf) (bN v.bf+(bN v.bf+cutN v - bN v.bf)) _],bN v.bf+(bN v.bf+cutN v - bN v.bf))
   rw [hw]
end SockQ

namespace SockV
open Arith ArithC Delays Board BbrM BbrMm SockA SockB SockM SockC SockD SockE SockF SockG SockH SockI SockJ SockK SockL SockN SockO SockP SockQ
structure IvB (k:Int) (v:Sk):Prop where
 i:IvS k v
 kr:0≤k∧k≤1000000
 g:pG v.sp=0
 b:BbrH.Bd v.md ((k+1) * 1073741824)
theorem addI_le (a b:Int):addI a b≤a+b∨addI a b≤18446744073709551615∧a+b > 18446744073709551615:=by unfold addI;split<;>omega
theorem akd_g (now:Int):∀ (l:List Pc) (s:Sp),OkPcs l→pG s+65536 * (l.length:Int) < 18446744073709551616→pG (akdL now s l)≤pG s+65536 * (l.length:Int)
 | [],s,_,_=>by show pG s≤pG s+65536 * ((0:Nat):Int);omega
 | q :: l,s,h,hb=>by
  have hq:=h q (List.mem_cons_self ..)
  have h1:=hq.ft
  have h2:=hq.le
  rw [List.length_cons] at hb ⊢
  have e:pG (stepP now s q)≤pG s+65536:=by
   have e1:IntKind.u64.wrap (pTo q - pFrom q)=pTo q - pFrom q:=wu (by omega) (by omega)
   have e2:pG (stepP now s q)=addI (pG s) (IntKind.u64.wrap (pTo q - pFrom q)):=by
    unfold stepP akdP;split<;>rfl
   rw [e2,e1]
   unfold addI;split<;>omega
  have:=akd_g now l (stepP now s q) (fun r hr=>h r (List.mem_cons_of_mem _ hr)) (by omega)
  show pG (akdL now (stepP now s q) l)≤_
  omega
theorem fl_small {k:Int} {v:Sk} (h:IvS k v):0≤skFl v∧skFl v≤268435456:=by
 have h1:=flS_r h.pc
 have h2:=h.ok.bl
 unfold skFl
 rw [flight_eq h.pc h.ok.bl];omega
theorem learn_b {k:Int} {v:Sk} (h:IvS k v) (hk:0≤k∧k≤1000000) (hg:pG v.sp≤268435456) (hb:BbrH.Bd v.md ((k+1) * 1073741824)) {now lost:Int} (hn:U now) (hl:U lost):pG (learnS v now lost).sp=0∧BbrH.Bd (learnS v now lost).md ((k+1+1) * 1073741824):=by
 have ht:=take_ok h.ok.sp hn hl h.ok.fl
 have hf:=fl_small h
 have hm:=h.ok.md.mss
 obtain ⟨b1,b2⟩:=BbrH.upd_b hb h.ok.md ⟨by omega,by omega⟩ (by omega) ht (skTso v)
 have ha:sAck (takeP v.sp now lost (skFl v)).1≤268435456:=by
  unfold takeP;split
  ·exact hg
  ·show (0:Int)≤_;decide
 have hfl:sFli (takeP v.sp now lost (skFl v)).1=skFl v:=by unfold takeP;split<;>rfl
 refine ⟨rfl,⟨?_,by show (mUpd v.md (takeP v.sp now lost (skFl v)).1 (skTso v)).sav≤_;omega⟩⟩
 show (mUpd v.md (takeP v.sp now lost (skFl v)).1 (skTso v)).win≤_
 rcases b1 with b | b
 ·have:=addI_le ((k+1) * 1073741824) (sAck (takeP v.sp now lost (skFl v)).1);omega
 ·have:=addI_le (sFli (takeP v.sp now lost (skFl v)).1) (sAck (takeP v.sp now lost (skFl v)).1);omega
theorem Bd_le {m:Md} {a b:Int} (h:BbrH.Bd m a) (hab:a≤b):BbrH.Bd m b:=⟨Int.le_trans h.win hab,Int.le_trans h.sav hab⟩
theorem new_ivB (id mss cap:Int) (hc:-9223372036854775808≤cap∧cap < 9223372036854775808):IvB 0 (newS id mss cap) where
 i:=new_inv id mss cap hc
 kr:=by decide
 g:=rfl
 b:=by
  have:=mss_r (clampM mss)
  exact ⟨by show 10 * mMss (clampM mss)≤(0+1) * 1073741824;omega,by show (0:Int)≤(0+1) * 1073741824;decide⟩
theorem IvB.up {k:Int} {v v':Sk} (h:IvB k v) (hk:k < 1000000) (hi:IvS (k+1) v') (hg:pG v'.sp=pG v.sp) (hm:v'.md=v.md):IvB (k+1) v' :=
 { i:=hi,kr:=by have:=h.kr;omega,g:=hg.trans h.g,b:=by rw [hm];exact Bd_le h.b (by omega) }
theorem may_g (v:Sk):pG (mayS v).2.sp=pG v.sp:=by
 unfold mayS
 split
 ·dsimp only;split<;>rfl
 ·split
  ·rfl
  ·split<;>rfl
theorem touch_g (s:Sp) (now f:Int):pG (touch s now f)=pG s:=by unfold touch;split<;>rfl
theorem emit_g (v:Sk) (now:Int):pG (emitS v now).2.sp=pG v.sp∧(emitS v now).2.md=v.md:=by
 unfold emitS
 split
 ·exact ⟨may_g v,(may_same v).md⟩
 ·show pG (goS v now).2.sp=pG v.sp∧(goS v now).2.md=v.md
  unfold goS
  split
  ·exact ⟨touch_g _ _ _,rfl⟩
  ·exact ⟨touch_g _ _ _,rfl⟩
theorem IvB.write {k:Int} {v:Sk} (h:IvB k v) (hk:k < 1000000) (n:Int):IvB (k+1) (writeS v n).2 :=
 h.up hk (h.i.write (by omega) n) rfl rfl
theorem IvB.done {k:Int} {v:Sk} (h:IvB k v) (hk:k < 1000000) (n:Int):IvB (k+1) (doneS v n).2 :=
 h.up hk ((h.i.done n).le (by omega)) (by unfold doneS;split<;>rfl) (by unfold doneS;split<;>rfl)
theorem IvB.le1 {k:Int} {v:Sk} (h:IvB k v) (hk:k < 1000000):IvB (k+1) v:=h.up hk (h.i.le (by omega)) rfl rfl
theorem IvB.lose {k:Int} {v:Sk} (h:IvB k v) (hk:k < 1000000) {now:Int} (hn:U now):IvB (k+1) (loseS v now):=by
 have hi:IvS k { v with bd:=(v.bd.1.map loseP,v.bd.2) }:={ ok:=OkSk.lose h.i.ok,pc:=pcs_lose h.i.pc,e:=h.i.e,w:=h.i.w,o:=h.i.o }
 obtain ⟨a,b⟩:=learn_b hi h.kr (by show pG v.sp≤_;rw [h.g];decide) h.b hn (flight_U v.bd.1)
 exact { i:=(h.i.lose hn).le (by omega),kr:=by have:=h.kr;omega,g:=a,b:=b }
theorem IvB.ack {k:Int} {v:Sk} (h:IvB k v) (hk:k < 1000000) {now:Int} (hn:U now) (upto:Int) (xs:List (Int × Int)):IvB (k+1) (ackS v now upto xs).2:=by
 by_cases hm:mayF v.bd upto xs=true
 ·have hi:IvS k (toldS v now upto xs):=by
   obtain ⟨e1,e2⟩:=ak_N v.bf upto
   exact { ok:=toldS_ok h.i.ok h.i.ps hn upto xs,pc:=pcs_pass (pcs_rest h.i.pc upto xs),e:=by show v.bd.2=bN (akF v.bf upto).2;rw [e1];exact h.i.e,w:=by show bW (akF v.bf upto).2≤_;rw [e2];exact h.i.w,o:=h.i.o }
  have hto:OkPcs (toldL upto xs v.bd.1):=fun q hq=>h.i.pc q (List.mem_filter.1 hq).1
  have hlen:(toldL upto xs v.bd.1).length≤4096:=Nat.le_trans (List.length_filter_le _ _) h.i.ok.bl
  have hg:pG (toldS v now upto xs).sp≤268435456:=by
   show pG (akdL now v.sp (toldL upto xs v.bd.1))≤_
   have:=akd_g now (toldL upto xs v.bd.1) v.sp hto (by rw [h.g];omega)
   rw [h.g] at this;omega
  obtain ⟨a,b⟩:=learn_b hi h.kr hg h.b hn (pass_U (restL upto xs v.bd.1))
  have e:(ackS v now upto xs).2=learnS (toldS v now upto xs) now (passF (restL upto xs v.bd.1)).2.1:=by unfold ackS;rw [if_pos hm]
  rw [e]
  exact { i:=(learn_inv hi hn (pass_U _)).le (by omega),kr:=by have:=h.kr;omega,g:=a,b:=b }
 ·have e:(ackS v now upto xs).2=v:=by unfold ackS;rw [if_neg hm]
  rw [e];exact h.le1 hk
end SockV

namespace EgM
open Arith ArithC FqM TreeC TreeF
open SockM (Sk emitS doneS writeS loseS newS)
abbrev Ct:=Int × Int × Int × Int × Int × Int × Int × Int
abbrev ct0:Ct:=(0,0,0,0,0,0,0,0)
abbrev cWt (c:Ct):Int:=c.2.2.2.2.2.2.2
abbrev inc (n:Int):Int:=IntKind.i64.wrap (n+1)
abbrev dec (n:Int):Int:=IntKind.i64.wrap (n - 1)
def cFt (c:Ct) (f:Int):Int:=if f=0 then c.2.1 else if f=1 then c.2.2.1 else if f=2 then c.2.2.2.1 else if f=3 then c.2.2.2.2.1 else if f=4 then c.2.2.2.2.2.1 else c.2.2.2.2.2.2.1
def bump (c:Ct) (f:Int):Ct :=
 if f=0 then (c.1,inc c.2.1,c.2.2.1,c.2.2.2.1,c.2.2.2.2.1,c.2.2.2.2.2.1,c.2.2.2.2.2.2.1,c.2.2.2.2.2.2.2)
 else if f=1 then (c.1,c.2.1,inc c.2.2.1,c.2.2.2.1,c.2.2.2.2.1,c.2.2.2.2.2.1,c.2.2.2.2.2.2.1,c.2.2.2.2.2.2.2)
 else if f=2 then (c.1,c.2.1,c.2.2.1,inc c.2.2.2.1,c.2.2.2.2.1,c.2.2.2.2.2.1,c.2.2.2.2.2.2.1,c.2.2.2.2.2.2.2)
 else if f=3 then (c.1,c.2.1,c.2.2.1,c.2.2.2.1,inc c.2.2.2.2.1,c.2.2.2.2.2.1,c.2.2.2.2.2.2.1,c.2.2.2.2.2.2.2)
 else if f=4 then (c.1,c.2.1,c.2.2.1,c.2.2.2.1,c.2.2.2.2.1,inc c.2.2.2.2.2.1,c.2.2.2.2.2.2.1,c.2.2.2.2.2.2.2)
 else (c.1,c.2.1,c.2.2.1,c.2.2.2.1,c.2.2.2.2.1,c.2.2.2.2.2.1,inc c.2.2.2.2.2.2.1,c.2.2.2.2.2.2.2)
abbrev wait (c:Ct) (q:Int):Ct:=(c.1,c.2.1,c.2.2.1,c.2.2.2.1,c.2.2.2.2.1,c.2.2.2.2.2.1,c.2.2.2.2.2.2.1,q)
def note1 (c:Ct) (f:Int):Int × Ct :=
 if f < 0∨f ≥ 6 then (1,c) else if f=0 then (0,bump (wait c (inc (cWt c))) f) else if cWt c=0 then (7,c) else (0,bump (wait c (dec (cWt c))) f)
def upL {α:Type} (l:Nat→α) (i:Nat) (x:α):Nat→α:=fun j=>if j=i then x else l j
theorem upL_same {α:Type} (l:Nat→α) (i:Nat) (x:α):upL l i x i=x:=by simp [upL]
theorem upL_ne {α:Type} (l:Nat→α) {i j:Nat} (x:α) (h:j≠i):upL l i x j=l j:=by simp [upL,h]
theorem upL_id {α:Type} (l:Nat→α) (i:Nat):upL l i (l i)=l:=funext fun j=>by unfold upL;split<;>simp_all
def noteL (l:Nat→Ct) (s f:Int):Int × (Nat→Ct):=if s < 0∨s ≥ 8 then (8,l) else ((note1 (l s.toNat) f).1,upL l s.toNat (note1 (l s.toNat) f).2)
def countL (l:Nat→Ct) (s:Int):Ct:=if s < 0∨s ≥ 8 then ct0 else (s,(l s.toNat).2)
structure Mc where
 c:Cf
 now:Int
 so:Nat→Option Sk
 q:Qm
 l:Nat→Ct
abbrev newM (c:Cf):Mc:=⟨c,0,fun _=>none,newF c,fun _=>ct0⟩
structure Ou where
 dep:List Sg
 dr:List Sg
 ft:List Int
 wd:Int
abbrev ou0:Ou:=⟨[],[],[],0⟩
def moveF (now at':Int):Int × Int:=if at' > 4611686018427387904 then (3,now) else if at' < now then (4,now) else (0,at')
def rateO (x:Option Sk):Int:=match x with
 | none=>18446744073709551615
 | some v=>v.md.rate
def ratesF (so:Nat→Option Sk):List Int:=[rateO (so 0),rateO (so 1),rateO (so 2),rateO (so 3),rateO (so 4),rateO (so 5),rateO (so 6),rateO (so 7)]
def pullF (v:Mc) (o:Ou):Ou × Mc :=
 match deqF v.q v.now (ratesF v.so) with
 | (some s,q)=>({ o with dep:=[s] },{ v with q:=q,l:=(noteL v.l (sK s) 1).2 })
 | (none,q)=>(if (minF q.ks).2 then { o with wd:=if 1 > (minF q.ks).1.1 then 1 else (minF q.ks).1.1 } else o,{ v with q:=q })
def setM (v:Mc) (c:Cf):Int × Mc:=if (setF v.q c).1=0 then (0,{ v with q:=(setF v.q c).2,c:=c }) else ((setF v.q c).1,{ v with q:=(setF v.q c).2 })
def dropF (l:Nat→Ct) (o:Ou) (s:Sg) (f:Int):Ou × (Nat→Ct):=({ o with dr:=o.dr++[s],ft:=o.ft++[f] },(noteL l (sK s) f).2)
structure Pm where
 v:Sk
 q:Qm
 l:Nat→Ct
 o:Ou
def fresh (v:Sk):Nat:=(bW v.bf - bN v.bf).toNat+v.bd.1.countP (fun p=>Board.pLo p)
where
 bW (b:SockA.Bf):Int:=b.1
 bN (b:SockA.Bf):Int:=b.2.1
def enter (i now:Int) (s:Pm):Pm × Int :=
 let g:=(emitS s.v now).1.1
 let e:=enqF s.q g now
 if e.1.1=0 then (⟨(emitS s.v now).2,e.2,(noteL s.l i 0).2,s.o⟩,0)
 else (⟨(doneS (emitS s.v now).2 g.2.2.1).2,e.2,(dropF (noteL s.l i 0).2 s.o g e.1.1).2,(dropF (noteL s.l i 0).2 s.o g e.1.1).1⟩,1)
def pumpN (i now:Int):Nat→Pm→Pm
 | 0,s=>s
 | k+1,s=>if (emitS s.v now).1.2≠0 then { s with v:=(emitS s.v now).2 } else if (enter i now s).2=0 then pumpN i now k (enter i now s).1 else (enter i now s).1
def pumpF (i now:Int) (s:Pm):Pm:=pumpN i now (fresh s.v+1) s
def pumpM (v:Mc) (i:Nat) (x:Sk) (o:Ou):Ou × Mc :=
 ((pumpF i v.now ⟨x,v.q,v.l,o⟩).o,{ v with so:=upL v.so i (some (pumpF i v.now ⟨x,v.q,v.l,o⟩).v),q:=(pumpF i v.now ⟨x,v.q,v.l,o⟩).q,l:=(pumpF i v.now ⟨x,v.q,v.l,o⟩).l })
def dropsF (l:Nat→Ct) (o:Ou):List Sg→Ou × (Nat→Ct)
 | []=>(o,l)
 | s :: ss=>dropsF (dropF l o s 5).2 (dropF l o s 5).1 ss
def shutM (v:Mc) (i:Nat) (o:Ou):Ou × Mc :=
 ((dropsF v.l o (closeF v.q i).1).1,{ v with so:=upL v.so i none,q:=(closeF v.q i).2,l:=(dropsF v.l o (closeF v.q i).1).2 })
abbrev KD:Ks:=[.int .i64,.int .i64,.int .i64,.int .u64,.int .u64,.sl,.int .i64,.int .i64,.int .i64,.int .i64,.int .u64,.int .u64,.bool,.int .i64,.int .i64]
abbrev Dd:=Ks.T KD
abbrev dK (d:Dd):Int:=d.1
abbrev dS (d:Dd):Int:=d.2.1
abbrev dL (d:Dd):Int:=d.2.2.1
abbrev dU (d:Dd):Int:=d.2.2.2.1
abbrev dA (d:Dd):Int:=d.2.2.2.2.1
abbrev dR (d:Dd):Sl:=d.2.2.2.2.2.1
abbrev dC (d:Dd):Cf:=d.2.2.2.2.2.2
def toldF (v:Sk) (now:Int) (d:Dd) (xs:List (Int × Int)):Int × Sk :=
 if dK d=2 then writeS v (dL d) else if dK d=3 then SockL.ackS v now (dU d) xs else if dK d=4 then (0,loseS v now) else doneS v (dL d)
def oneM (v:Mc) (d:Dd) (xs:List (Int × Int)) (o:Ou):Int × Ou × Mc :=
 if ¬ (0≤dS d∧dS d < 8) then (8,o,v)
 else match v.so (dS d).toNat with
  | none=>if dK d=1 then (0,o,{ v with so:=upL v.so (dS d).toNat (some (newS (dS d) (cMss v.c) (cCap v.c))) }) else (10,o,v)
  | some x=>if dK d=1 then (9,o,v) else if dK d=9 then (0,(shutM v (dS d).toNat o).1,(shutM v (dS d).toNat o).2)
   else if (toldF x v.now d xs).1=0 then (0,(pumpM v (dS d).toNat (toldF x v.now d xs).2 o).1,(pumpM v (dS d).toNat (toldF x v.now d xs).2 o).2)
   else ((toldF x v.now d xs).1,o,{ v with so:=upL v.so (dS d).toNat (some (toldF x v.now d xs).2) })
def isOne (k:Int):Bool:=k == 1 || k == 2 || k == 3 || k == 4 || k == 7 || k == 9
def stepM (v:Mc) (d:Dd) (xs:List (Int × Int)):Int × Ou × Mc :=
 if dK d=5 then ((moveF v.now (dA d)).1,ou0,{ v with now:=(moveF v.now (dA d)).2 })
 else if dK d=6 then (0,(pullF v ou0).1,(pullF v ou0).2)
 else if dK d=8 then ((setM v (dC d)).1,ou0,(setM v (dC d)).2)
 else if isOne (dK d) then oneM v d xs ou0
 else (12,ou0,v)
def doF (v:Mc) (d:Dd) (xs:List (Int × Int)):(Ou × Int) × Mc :=
 if (stepM v d xs).1≠0 then ((ou0,(stepM v d xs).1),(stepM v d xs).2.2) else (((stepM v d xs).2.1,0),(stepM v d xs).2.2)
end EgM

namespace EgA
open Arith ArithC FqM EgM
theorem first_tri (s:Sl) (t:Int):Tri Tryz.prog N_clock_first [.lf (.sl s)] [.lf (.int .u64)] (emp^rarr s KU [t]) (fun r=>pur (r=if t ≥ 4611686018427387904 then 4611686018427387904 else t) emp) :=
 tri_0 (call_clock_first s) fun w0 S R h=>by
  unfold W_clock_first
  have h:Own w0 S R w0 (rarr s KU [t]^emp):=h.fin
  have hs:s.len=1:=(h.rd (s:=s)).2
  have e1:IntKind.i64.wrap ((0:Int)+1)=1:=rfl
  refine w_loop (fun _:Int × Int=>rarr s KU [t]^emp) (fun y:Int × Int=>y=(4611686018427387904,0)∨y=((if t ≥ 4611686018427387904 then 4611686018427387904 else t),1)) (fun y:Int × Int=>(1 - y.2).toNat) h (.inl rfl) ?_
  rintro (y:Int × Int) w hy h
  rcases hy with rfl | rfl
  ·refine w_ite (fun _=>?_) fun c=>(by rw [hs] at c;cases c)
   refine w_idx (s:=s) h (by decide) (by simp) (w_ldE h s 0 (y:=t) rfl rfl ?_)
   dsimp only
   rw [e1]
   refine w_ite (fun c=>?_) fun c=>?_
   ·have c:t ≥ 4611686018427387904:=of_decide_eq_true c
    exact ⟨⟨.inr (by rw [if_pos c]),h⟩,by show (1 - (1:Int)).toNat < (1 - (0:Int)).toNat;decide⟩
   ·have c:¬ t ≥ 4611686018427387904:=of_decide_eq_false c
    exact ⟨⟨.inr (by rw [if_neg c]),h⟩,by show (1 - (1:Int)).toNat < (1 - (0:Int)).toNat;decide⟩
  ·refine w_ite (fun c=>(by rw [hs] at c;cases c)) fun _=>?_
   exact Own.retP rfl h.emp'
theorem cnew_tri:Tri Tryz.prog N_clock_New [.lf (.int .u64 0)] [.lf .ptr] emp (fun r=>ex fun b:Nat=>pur (r=some ⟨b,0⟩) (blk b [.int .u64 0])) :=
 tri_0 (call_clock_New 0) fun w0 S R h=>by
  unfold W_clock_New
  refine w_new (h.le (star_emp _)) fun n1 w h=>?_
  have h:=h.blkArr n1 KU [0] rfl (by simp)
  have h:Own w0 S R w (arr ⟨some ⟨n1,0⟩,1,1⟩ KU [0]^_):=h
  refine w_callL (A:=emp) (Q:=rarr ⟨some ⟨n1,0⟩,1,1⟩ KU [0]) (first_tri ⟨some ⟨n1,0⟩,1,1⟩ 0) (h.le ((star_emp _).trans (star_comm _ _))) fun r w h=>?_
  obtain ⟨hr,h⟩:=h.purP;rw [hr]
  refine w_new h fun n3 w h=>?_
  exact Own.retE n3 (Own.retP rfl h.keep)
theorem move_tri (b:Nat) (now to':Int):Tri Tryz.prog N_clock_Clock_Move [.lf (.ptr (some ⟨b,0⟩)),.lf (.int .u64 to')] [.lf (.int .i64)] (blk b [.int .u64 now]) (fun r=>pur (r=(moveF now to').1) (blk b [.int .u64 (moveF now to').2])) :=
 tri_0 (call_clock_Clock_Move (some ⟨b,0⟩) to') fun w0 S R h=>by
  unfold W_clock_Clock_Move
  refine w_ite (fun c=>(by simp at c)) fun _=>w_ite (fun c=>?_) fun c=>?_
  ·have c:to' > 4611686018427387904:=of_decide_eq_true c
   rw [show moveF now to'=(3,now) by unfold moveF;rw [if_pos c]]
   exact Own.retP rfl h
  ·have c:¬ to' > 4611686018427387904:=of_decide_eq_false c
   refine w_deref (w_ld (x:=now) h rfl (w_ite (fun c2=>?_) fun c2=>?_))
   ·have c2:to' < now:=of_decide_eq_true c2
    rw [show moveF now to'=(4,now) by unfold moveF;rw [if_neg c,if_pos c2]]
    exact Own.retP rfl h
   ·have c2:¬ to' < now:=of_decide_eq_false c2
    rw [show moveF now to'=(0,to') by unfold moveF;rw [if_neg c,if_neg c2]]
    refine w_deref (w_setAll h (by rfl) fun w h=>?_)
    exact Own.retP rfl h.fin
theorem now_tri (b:Nat) (now:Int):Tri Tryz.prog N_clock_Clock_Now [.lf (.ptr (some ⟨b,0⟩))] [.lf (.int .u64)] (blk b [.int .u64 now]) (fun r=>pur (r=now) (blk b [.int .u64 now])) :=
 tri_0 (call_clock_Clock_Now (some ⟨b,0⟩)) fun w0 S R h=>by
  unfold W_clock_Clock_Now
  refine w_ite (fun c=>(by simp at c)) fun _=>w_deref (w_ld (x:=now) h rfl ?_)
  exact Own.retP rfl h
abbrev KCt:Ks:=[.int .i64,.int .i64,.int .i64,.int .i64,.int .i64,.int .i64,.int .i64,.int .i64]
abbrev rows (l:Nat→Ct):List Ct:=[l 0,l 1,l 2,l 3,l 4,l 5,l 6,l 7]
theorem lt8 {i:Nat} (h:i < 8):i=0∨i=1∨i=2∨i=3∨i=4∨i=5∨i=6∨i=7:=by omega
theorem rows_at (l:Nat→Ct) {i:Nat} (h:i < 8):(rows l)[i]?=some (l i):=by
 rcases lt8 h with rfl | rfl | rfl | rfl | rfl | rfl | rfl | rfl<;>rfl
theorem rows_set (l:Nat→Ct) {i:Nat} (x:Ct) (h:i < 8):(rows l).set i x=rows (upL l i x):=by
 rcases lt8 h with rfl | rfl | rfl | rfl | rfl | rfl | rfl | rfl<;>rfl
def led (b:Nat) (l:Nat→Ct):SP:=arr ⟨some ⟨b,0⟩,8,8⟩ KCt (rows l)
instance (b:Nat) (l:Nat→Ct):NoR (led b l):=by unfold led;infer_instance
theorem lnew_tri:Tri Tryz.prog N_ledger_New [] [.lf .ptr] emp (fun r=>ex fun b:Nat=>pur (r=some ⟨b,0⟩) (led b (fun _=>ct0))) :=
 tri_0 call_ledger_New fun w0 S R h=>by
  unfold W_ledger_New
  refine w_new h fun n1 w h=>?_
  have h:=h.blkArr n1 KCt (rows (fun _=>ct0)) rfl (by simp)
  exact Own.retE n1 (Own.retP rfl (show Own w0 S R w (led n1 (fun _=>ct0)^emp) from h).keep)
theorem lmay_tri (b:Nat) (s:Int):Tri Tryz.prog N_ledger_Ledger_may [.lf (.ptr (some ⟨b,0⟩)),.lf (.int .i64 s)] [.lf (.int .i64)] emp (fun r=>pur (r=if s < 0∨s ≥ 8 then 8 else 0) emp) :=
 tri_0 (call_ledger_Ledger_may (some ⟨b,0⟩) s) fun w0 S R h=>by
  unfold W_ledger_Ledger_may
  refine w_ite (fun c=>(by simp at c)) fun _=>w_ite (fun c=>?_) fun c=>?_
  ·have c:s < 0∨s ≥ 8:=by simpa using c
   exact Own.retP (by rw [if_pos c]) h
  ·have c:¬ (s < 0∨s ≥ 8):=by simpa using c
   exact Own.retP (by rw [if_neg c]) h
theorem lt6 {f:Int} (h:¬ (f < 0∨f ≥ 6)):f=0∨f=1∨f=2∨f=3∨f=4∨f=5:=by omega
theorem note_tri (b:Nat) (l:Nat→Ct) (s f:Int):Tri Tryz.prog N_ledger_Ledger_Note [.lf (.ptr (some ⟨b,0⟩)),.lf (.int .i64 s),.lf (.int .i64 f)] [.lf (.int .i64)] (led b l) (fun r=>pur (r=(noteL l s f).1) (led b (noteL l s f).2)) :=
 tri_0 (call_ledger_Ledger_Note (some ⟨b,0⟩) s f) fun w0 S R h=>by
  unfold W_ledger_Ledger_Note
  have h:Own w0 S R w0 (led b l^emp):=h.le (star_emp _)
  refine w_call (lmay_tri b s) (h.le ((star_emp _).trans (star_comm _ _))) fun r w h=>?_
  obtain ⟨hr,h⟩:=h.purP;rw [hr]
  refine w_ite (fun c=>?_) fun c=>?_
  ·by_cases c1:s < 0∨s ≥ 8
   ·rw [show noteL l s f=(8,l) by unfold noteL;rw [if_pos c1],if_pos c1]
    exact Own.retP rfl h.fin
   ·rw [if_neg c1] at c;cases c
  ·have c1:¬ (s < 0∨s ≥ 8):=fun x=>by rw [if_pos x] at c;cases c
   have hi:s.toNat < 8:=by omega
   obtain ⟨i,hii⟩:∃ i,i=s.toNat:=⟨_,rfl⟩
   have en:noteL l s f=((note1 (l i) f).1,upL l i (note1 (l i) f).2):=by unfold noteL;rw [if_neg c1,hii]
   rw [en,← hii]
   rw [← hii] at hi
   have h:Own w0 S R w (arr ⟨some ⟨b,0⟩,8,8⟩ KCt (rows l)^emp):=h.fin (A:=led b l^emp)
   have toL:∀ {w:World} (x:Ct),Own w0 S R w (arr ⟨some ⟨b,0⟩,8,8⟩ KCt ((rows l).set i x)^emp)→Own w0 S R w (led b (upL l i x)):=fun {w} x h=>by
    rw [rows_set l x hi] at h;exact h.keep
   have same:∀ {w:World},Own w0 S R w (arr ⟨some ⟨b,0⟩,8,8⟩ KCt (rows l)^emp)→Own w0 S R w (led b (upL l i (l i))):=fun {w} h=>by
    rw [upL_id];exact h.keep
   refine w_deref ⟨by omega,?_⟩
   by_cases c2:f < 0∨f ≥ 6
   ·have e1:note1 (l i) f=(1,l i):=by unfold note1;rw [if_pos c2]
    rw [e1]
    refine ⟨fun _ _=>False,fun _ _ hx=>hx.elim,?_⟩
    refine w_ite (fun _=>Own.retP rfl (same h)) fun c=>?_
    have c:¬ (f < 0∨f ≥ 6):=by simpa using c
    exact absurd c2 c
   ·have step:∀ {w:World} (y z:Ct),(∀ g,g=f→Ks.mk KCt z=splice (Ks.mk KCt y) (1+f.toNat) [.int .i64 (inc (cFt y f))])→Own w0 S R w (arr ⟨some ⟨b,0⟩,8,8⟩ KCt ((rows l).set i y)^emp)→z=(note1 (l i) f).2→(note1 (l i) f).1=0 →
      drw (deref (some ⟨b,0+i * 8⟩) fun q13=>deref (some ⟨b,0+i * 8⟩) fun q14=>req (0≤f∧f < 6) <| ld [.int .i64] ⟨q13.b,q13.o+1+f.toNat * 1⟩ fun (x15:Int)=>req (0≤f∧f < 6) <| st ⟨q14.b,q14.o+1+f.toNat * 1⟩ [.int .i64 (IntKind.i64.wrap (x15+(1:Int)))] <| fun w'=>Own w0 S R w' (pur ((0:Int)=(note1 (l i) f).1) (led b (upL l i (note1 (l i) f).2)))) w:=by
     intro w y z hz h e0 e1
     have hy:((rows l).set i y)[i]?=some y:=by rw [List.getElem?_set_self (by show i < 8;exact hi)]
     refine w_drw h fun w h=>w_deref (w_deref ⟨by omega,?_⟩)
     refine w_ldA h ⟨some ⟨b,0⟩,8,8⟩ i (1+f.toNat) y hy (by show (⟨b,0+i * 8+1+f.toNat * 1⟩:Pt)=⟨b,0+i * 8+(1+f.toNat)⟩;rw [Nat.mul_one,Nat.add_assoc (0+i * 8)]) (by show 1+f.toNat≤8;omega) (x:=cFt y f) (by
      rcases lt6 c2 with rfl | rfl | rfl | rfl | rfl | rfl<;>rfl) ?_
     refine ⟨by omega,?_⟩
     refine w_stA h ⟨some ⟨b,0⟩,8,8⟩ i (1+f.toNat) y z hy (by show (⟨b,0+i * 8+1+f.toNat * 1⟩:Pt)=⟨b,0+i * 8+(1+f.toNat)⟩;rw [Nat.mul_one,Nat.add_assoc (0+i * 8)]) (by show 1+f.toNat+1≤8;omega) (by simp) (hz f rfl) fun w h=>?_
     rw [List.set_set,e0] at h
     exact Own.retP e1.symm (toL _ h)
    refine w_join h (fun _=>arr ⟨some ⟨b,0⟩,8,8⟩ KCt ((rows l).set i (if f=0 then wait (l i) (inc (cWt (l i))) else wait (l i) (dec (cWt (l i)))))^emp) (fun _=>f=0∨cWt (l i)≠0) (fun _ w hj h=>?_) ?_
    ·by_cases c3:f=0
     ·rw [if_pos c3] at h
      have e1:note1 (l i) f=(0,bump (wait (l i) (inc (cWt (l i)))) f):=by unfold note1;rw [if_neg c2,if_pos c3]
      refine step (wait (l i) (inc (cWt (l i)))) (bump (wait (l i) (inc (cWt (l i)))) f) (fun _ _=>?_) h (by rw [e1]) (by rw [e1])
      rw [c3];rfl
     ·rw [if_neg c3] at h
      have hw:¬ cWt (l i)=0:=fun x=>hj.elim c3 fun y=>y x
      have e1:note1 (l i) f=(0,bump (wait (l i) (dec (cWt (l i)))) f):=by unfold note1;rw [if_neg c2,if_neg c3,if_neg hw]
      refine step (wait (l i) (dec (cWt (l i)))) (bump (wait (l i) (dec (cWt (l i)))) f) (fun _ _=>?_) h (by rw [e1]) (by rw [e1])
      rcases lt6 c2 with rfl | rfl | rfl | rfl | rfl | rfl<;>rfl
    ·refine w_ite (fun c=>?_) fun _=>?_
     ·have c:f < 0∨f ≥ 6:=by simpa using c
      exact absurd c c2
     refine w_ite (fun c3=>?_) fun c3=>?_
     ·have c3:f=0:=by simpa using c3
      refine w_deref (w_ldA h ⟨some ⟨b,0⟩,8,8⟩ i 7 (l i) (rows_at l hi) rfl (by decide) (x:=cWt (l i)) rfl (w_deref ?_))
      refine w_stA h ⟨some ⟨b,0⟩,8,8⟩ i 7 (l i) (wait (l i) (inc (cWt (l i)))) (rows_at l hi) rfl (by show 7+1≤8;decide) (by simp) rfl fun w h=>?_
      exact ⟨.inl c3,by rw [if_pos c3];exact h⟩
     ·have c3:¬ f=0:=by simpa using c3
      refine w_deref (w_ldA h ⟨some ⟨b,0⟩,8,8⟩ i 7 (l i) (rows_at l hi) rfl (by decide) (x:=cWt (l i)) rfl ?_)
      refine w_ite (fun c4=>?_) fun c4=>?_
      ·have c4:cWt (l i)=0:=by simpa using c4
       rw [show note1 (l i) f=(7,l i) by unfold note1;rw [if_neg c2,if_neg c3,if_pos c4]]
       exact Own.retP rfl (same h)
      ·have c4:¬ cWt (l i)=0:=by simpa using c4
       refine w_deref (w_ldA h ⟨some ⟨b,0⟩,8,8⟩ i 7 (l i) (rows_at l hi) rfl (by decide) (x:=cWt (l i)) rfl (w_deref ?_))
       refine w_stA h ⟨some ⟨b,0⟩,8,8⟩ i 7 (l i) (wait (l i) (dec (cWt (l i)))) (rows_at l hi) rfl (by show 7+1≤8;decide) (by simp) rfl fun w h=>?_
       exact ⟨.inr c4,by rw [if_neg c3];exact h⟩
end EgA

namespace EgB
open Arith ArithC FqM FqC SockC EgM EgA
open SockM (Sk emitS doneS writeS loseS newS skFl skTso)
abbrev mL (c:Cf) (ck:Nat) (p:Nat→Option Pt) (q l:Nat):List Lf:=[.int .i64 (cQ c),.int .i64 (cF c),.int .i64 (cL c),.int .i64 (cW c),.int .u64 (cH c),.int .u64 (cR c),.bool (cD c),.int .i64 (cCap c),.int .i64 (cMss c),.ptr (some ⟨ck,0⟩),.ptr (p 0),.ptr (p 1),.ptr (p 2),.ptr (p 3),.ptr (p 4),.ptr (p 5),.ptr (p 6),.ptr (p 7),.ptr (some ⟨q,0⟩),.ptr (some ⟨l,0⟩)]
theorem mL_at (c:Cf) (ck:Nat) (p:Nat→Option Pt) (q l:Nat) (i:Nat) (hi:i < 8):Ks.un [.ptr] (((mL c ck p q l).drop (0+10+i * 1)).take 1)=some (p i):=by
 rcases lt8 hi with rfl | rfl | rfl | rfl | rfl | rfl | rfl | rfl<;>rfl
theorem mL_up (c:Cf) (ck:Nat) (p:Nat→Option Pt) (q l:Nat) (i:Nat) (hi:i < 8) (x:Option Pt):upd (mL c ck p q l) (0+10+i * 1) [.ptr x]=mL c ck (upP p i x) q l:=by
 rcases lt8 hi with rfl | rfl | rfl | rfl | rfl | rfl | rfl | rfl<;>rfl
def soP (p:Option Pt) (x:Option Sk):SP:=match x with
 | none=>pur (p=none) emp
 | some f=>ex fun a:Nat=>pur (p=some ⟨a,0⟩) (sck a f)
instance (p:Option Pt) (x:Option Sk):NoR (soP p x):=by unfold soP;split<;>infer_instance
abbrev sos (p:Nat→Option Pt) (fl:Nat→Option Sk):Nat→SP:=fun j=>soP (p j) (fl j)
abbrev AllK (p:Nat→Option Pt) (fl:Nat→Option Sk):SP:=bigS (sos p fl) 8
abbrev ButK (p:Nat→Option Pt) (fl:Nat→Option Sk) (i:Nat):SP:=bigS (but (sos p fl) i) 8
def mach (b:Nat) (v:Mc):SP:=ex fun x:(Nat→Option Pt) × Nat × Nat × Nat=>blk b (mL v.c x.2.1 x.1 x.2.2.1 x.2.2.2)^blk x.2.1 [.int .u64 v.now]^que x.2.2.1 v.q^led x.2.2.2 v.l^AllK x.1 v.so
instance (b:Nat) (v:Mc):NoR (mach b v):=by unfold mach;infer_instance
section
variable {w0 w : World} {S0 R0 : Nat → Prop} {F G : SP}
theorem _root_.Go.X.Own.mach (h:Own w0 S0 R0 w F) (b:Nat) {v:Mc} [tk:TakeK EgB.mach b F v G]:∃ (p:Nat→Option Pt) (ck q l:Nat),Own w0 S0 R0 w (blk b (mL v.c ck p q l)^blk ck [.int .u64 v.now]^que q v.q^led l v.l^AllK p v.so^G):=by
 obtain ⟨s,h⟩:=(h.le tk.le).exP
 exact ⟨s.1,s.2.1,s.2.2.1,s.2.2.2,h.fin⟩
theorem _root_.Go.X.Own.mkMach (h:Own w0 S0 R0 w F) (b:Nat) (p:Nat→Option Pt) (ck q l:Nat) (v:Mc) [tk:Take (blk b (mL v.c ck p q l)^blk ck [.int .u64 v.now]^que q v.q^led l v.l^AllK p v.so) F G]:Own w0 S0 R0 w (EgB.mach b v^G) :=
 Own.toEx (f:=fun x:(Nat→Option Pt) × Nat × Nat × Nat=>blk b (mL v.c x.2.1 x.1 x.2.2.1 x.2.2.2)^blk x.2.1 [.int .u64 v.now]^que x.2.2.1 v.q^led x.2.2.2 v.l^AllK x.1 v.so) (p,ck,q,l) (h.le tk.le)
theorem _root_.Go.X.Own.outK (h:Own w0 S0 R0 w F) (p:Nat→Option Pt) (fl:Nat→Option Sk) {i:Nat} (hi:i < 8) {f:Sk} (hf:fl i=some f) [tk:Take (AllK p fl) F G]:∃ a,p i=some ⟨a,0⟩∧Own w0 S0 R0 w (sck a f^ButK p fl i^G):=by
 have h:Own w0 S0 R0 w ((soP (p i) (fl i)^ButK p fl i)^G):=(h.le tk.le).le (star_mono (big_out _ hi) Le.rfl)
 have h:=h.le (star_assoc _ _ _)
 rw [hf] at h
 obtain ⟨a,h⟩:=Own.exP (f:=fun a:Nat=>pur (p i=some ⟨a,0⟩) (sck a f)) h
 obtain ⟨hp,h⟩:=h.purP
 exact ⟨a,hp,h⟩
theorem _root_.Go.X.Own.noK (h:Own w0 S0 R0 w F) (p:Nat→Option Pt) (fl:Nat→Option Sk) {i:Nat} (hi:i < 8) (hf:fl i=none) [tk:Take (AllK p fl) F G]:p i=none∧Own w0 S0 R0 w (ButK p fl i^G):=by
 have h:Own w0 S0 R0 w ((soP (p i) (fl i)^ButK p fl i)^G):=(h.le tk.le).le (star_mono (big_out _ hi) Le.rfl)
 have h:=h.le (star_assoc _ _ _)
 rw [hf] at h
 obtain ⟨hp,h⟩:=Own.purP (p:=p i=none) (A:=emp) h
 exact ⟨hp,h.drop⟩
theorem butK_eq (p q:Nat→Option Pt) (fl gl:Nat→Option Sk) (i:Nat) (hp:∀ j,j≠i→q j=p j) (hf:∀ j,j≠i→gl j=fl j):ButK q gl i=ButK p fl i:=bigS_congr 8 fun j _=>by
 unfold but
 split
 ·rfl
 ·rename_i e;show soP _ _=soP _ _;rw [hp j e,hf j e]
theorem _root_.Go.X.Own.inK (h:Own w0 S0 R0 w F) (p:Nat→Option Pt) (fl:Nat→Option Sk) {i:Nat} (hi:i < 8) (q:Nat→Option Pt) (gl:Nat→Option Sk) (a:Nat) (f:Sk) (hp:∀ j,j≠i→q j=p j) (hf:∀ j,j≠i→gl j=fl j) (hq:q i=some ⟨a,0⟩) (hg:gl i=some f) [tk:Take (sck a f^ButK p fl i) F G]:Own w0 S0 R0 w (AllK q gl^G):=by
 have h:=(h.le tk.le).le (star_assoc _ _ _)
 have h:Own w0 S0 R0 w (soP (q i) (gl i)^ButK p fl i^G):=by
  rw [hg]
  exact Own.toEx (f:=fun a:Nat=>pur (q i=some ⟨a,0⟩) (sck a f)) a (Own.toPur hq h)
 rw [← butK_eq p q fl gl i hp hf] at h
 exact (h.le (star_assoc' _ _ _)).le (star_mono (big_in (sos q gl) hi) Le.rfl)
theorem _root_.Go.X.Own.inKN (h:Own w0 S0 R0 w F) (p:Nat→Option Pt) (fl:Nat→Option Sk) {i:Nat} (hi:i < 8) (q:Nat→Option Pt) (gl:Nat→Option Sk) (hp:∀ j,j≠i→q j=p j) (hf:∀ j,j≠i→gl j=fl j) (hq:q i=none) (hg:gl i=none) [tk:Take (ButK p fl i) F G]:Own w0 S0 R0 w (AllK q gl^G):=by
 have h:=(h.le tk.le)
 have h:Own w0 S0 R0 w (soP (q i) (gl i)^ButK p fl i^G):=by
  rw [hg]
  exact Own.toPur (p:=q i=none) (A:=emp) hq (h.le ((star_emp _).trans (star_comm _ _)))
 rw [← butK_eq p q fl gl i hp hf] at h
 exact (h.le (star_assoc' _ _ _)).le (star_mono (big_in (sos q gl) hi) Le.rfl)
theorem isNK (h:Own w0 S0 R0 w F) (p:Nat→Option Pt) (fl:Nat→Option Sk) {i:Nat} (hi:i < 8) [tk:Take (AllK p fl) F G]:(p i).isNone=(fl i).isNone:=by
 cases hf:fl i with
 | none=>rw [(h.noK p fl hi hf).1];rfl
 | some f=>obtain ⟨a,ha,_⟩:=h.outK p fl hi hf;rw [ha];rfl
end
structure OkMc (k:Int) (v:Mc):Prop where
 c:OkC v.c
 now:0≤v.now∧v.now≤4611686018427387904
 q:OkQ v.q
 so:∀ i x,v.so i=some x→SockV.IvB k x∧x.id=(i:Int)∧i < 8
 kr:0≤k∧k≤1000000
theorem OkMc.un {k:Int} {v:Mc} (h:OkMc k v):U v.now:=by have:=h.now;unfold U;omega
theorem mnowO_tri (b:Nat) (c:Cf) (p:Nat→Option Pt) (ck q l:Nat) (now:Int):Tri Tryz.prog N_egress_Machine_Now [.lf (.ptr (some ⟨b,0⟩))] [.lf (.int .u64)] (blk b (mL c ck p q l)^blk ck [.int .u64 now]) (fun r=>pur (r=now) (blk b (mL c ck p q l)^blk ck [.int .u64 now])) :=
 tri_0 (call_egress_Machine_Now (some ⟨b,0⟩)) fun w0 S R h=>by
  unfold W_egress_Machine_Now
  refine w_ite (fun c=>(by simp at c)) fun _=>?_
  refine w_deref (w_ld (x:=some ⟨ck,0⟩) h rfl (w_call (now_tri ck now) h fun r w h=>?_))
  obtain ⟨hr,h⟩:=h.purP;rw [hr]
  exact Own.retP rfl h.fin
theorem is_tri (i:Int):Tri Tryz.prog N_egress_is [.lf (.int .i64 i)] [.lf .bool] emp (fun r=>pur (r=decide (0≤i∧i < 8)) emp) :=
 tri_0 (call_egress_is i) fun w0 S R h=>by
  unfold W_egress_is
  refine Own.retP ?_ h
  rw [Bool.eq_iff_iff];simp
abbrev md0:BbrMm.St:=(0,0,0,0,0,0,0,0,false,false)
end EgB

namespace EgC
open Arith ArithC TreeF FqM FqC SockC EgM EgA EgB
open SockM (Sk emitS doneS writeS loseS newS skFl skTso)
theorem rates_at (so:Nat→Option Sk) {i:Nat} (h:i < 8):(ratesF so)[i]?=some (rateO (so i)):=by
 rcases lt8 h with rfl | rfl | rfl | rfl | rfl | rfl | rfl | rfl<;>rfl
theorem rates_U {k:Int} {v:Mc} (hv:OkMc k v):∀ x∈ratesF v.so,U x:=by
 have one:∀ i,U (rateO (v.so i)):=fun i=>by
  unfold rateO
  split
  ·exact ⟨by decide,by decide⟩
  ·rename_i x hx;exact (hv.so i x hx).1.i.ok.md.rate
 intro x hx
 obtain ⟨i,hi⟩:=List.mem_iff_getElem?.1 hx
 have hi8:i < 8:=by have:=(List.getElem?_eq_some_iff.1 hi).1;exact this
 rw [rates_at v.so hi8] at hi
 cases hi
 exact one i
abbrev KP8:Ks:=[.ptr,.ptr,.ptr,.ptr,.ptr,.ptr,.ptr,.ptr]
abbrev p8 (p:Nat→Option Pt):Ks.T KP8:=(p 0,p 1,p 2,p 3,p 4,p 5,p 6,p 7)
theorem p8_at (p:Nat→Option Pt) {i:Nat} (h:i < 8):Ks.mk [.ptr] (p i)=((Ks.mk KP8 (p8 p)).drop (i * 1)).take 1:=by
 rcases lt8 h with rfl | rfl | rfl | rfl | rfl | rfl | rfl | rfl<;>rfl
theorem rates_tri (b:Nat) (k:Int) (v:Mc) (hv:OkMc k v) (p:Nat→Option Pt) (ck q l:Nat):Tri Tryz.prog N_egress_Machine_rates [.lf (.ptr (some ⟨b,0⟩))] [.lf .sl] (blk b (mL v.c ck p q l)^AllK p v.so) (fun r=>arr r KU (ratesF v.so)^blk b (mL v.c ck p q l)^AllK p v.so) :=
 tri_0 (call_egress_Machine_rates (some ⟨b,0⟩)) fun w0 S R h=>by
  unfold W_egress_Machine_rates
  refine w_deref (w_ld (x:=p8 p) h rfl ?_)
  have h:=h.nil KU
  have h:Own w0 S R w0 (arr ⟨none,0,0⟩ KU ((ratesF v.so).take 0)^blk b (mL v.c ck p q l)^AllK p v.so):=h
  refine w_loopE (fun (y:Sl × Int) (_:Unit)=>arr y.1 KU ((ratesF v.so).take y.2.toNat)^blk b (mL v.c ck p q l)^AllK p v.so) (fun (y:Sl × Int) _=>0≤y.2∧y.2≤8) (fun (y:Sl × Int) _=>(8 - y.2).toNat) () h ⟨by decide,by decide⟩ ?_
  rintro K (y:Sl × Int) _ w ⟨h0,h1⟩ h k
  obtain ⟨s,i⟩:=y
  dsimp only at h0 h1 h ⊢
  refine w_ite (fun c=>?_) fun c=>?_
  ·have c:i < 8:=of_decide_eq_true c
   have hi8:i.toNat < 8:=by omega
   have hwi:IntKind.i64.wrap (i+1)=i+1:=wi (by omega) (by omega)
   have hin:(i+1).toNat=i.toNat+1:=by omega
   refine ⟨⟨h0,c⟩,p i.toNat,p8_at p hi8,?_⟩
   rw [hwi]
   have hlen:((ratesF v.so).take i.toNat).length=i.toNat:=by rw [List.length_take];show min i.toNat 8=_;omega
   refine w_join h (fun _=>arr s KU ((ratesF v.so).take i.toNat)^blk b (mL v.c ck p q l)^AllK p v.so) (fun r:Int=>r=rateO (v.so i.toNat)) (fun (r:Int) w hr h=>?_) ?_
   ·refine w_new h fun n9 w h=>?_
    have h:=h.blkArr n9 KU [r] rfl (by simp)
    have h:Own w0 S R w (arr ⟨some ⟨n9,0⟩,1,1⟩ KU [r]^_):=h
    refine w_app (K:=KU) (s:=s) (xs:=(ratesF v.so).take i.toNat) h rfl (by rw [hlen];simp only [List.length_singleton];omega) fun s' w _ h=>?_
    have e:(ratesF v.so).take i.toNat++[r]=(ratesF v.so).take (i+1).toNat:=by
     rw [hin,List.take_add_one,rates_at v.so hi8,hr];rfl
    rw [e] at h
    exact k (s',i+1) () w ⟨by show 0≤i+1;omega,by show i+1≤8;omega⟩ h.fin (by show (8 - (i+1)).toNat < (8 - i).toNat;omega)
   ·cases hs:v.so i.toNat with
    | none =>
     obtain ⟨hp,_⟩:=h.noK p v.so hi8 hs
     rw [hp]
     refine w_ite (fun c=>(by simp at c)) fun _=>?_
     exact ⟨rfl,h⟩
    | some x =>
     obtain ⟨a,hp,h⟩:=h.outK p v.so hi8 hs
     rw [hp]
     refine w_ite (fun _=>?_) fun c=>(by simp at c)
     refine w_call (SockC.model_tri a x) h fun r w h=>?_
     obtain ⟨hr,h⟩:=h.purP;rw [hr]
     have h:=h.inK p v.so hi8 p v.so a x (fun _ _=>rfl) (fun _ _=>rfl) hp hs
     exact ⟨rfl,h.fin⟩
  ·have c:¬ i < 8:=of_decide_eq_false c
   have e:(ratesF v.so).take i.toNat=ratesF v.so:=List.take_of_length_le (by show 8≤i.toNat;omega)
   rw [e] at h
   exact h
abbrev KI:Ks:=[.int .i64]
def outp (a:Nat) (o:Ou):SP:=ex fun s:Sl × Sl × Sl=>blk a [.sl s.1,.sl s.2.1,.sl s.2.2,.int .u64 o.wd]^arr s.1 KS o.dep^arr s.2.1 KS o.dr^arr s.2.2 KI o.ft
instance (a:Nat) (o:Ou):NoR (outp a o):=by unfold outp;infer_instance
section
variable {w0 w : World} {S0 R0 : Nat → Prop} {F G : SP}
theorem _root_.Go.X.Own.outp (h:Own w0 S0 R0 w F) (b:Nat) {v:Ou} [tk:TakeK EgC.outp b F v G]:∃ (s1 s2 s3:Sl),Own w0 S0 R0 w (blk b [.sl s1,.sl s2,.sl s3,.int .u64 v.wd]^arr s1 KS v.dep^arr s2 KS v.dr^arr s3 KI v.ft^G):=by
 obtain ⟨s,h⟩:=(h.le tk.le).exP
 exact ⟨s.1,s.2.1,s.2.2,h.fin⟩
theorem _root_.Go.X.Own.mkOutp (h:Own w0 S0 R0 w F) (b:Nat) (s1 s2 s3:Sl) (v:Ou) [tk:Take (blk b [.sl s1,.sl s2,.sl s3,.int .u64 v.wd]^arr s1 KS v.dep^arr s2 KS v.dr^arr s3 KI v.ft) F G]:Own w0 S0 R0 w (EgC.outp b v^G) :=
 Own.toEx (f:=fun s:Sl × Sl × Sl=>blk b [.sl s.1,.sl s.2.1,.sl s.2.2,.int .u64 v.wd]^arr s.1 KS v.dep^arr s.2.1 KS v.dr^arr s.2.2 KI v.ft) (s1,s2,s3) (h.le tk.le)
end
def pullE (m o:Nat) (n6:Nat) (is:Bool) (R:WP):WP :=
 ite' is (
 drw <|
 deref (some ⟨m,0⟩) fun q7 =>
 ld [.int .i64] ⟨n6,0⟩ fun (x8:Int) =>
 ld [.ptr] ⟨q7.b,q7.o+19⟩ fun (x9:Option Pt) =>
 call Tryz.prog N_ledger_Ledger_Note [.lf (.ptr x9),.lf (.int .i64 x8),.lf (.int .i64 (1:Int))] [.lf (.int .i64)] fun (r10:Int) =>
 ld KS ⟨n6,0⟩ fun (x11:Sg) =>
 new [.int .i64 x11.1,.int .u64 x11.2.1,.int .i64 x11.2.2.1,.int .u64 x11.2.2.2.1,.bool x11.2.2.2.2] fun n12 =>
 deref (some ⟨o,0⟩) fun q13 =>
 st q13 [.sl ⟨some ⟨n12,0⟩,1,1⟩] <|
 R) <|
 deref (some ⟨m,0⟩) fun q14 =>
 ld [.ptr] ⟨q14.b,q14.o+18⟩ fun (x15:Option Pt) =>
 call Tryz.prog N_fq_Queue_Watchdog [.lf (.ptr x15)] [.lf (.int .u64),.lf .bool] fun (r16:Int × Bool) =>
 ite' r16.2 (
 deref (some ⟨o,0⟩) fun q17 =>
 st ⟨q17.b,q17.o+3⟩ [.int .u64 (if (1:Int) > r16.1 then (1:Int) else r16.1)] <|
 R) <|
 R
theorem w_pullE {w0 w:World} {S0 R0:Nat→Prop} {G:SP} {R:WP} {b a n6 ck q l:Nat} {p:Nat→Option Pt} {v:Mc} {o:Ou}
  (h:Own w0 S0 R0 w (blk n6 (Ks.mk KS (FqG.outS (deqF v.q v.now (ratesF v.so)).1).1)^(blk b (mL ({ v with q:=(deqF v.q v.now (ratesF v.so)).2 }).c ck p q l)^blk ck [.int .u64 ({ v with q:=(deqF v.q v.now (ratesF v.so)).2 }).now]^que q ({ v with q:=(deqF v.q v.now (ratesF v.so)).2 }).q^led l ({ v with q:=(deqF v.q v.now (ratesF v.so)).2 }).l^AllK p ({ v with q:=(deqF v.q v.now (ratesF v.so)).2 }).so)^outp a o^G))
  (k:∀ w',Own w0 S0 R0 w' (mach b (pullF v o).2^outp a (pullF v o).1^G)→R w'):pullE b a n6 (FqG.outS (deqF v.q v.now (ratesF v.so)).1).2 R w:=by
 unfold pullE
 cases hd:deqF v.q v.now (ratesF v.so) with
 | mk x q' =>
 rw [hd] at h
 dsimp only at h ⊢
 cases x with
 | some s =>
  have e:pullF v o=({ o with dep:=[s] },{ v with q:=q',l:=(noteL v.l (sK s) 1).2 }):=by unfold pullF;rw [hd]
  rw [e] at k
  refine w_ite (fun _=>?_) fun c=>(by cases c)
  refine w_drw h fun w h=>w_deref (w_ld (x:=sK s) h rfl (w_ld (x:=some ⟨l,0⟩) h rfl (w_call (note_tri l v.l (sK s) 1) h fun r w h=>?_)))
  obtain ⟨_,h⟩:=h.purP
  refine w_ldAll (b:=n6) (x:=s) h rfl (w_new h fun n12 w h=>?_)
  have h:=h.blkArr n12 KS [s] rfl (by simp)
  have h:Own w0 S0 R0 w (arr ⟨some ⟨n12,0⟩,1,1⟩ KS [s]^_):=h
  obtain ⟨s1,s2,s3,h⟩:=h.outp a
  refine w_deref (w_setTo h a [.sl ⟨some ⟨n12,0⟩,1,1⟩,.sl s2,.sl s3,.int .u64 o.wd] rfl rfl rfl fun w h=>?_)
  have h:=h.mkOutp a ⟨some ⟨n12,0⟩,1,1⟩ s2 s3 { o with dep:=[s] }
  have h:=h.mkMach b p ck q l { v with q:=q',l:=(noteL v.l (sK s) 1).2 }
  exact k w h.fin
 | none =>
  refine w_ite (fun c=>(by cases c)) fun _=>?_
  refine w_deref (w_ld (x:=some ⟨q,0⟩) h rfl (w_call (FqE.min_tri q q') h fun r w h=>?_))
  obtain ⟨hr,h⟩:=h.purP;rw [hr]
  dsimp only
  refine w_ite (fun c=>?_) fun c=>?_
  ·have e:pullF v o=({ o with wd:=if 1 > (minF q'.ks).1.1 then 1 else (minF q'.ks).1.1 },{ v with q:=q' }):=by unfold pullF;rw [hd];dsimp only;rw [if_pos c]
   rw [e] at k
   obtain ⟨s1,s2,s3,h⟩:=h.outp a
   refine w_deref (w_setTo h a [.sl s1,.sl s2,.sl s3,.int .u64 (if (1:Int) > (minF q'.ks).1.1 then (1:Int) else (minF q'.ks).1.1)] rfl rfl rfl fun w h=>?_)
   have h:=h.mkOutp a s1 s2 s3 { o with wd:=if 1 > (minF q'.ks).1.1 then 1 else (minF q'.ks).1.1 }
   have h:=h.mkMach b p ck q l { v with q:=q' }
   exact k w h.fin
  ·have e:pullF v o=(o,{ v with q:=q' }):=by unfold pullF;rw [hd];dsimp only;rw [if_neg (by rw [c];simp)]
   rw [e] at k
   have h:=h.mkMach b p ck q l { v with q:=q' }
   exact k w h.fin
theorem w_both {A B:WP} {w:World} (h:A w) (k:B w):both A B w:=⟨h,k⟩
theorem pull_tri (b a:Nat) (k:Int) (v:Mc) (hv:OkMc k v) (o:Ou):Tri Tryz.prog N_egress_Machine_pull [.lf (.ptr (some ⟨b,0⟩)),.lf (.ptr (some ⟨a,0⟩))] [] (mach b v^outp a o) (fun _=>mach b (pullF v o).2^outp a (pullF v o).1) :=
 tri_0 (call_egress_Machine_pull (some ⟨b,0⟩) (some ⟨a,0⟩)) fun w0 S R h=>by
  unfold W_egress_Machine_pull
  obtain ⟨p,ck,q,l,h⟩:=(h.le (star_emp _)).mach b
  have hU:=rates_U hv
  have zS:List Lf:=[.int .i64 0,.int .u64 0,.int .i64 0,.int .u64 0,.bool false]
  have fin:∀ {w:World} {n6:Nat},Own w0 S R w (blk n6 (Ks.mk KS (FqG.outS (deqF v.q v.now (ratesF v.so)).1).1)^(blk b (mL ({ v with q:=(deqF v.q v.now (ratesF v.so)).2 }).c ck p q l)^blk ck [.int .u64 ({ v with q:=(deqF v.q v.now (ratesF v.so)).2 }).now]^que q ({ v with q:=(deqF v.q v.now (ratesF v.so)).2 }).q^led l ({ v with q:=(deqF v.q v.now (ratesF v.so)).2 }).l^AllK p ({ v with q:=(deqF v.q v.now (ratesF v.so)).2 }).so)^outp a o^emp)→pullE b a n6 (FqG.outS (deqF v.q v.now (ratesF v.so)).1).2 (fun w=>Own w0 S R w (mach b (pullF v o).2^outp a (pullF v o).1)) w:=fun {w n6} h=>w_pullE h fun w' h=>h.fin
  refine w_drw h fun w h=>w_deref (w_ld (x:=some ⟨q,0⟩) h rfl (w_both ?_ ?_))
  ·refine w_call (mnowO_tri b v.c p ck q l v.now) h fun r w h=>?_
   obtain ⟨hr,h⟩:=h.purP;rw [hr]
   refine w_chk h rfl (w_both ?_ ?_)
   ·refine w_call (rates_tri b k v hv p ck q l) h fun r w h=>?_
    refine w_chk h rfl (w_both ?_ ?_)
    ·refine w_callL (A:=que q v.q) (Q:=rarr r KU (ratesF v.so)) (FqG.deq_tri q v.q hv.q v.now hv.un r (ratesF v.so) hU) h fun r w h=>?_
     obtain ⟨hr,h⟩:=h.purP;rw [hr]
     refine w_new h fun n6 w h=>w_chk h rfl (w_setAll h (by rfl) fun w h=>?_)
     exact fin h.fin
    ·refine w_new h fun n6 w h=>w_chk h rfl ?_
     refine w_callL (A:=que q v.q) (Q:=rarr r KU (ratesF v.so)) (FqG.deq_tri q v.q hv.q v.now hv.un r (ratesF v.so) hU) h fun r w h=>?_
     obtain ⟨hr,h⟩:=h.purP;rw [hr]
     refine w_setAll h (by rfl) fun w h=>?_
     exact fin h.fin
   ·refine w_new h fun n6 w h=>w_chk h rfl ?_
    refine w_call (rates_tri b k v hv p ck q l) h fun r w h=>?_
    refine w_chk h rfl ?_
    refine w_callL (A:=que q v.q) (Q:=rarr r KU (ratesF v.so)) (FqG.deq_tri q v.q hv.q v.now hv.un r (ratesF v.so) hU) h fun r w h=>?_
    obtain ⟨hr,h⟩:=h.purP;rw [hr]
    refine w_setAll h (by rfl) fun w h=>?_
    exact fin h.fin
  ·refine w_new h fun n6 w h=>w_chk h rfl ?_
   refine w_call (mnowO_tri b v.c p ck q l v.now) h fun r w h=>?_
   obtain ⟨hr,h⟩:=h.purP;rw [hr]
   refine w_chk h rfl ?_
   refine w_call (rates_tri b k v hv p ck q l) h fun r w h=>?_
   refine w_chk h rfl ?_
   refine w_callL (A:=que q v.q) (Q:=rarr r KU (ratesF v.so)) (FqG.deq_tri q v.q hv.q v.now hv.un r (ratesF v.so) hU) h fun r w h=>?_
   obtain ⟨hr,h⟩:=h.purP;rw [hr]
   refine w_setAll h (by rfl) fun w h=>?_
   exact fin h.fin
end EgC

namespace EgD
open Arith ArithC TreeF FqM FqC SockC EgM EgA EgB EgC
open SockM (Sk emitS doneS writeS loseS newS skFl skTso mayS)
open SockQ (Went gN gF gS gA emit_went)
open SockO (IvS pcs_lost lost_mem)
open SockV (IvB)
theorem drop_tri (b a:Nat) (c:Cf) (p:Nat→Option Pt) (ck q l:Nat) (L:Nat→Ct) (o:Ou) (s:Sg) (f:Int) (hl:o.dr.length≤1000∧o.ft.length≤1000):Tri Tryz.prog N_egress_Machine_drop [.lf (.ptr (some ⟨b,0⟩)),.lf (.ptr (some ⟨a,0⟩)),.agg (Ks.mk KS s),.lf (.int .i64 f)] []
  (blk b (mL c ck p q l)^led l L^outp a o) (fun _=>blk b (mL c ck p q l)^led l (dropF L o s f).2^outp a (dropF L o s f).1) :=
 tri_0 (call_egress_Machine_drop (some ⟨b,0⟩) (some ⟨a,0⟩) s f) fun w0 S R h=>by
  unfold W_egress_Machine_drop
  refine w_new (h.le (star_emp _)) fun n1 w h=>w_drw h fun w h=>w_deref (w_ld (x:=sK s) h rfl (w_ld (x:=some ⟨l,0⟩) h rfl (w_call (note_tri l L (sK s) f) h fun r w h=>?_)))
  obtain ⟨_,h⟩:=h.purP
  obtain ⟨s1,s2,s3,h⟩:=h.outp a
  have hl2:o.dr.length+[s].length≤4294967296:=by have:=hl.1;simp only [List.length_singleton];omega
  have hl3:o.ft.length+[f].length≤4294967296:=by have:=hl.2;simp only [List.length_singleton];omega
  have fin:∀ {w:World} {t2 t3:Sl},Own w0 S R w (arr t3 KI (o.ft++[f])^arr t2 KS (o.dr++[s])^blk a [.sl s1,.sl s2,.sl s3,.int .u64 o.wd]^arr s1 KS o.dep^blk b (mL c ck p q l)^led l (noteL L (sK s) f).2^emp) →
    (deref (some ⟨a,0⟩) fun q15=>st ⟨q15.b,q15.o+1⟩ [.sl t2] <| deref (some ⟨a,0⟩) fun q16=>st ⟨q16.b,q16.o+2⟩ [.sl t3] <| fun w=>Own w0 S R w (blk b (mL c ck p q l)^led l (dropF L o s f).2^outp a (dropF L o s f).1)) w:=by
   intro w t2 t3 h
   refine w_deref (w_setTo h a [.sl s1,.sl t2,.sl s3,.int .u64 o.wd] rfl rfl rfl fun w h=>?_)
   refine w_deref (w_setTo h a [.sl s1,.sl t2,.sl t3,.int .u64 o.wd] rfl rfl rfl fun w h=>?_)
   have h:=h.mkOutp a s1 t2 t3 { o with dr:=o.dr++[s],ft:=o.ft++[f] }
   exact h.fin (A:=blk b (mL c ck p q l)^led l (noteL L (sK s) f).2^outp a { o with dr:=o.dr++[s],ft:=o.ft++[f] })
  refine w_drw h fun w h=>w_ldAll (b:=n1) (x:=s) h rfl (w_deref (w_deref (w_ld (x:=s2) h rfl (w_ld (x:=s3) h rfl (w_both ?_ ?_)))))
  ·refine w_new h fun n11 w h=>w_chk h rfl (w_chk h rfl (w_both ?_ ?_))
   ·have h:=h.blkArr n11 KS [s] rfl (by simp)
    have h:Own w0 S R w (arr ⟨some ⟨n11,0⟩,1,1⟩ KS [s]^_):=h
    refine w_app (K:=KS) (s:=s2) (xs:=o.dr) h rfl hl2 fun t2 w _ h=>?_
    refine w_chk h rfl (w_new h fun n13 w h=>w_chk h rfl (w_chk h rfl (w_chkAll (b:=n1) h ?_)))
    have h:=h.blkArr n13 KI [f] rfl (by simp)
    have h:Own w0 S R w (arr ⟨some ⟨n13,0⟩,1,1⟩ KI [f]^_):=h
    refine w_app (K:=KI) (s:=s3) (xs:=o.ft) h rfl hl3 fun t3 w _ h=>?_
    exact fin h.fin
   ·refine w_new h fun n17 w h=>w_chk h rfl (w_chk h rfl (w_chkAll (b:=n1) h ?_))
    have h:=h.blkArr n11 KS [s] rfl (by simp)
    have h:Own w0 S R w (arr ⟨some ⟨n11,0⟩,1,1⟩ KS [s]^_):=h
    refine w_app (K:=KS) (s:=s2) (xs:=o.dr) h rfl hl2 fun t2 w _ h=>?_
    refine w_chk h rfl ?_
    have h:=h.blkArr n17 KI [f] rfl (by simp)
    have h:Own w0 S R w (arr ⟨some ⟨n17,0⟩,1,1⟩ KI [f]^_):=h
    refine w_app (K:=KI) (s:=s3) (xs:=o.ft) h rfl hl3 fun t3 w _ h=>?_
    exact fin h.fin
  ·refine w_new h fun n22 w h=>w_chk h rfl (w_chk h rfl (w_chkAll (b:=n1) h (w_new h fun n23 w h=>w_chk h rfl (w_chk h rfl ?_))))
   have h:=h.blkArr n23 KS [s] rfl (by simp)
   have h:Own w0 S R w (arr ⟨some ⟨n23,0⟩,1,1⟩ KS [s]^_):=h
   refine w_app (K:=KS) (s:=s2) (xs:=o.dr) h rfl hl2 fun t2 w _ h=>?_
   refine w_chk h rfl ?_
   have h:=h.blkArr n22 KI [f] rfl (by simp)
   have h:Own w0 S R w (arr ⟨some ⟨n22,0⟩,1,1⟩ KI [f]^_):=h
   refine w_app (K:=KI) (s:=s3) (xs:=o.ft) h rfl hl3 fun t3 w _ h=>?_
   exact fin h.fin
theorem went_r {k:Int} {v v':Sk} {now:Int} {g:Sg} (hv:IvS k v) (hv':IvS k v') (hw:Went v now g v'):0≤gF g∧gF g+gN g≤4611686018427387904:=by
 have b1:=hv'.ok.bf.nw
 have b2:=hv'.ok.bf.w
 have b3:=hv.ok.bf.u
 have b4:=hv.ok.bf.un
 cases hx:gA g with
 | false =>
  obtain ⟨n1,n2,_⟩:=hw.new hx
  have:SockA.bN v'.bf=SockA.bN v.bf+gN g:=by rw [n2]
  rw [n1];omega
 | true =>
  obtain ⟨_,n2,_⟩:=hw.old hx
  obtain ⟨z,hz,ez⟩:=lost_mem (l:=v.bd.1) (by rw [n2])
  have hzo:=hv.pc z hz
  rw [n2] at ez
  have e1:gF g=Board.pFrom z:=congrArg Prod.fst ez
  have e2:gF g+gN g=Board.pTo z:=congrArg Prod.snd ez
  have:=hzo.f
  have:=hzo.t
  omega
theorem cnt_set {α:Type} {f:α→Bool}:∀ {l:List α} {i:Nat} {p q:α},l[i]?=some p→f p=true→f q=false→(l.set i q).countP f+1=l.countP f
 | [],_,_,_,h,_,_=>by cases h
 | a :: l,0,p,q,h,hp,hq=>by
  cases h
  rw [List.set_cons_zero,List.countP_cons_of_neg (by rw [hq];simp),List.countP_cons_of_pos hp]
 | a :: l,i+1,p,q,h,hp,hq=>by
  have:=cnt_set (l:=l) (i:=i) (p:=p) (q:=q) (by simpa using h) hp hq
  rw [List.set_cons_succ,List.countP_cons,List.countP_cons];omega
theorem fresh_less {k:Int} {v v':Sk} {now:Int} {g:Sg} (hv:IvS k v) (hv':IvS k v') (hw:Went v now g v'):fresh v' < fresh v:=by
 have b1:=hv'.ok.bf.nw
 have hn:=hw.n
 have e0:fresh v'=(SockA.bW v'.bf - SockA.bN v'.bf).toNat+v'.bd.1.countP (fun p=>Board.pLo p):=rfl
 have e1:fresh v=(SockA.bW v.bf - SockA.bN v.bf).toNat+v.bd.1.countP (fun p=>Board.pLo p):=rfl
 rw [e0,e1]
 cases hx:gA g with
 | false =>
  obtain ⟨_,n2,_,_,n5⟩:=hw.new hx
  have f1:SockA.bN v'.bf=SockA.bN v.bf+gN g:=by rw [n2]
  have f2:SockA.bW v'.bf=SockA.bW v.bf:=by rw [n2]
  have f3:v'.bd.1.countP (fun p=>Board.pLo p)=v.bd.1.countP (fun p=>Board.pLo p):=by
   rw [n5];show (v.bd.1++[_]).countP _=_
   rw [List.countP_append,List.countP_cons_of_neg (by show ¬ (false=true);simp)];rfl
  rw [f3];omega
 | true =>
  obtain ⟨n1,n2,n3⟩:=hw.old hx
  obtain ⟨i,pp,hp,hlo,_,e2⟩:=SockQ.lost_at (l:=v.bd.1) (by rw [n2])
  have f3:v'.bd.1.countP (fun p=>Board.pLo p)+1=v.bd.1.countP (fun p=>Board.pLo p):=by
   rw [n3]
   show (Board.againF v.bd.1 _).countP _+1=_
   rw [e2]
   exact cnt_set hp hlo rfl
  rw [n1];omega
theorem fresh_done (v:Sk) (n:Int):fresh (doneS v n).2=fresh v:=by unfold doneS;split<;>rfl
theorem ivB_emit {k:Int} {v:Sk} (h:IvB k v) {now:Int} (hn:U now):IvB k (emitS v now).2 :=
 { i:=h.i.emit hn,kr:=h.kr,g:=(SockV.emit_g v now).1.trans h.g,b:=by rw [(SockV.emit_g v now).2];exact h.b }
theorem ivB_done {k:Int} {v:Sk} (h:IvB k v) (n:Int):IvB k (doneS v n).2 :=
 { i:=h.i.done n,kr:=h.kr,g:=by rw [show (doneS v n).2.sp=v.sp by unfold doneS;split<;>rfl];exact h.g,b:=by rw [show (doneS v n).2.md=v.md by unfold doneS;split<;>rfl];exact h.b }
structure OkPm (k i:Int) (s:Pm):Prop where
 v:IvB k s.v
 id:s.v.id=i
 q:OkQ s.q
theorem emit_id (v:Sk) (now:Int):(emitS v now).2.id=v.id:=by
 unfold emitS
 split
 ·exact (SockQ.may_same v).id
 ·show (SockM.goS v now).2.id=v.id
  unfold SockM.goS;split<;>rfl
theorem done_id (v:Sk) (n:Int):(doneS v n).2.id=v.id:=by unfold doneS;split<;>rfl
theorem went_of {k:Int} {v:Sk} (h:IvB k v) {now:Int} (hn:U now) (he:(emitS v now).1.2=0):Went v now (emitS v now).1.1 (emitS v now).2:=emit_went h.i hn he
theorem went_ok {k:Int} {v:Sk} (h:IvB k v) {now:Int} (hn:U now) (he:(emitS v now).1.2=0):U (sFr (emitS v now).1.1)∧U (sSt (emitS v now).1.1):=by
 have hw:=went_of h hn he
 have hr:=went_r h.i (h.i.emit hn) hw
 have h1:=hw.n
 refine ⟨⟨hr.1,by show gF _ < _;omega⟩,?_⟩
 show U (gS _)
 rw [hw.st];exact SockO.U_max h.i.ok.nx hn
theorem enter_ok {k i now:Int} {s:Pm} (h:OkPm k i s) (hn:U now) (he:(emitS s.v now).1.2=0):OkPm k i (enter i now s).1∧fresh (enter i now s).1.v < fresh s.v:=by
 have hs:=went_ok h.v hn he
 have hf:=fresh_less h.v.i (h.v.i.emit hn) (went_of h.v hn he)
 unfold enter
 dsimp only
 split
 ·exact ⟨⟨ivB_emit h.v hn,(emit_id _ _).trans h.id,h.q.enq hs hn⟩,hf⟩
 ·exact ⟨⟨ivB_done (ivB_emit h.v hn) _,(done_id _ _).trans ((emit_id _ _).trans h.id),h.q.enq hs hn⟩,by rw [fresh_done];exact hf⟩
theorem pumpN_ok {k i now:Int} (hn:U now):∀ (n:Nat) (s:Pm),OkPm k i s→OkPm k i (pumpN i now n s)
 | 0,_,h=>h
 | n+1,s,h=>by
  unfold pumpN
  by_cases he:(emitS s.v now).1.2=0
  ·rw [if_neg (fun c=>c he)]
   have h2:=(enter_ok h hn he).1
   split
   ·exact pumpN_ok hn n _ h2
   ·exact h2
  ·rw [if_pos he]
   exact ⟨ivB_emit h.v hn,(emit_id _ _).trans h.id,h.q⟩
theorem pump_tri (b a:Nat) (k:Int) (v:Mc) (hv:OkMc k v) (i:Nat) (x:Sk) (hx:v.so i=some x) (o:Ou) (hl:o.dr.length≤999∧o.ft.length≤999):Tri Tryz.prog N_egress_Machine_pump [.lf (.ptr (some ⟨b,0⟩)),.lf (.int .i64 (i:Int)),.lf (.ptr (some ⟨a,0⟩))] [] (mach b v^outp a o) (fun _=>mach b (pumpM v i x o).2^outp a (pumpM v i x o).1) :=
 tri_0 (call_egress_Machine_pump (some ⟨b,0⟩) (i:Int) (some ⟨a,0⟩)) fun w0 S R h=>by
  unfold W_egress_Machine_pump
  obtain ⟨hxi,hid,hi⟩:=hv.so i x hx
  have hn:=hv.un
  obtain ⟨p,ck,q,l,h⟩:=(h.le (star_emp _)).mach b
  obtain ⟨ap,hp,h⟩:=h.outK p v.so hi hx
  have s0:OkPm k i ⟨x,v.q,v.l,o⟩:=⟨hxi,hid,hv.q⟩
  have eit:((i:Nat):Int).toNat=i:=Int.toNat_natCast i
  have hat:Ks.un [.ptr] (((mL v.c ck p q l).drop (0+10+((i:Nat):Int).toNat * 1)).take 1)=some (some ⟨ap,0⟩):=by rw [eit,mL_at v.c ck p q l i hi,hp]
  refine w_deref ⟨by omega,w_ld h hat ?_⟩
  have fin:∀ {w:World} (s:Pm),s=pumpF i v.now ⟨x,v.q,v.l,o⟩→Own w0 S R w (blk b (mL v.c ck p q l)^blk ck [.int .u64 v.now]^que q s.q^led l s.l^sck ap s.v^ButK p v.so i^outp a s.o^emp)→Own w0 S R w (mach b (pumpM v i x o).2^outp a (pumpM v i x o).1):=by
   intro w s hs h
   have h:=h.inK p v.so hi p (upL v.so i (some s.v)) ap s.v (fun _ _=>rfl) (fun j hj=>upL_ne v.so _ hj) hp (upL_same v.so i _)
   have h:=h.mkMach b p ck q l { v with so:=upL v.so i (some s.v),q:=s.q,l:=s.l }
   rw [show pumpM v i x o=(s.o,{ v with so:=upL v.so i (some s.v),q:=s.q,l:=s.l }) by unfold pumpM;rw [← hs]]
   exact h.fin
  have h:Own w0 S R w0 (blk b (mL v.c ck p q l)^blk ck [.int .u64 v.now]^que q v.q^led l v.l^sck ap x^ButK p v.so i^outp a o^emp):=h.fin
  refine w_loopE (fun (_:Unit) (s:Pm)=>blk b (mL v.c ck p q l)^blk ck [.int .u64 v.now]^que q s.q^led l s.l^sck ap s.v^ButK p v.so i^outp a s.o^emp) (fun _ s=>OkPm k i s∧s.o=o∧∃ n,fresh s.v < n∧pumpN i v.now n s=pumpF i v.now ⟨x,v.q,v.l,o⟩) (fun _ s=>fresh s.v) ⟨x,v.q,v.l,o⟩ h ⟨s0,rfl,_,Nat.lt_succ_self _,rfl⟩ ?_
  rintro K (y:Unit) s w ⟨hs,hso,n,hfn,hN⟩ h next
  cases n with
  | zero=>omega
  | succ n =>
  unfold pumpN at hN
  refine w_call (mnowO_tri b v.c p ck q l v.now) h fun r w h=>?_
  obtain ⟨hr,h⟩:=h.purP;rw [hr]
  refine w_call (SockG.emit_tri ap s.v hs.v.i.ok (pcs_lost hs.v.i.pc) v.now hn) h fun r w h=>?_
  obtain ⟨hr,h⟩:=h.purP;rw [hr]
  refine w_new h fun n7 w h=>w_setAll h (by rfl) fun w h=>w_ite (fun ce=>?_) fun ce=>?_
  ·have ce:(emitS s.v v.now).1.2≠0:=by simpa using ce
   rw [if_pos ce] at hN
   exact fin { s with v:=(emitS s.v v.now).2 } hN h.fin
  ·have ce:(emitS s.v v.now).1.2=0:=by simpa using ce
   rw [if_neg (fun c=>c ce)] at hN
   obtain ⟨hok,hless⟩:=enter_ok hs hn ce
   have hw:=went_of hs.v hn ce
   have hgs:=went_ok hs.v hn ce
   have hgn:=hw.n
   obtain ⟨g,hg⟩:∃ g,g=(emitS s.v v.now).1.1:=⟨_,rfl⟩
   obtain ⟨v',hv'⟩:∃ v',v'=(emitS s.v v.now).2:=⟨_,rfl⟩
   have hiv:=ivB_emit hs.v hn
   have een:enter i v.now s=if (enqF s.q g v.now).1.1=0 then (⟨v',(enqF s.q g v.now).2,(noteL s.l i 0).2,s.o⟩,0)
    else (⟨(doneS v' g.2.2.1).2,(enqF s.q g v.now).2,(dropF (noteL s.l i 0).2 s.o g (enqF s.q g v.now).1.1).2,(dropF (noteL s.l i 0).2 s.o g (enqF s.q g v.now).1.1).1⟩,1):=by
    rw [hg,hv'];rfl
   rw [← hg] at hw hgs hgn
   rw [← hv'] at hiv hw
   rw [← hg,← hv'] at h
   refine w_deref (w_ld (x:=some ⟨l,0⟩) h rfl (w_call (note_tri l s.l i 0) h fun r w h=>?_))
   obtain ⟨_,h⟩:=h.purP
   refine w_drw h fun w h=>w_ldAll (b:=n7) (x:=g) h rfl (w_deref (w_ld (x:=some ⟨q,0⟩) h rfl (w_call (mnowO_tri b v.c p ck q l v.now) h fun r w h=>?_)))
   obtain ⟨hr,h⟩:=h.purP;rw [hr]
   refine w_chk h rfl (w_chkAll (b:=n7) h (w_call (FqD.enq_tri q s.q hs.q g v.now hgs hn) h fun r w h=>?_))
   obtain ⟨hr,h⟩:=h.purP;rw [hr]
   refine w_ite (fun cf=>?_) fun cf=>?_
   ·have cf:(enqF s.q g v.now).1.1=0:=by simpa using cf
    rw [if_pos cf] at een
    rw [een] at hN hok hless
    rw [if_pos rfl] at hN
    have hless:fresh v' < fresh s.v:=hless
    exact next () ⟨v',(enqF s.q g v.now).2,(noteL s.l i 0).2,s.o⟩ w ⟨hok,hso,n,by show fresh v' < n;omega,hN⟩ h.fin hless
   ·have cf:¬ (enqF s.q g v.now).1.1=0:=by simpa using cf
    rw [if_neg cf] at een
    rw [een] at hN hok hless
    rw [if_neg (by show ¬ (1:Int)=0;decide)] at hN
    refine w_ldAll (b:=n7) (x:=g) h rfl ?_
    refine w_call (drop_tri b a v.c p ck q l (noteL s.l i 0).2 s.o g (enqF s.q g v.now).1.1 (by rw [hso];omega)) h fun _ w h=>?_
    refine w_ld (x:=g.2.2.1) h rfl (w_call (SockC.done_tri ap v' hiv.i.ok.out g.2.2.1 (by show gN g < _;omega)) h fun r w h=>?_)
    obtain ⟨_,h⟩:=h.purP
    exact fin _ hN h.fin
end EgD

namespace EgE
open Arith ArithC TreeF FqM FqC SockC EgM EgA EgB EgC EgD
open SockM (Sk emitS doneS writeS loseS newS skFl skTso mayS)
open SockO (IvS)
open SockV (IvB)
theorem new_tri (c:Cf):Tri Tryz.prog N_egress_New [.agg (Ks.mk KC c)] [.lf .ptr,.lf (.int .i64)] emp (fun r=>ex fun b:Nat=>pur (r=if may c then (some ⟨b,0⟩,0) else (none,13)) (if may c then mach b (newM c) else emp)) :=
 tri_0 (call_egress_New c) fun w0 S R h=>by
  unfold W_egress_New
  refine w_new (h.le (star_emp _)) fun n1 w h=>w_ldAll (b:=n1) (x:=c) h rfl (w_call (FqE.new_tri c) h fun r w h=>?_)
  obtain ⟨q,h⟩:=h.exP
  obtain ⟨hr,h⟩:=h.purP
  by_cases hm:may c=true
  ·rw [if_pos hm] at hr h
   rw [hr]
   refine w_ite (fun cc=>(by cases cc)) fun _=>?_
   refine w_drw h fun w h=>w_ldAll (b:=n1) (x:=c) h rfl (w_call cnew_tri (h.le ((star_emp _).trans (star_comm _ _))) fun r w h=>?_)
   obtain ⟨ck,h⟩:=h.exP
   obtain ⟨hr,h⟩:=h.purP;rw [hr]
   refine w_chkAll (b:=n1) h (w_call lnew_tri (h.le ((star_emp _).trans (star_comm _ _))) fun r w h=>?_)
   obtain ⟨l,h⟩:=h.exP
   obtain ⟨hr,h⟩:=h.purP;rw [hr]
   refine w_chkAll (b:=n1) h (w_new h fun n7 w h=>?_)
   have h:Own w0 S R w (blk n7 (mL c ck (fun _=>none) q l)^_):=h
   have e:AllK (fun _=>none) (fun _=>none)=bigS (fun _=>pur ((none:Option Pt)=none) emp) 8:=rfl
   have hall:∀ n,Le emp (bigS (fun _=>pur ((none:Option Pt)=none) emp) n):=fun n=>by
    induction n with
    | zero=>exact Le.rfl
    | succ n ih=>exact (star_emp emp).trans (star_mono (fun _ _ _ h=>⟨rfl,h⟩) ih)
   have h:Own w0 S R w (AllK (fun _=>none) (fun _=>none)^_):=(h.le ((star_emp _).trans (star_comm _ _))).le (star_mono (by rw [e];exact hall 8) Le.rfl)
   have h:=h.mkMach n7 (fun _=>none) ck q l (newM c)
   refine Own.retE n7 (Own.retP (by rw [if_pos hm]) ?_)
   rw [if_pos hm]
   exact h.keep
  ·rw [if_neg hm] at hr h
   rw [hr]
   refine w_ite (fun _=>?_) fun cc=>(by cases cc)
   refine Own.retE 0 (Own.retP (by rw [if_neg hm]) ?_)
   rw [if_neg hm]
   exact h.emp'
theorem set_tri (b:Nat) (v:Mc) (c:Cf):Tri Tryz.prog N_egress_Machine_set [.lf (.ptr (some ⟨b,0⟩)),.agg (Ks.mk KC c)] [.lf (.int .i64)] (mach b v) (fun r=>pur (r=(setM v c).1) (mach b (setM v c).2)) :=
 tri_0 (call_egress_Machine_set (some ⟨b,0⟩) c) fun w0 S R h=>by
  unfold W_egress_Machine_set
  refine w_new (h.le (star_emp _)) fun n1 w h=>?_
  obtain ⟨p,ck,q,l,h⟩:=h.mach b
  refine w_drw h fun w h=>w_ldAll (b:=n1) (x:=c) h rfl (w_deref (w_ld (x:=some ⟨q,0⟩) h rfl (w_call (FqE.set_tri q v.q c) h fun r w h=>?_)))
  obtain ⟨hr,h⟩:=h.purP;rw [hr]
  refine w_ite (fun cc=>?_) fun cc=>?_
  ·have cc:(setF v.q c).1=0:=by simpa using cc
   refine w_ldAll (b:=n1) (x:=c) h rfl (w_deref (w_setTo h b (mL c ck p q l) rfl rfl rfl fun w h=>?_))
   rw [show setM v c=(0,{ v with q:=(setF v.q c).2,c:=c }) by unfold setM;rw [if_pos cc]]
   exact Own.retP cc (h.mkMach b p ck q l { v with q:=(setF v.q c).2,c:=c }).fin
  ·have cc:¬ (setF v.q c).1=0:=by simpa using cc
   rw [show setM v c=((setF v.q c).1,{ v with q:=(setF v.q c).2 }) by unfold setM;rw [if_neg cc]]
   exact Own.retP rfl (h.mkMach b p ck q l { v with q:=(setF v.q c).2 }).fin
theorem drops_app (l:Nat→Ct) (o:Ou) (a:List Sg) (s:Sg):dropsF l o (a++[s])=dropF (dropsF l o a).2 (dropsF l o a).1 s 5:=by
 induction a generalizing l o with
 | nil=>rfl
 | cons x a ih=>exact ih _ _
theorem drops_len (l:Nat→Ct) (o:Ou) (a:List Sg):(dropsF l o a).1.dr.length=o.dr.length+a.length∧(dropsF l o a).1.ft.length=o.ft.length+a.length:=by
 induction a generalizing l o with
 | nil=>exact ⟨rfl,rfl⟩
 | cons x a ih =>
  obtain ⟨h1,h2⟩:=ih (dropF l o x 5).2 (dropF l o x 5).1
  have e1:(dropF l o x 5).1.dr.length=o.dr.length+1:=by show (o.dr++[x]).length=_;simp
  have e2:(dropF l o x 5).1.ft.length=o.ft.length+1:=by show (o.ft++[5]).length=_;simp
  rw [List.length_cons]
  show (dropsF (dropF l o x 5).2 (dropF l o x 5).1 a).1.dr.length=_∧(dropsF (dropF l o x 5).2 (dropF l o x 5).1 a).1.ft.length=_
  omega
theorem close_len {v:Qm} (hv:OkQ v) (i:Int):(closeF v i).1.length≤512:=by
 unfold closeF
 split
 ·show ([]:List Sg).length≤512;decide
 ·split
  ·show ([]:List Sg).length≤512;decide
  ·rename_i f hf;exact (hv.len hf).2
theorem shut_tri (b a:Nat) (k:Int) (v:Mc) (hv:OkMc k v) (i:Nat) (hi:i < 8) (o:Ou) (hl:o.dr.length≤400∧o.ft.length≤400):Tri Tryz.prog N_egress_Machine_shut [.lf (.ptr (some ⟨b,0⟩)),.lf (.int .i64 (i:Int)),.lf (.ptr (some ⟨a,0⟩))] [] (mach b v^outp a o) (fun _=>mach b (shutM v i o).2^outp a (shutM v i o).1) :=
 tri_0 (call_egress_Machine_shut (some ⟨b,0⟩) (i:Int) (some ⟨a,0⟩)) fun w0 S R h=>by
  unfold W_egress_Machine_shut
  obtain ⟨p,ck,q,l,h⟩:=(h.le (star_emp _)).mach b
  have eit:((i:Nat):Int).toNat=i:=Int.toNat_natCast i
  have h:Own w0 S R w0 (ButK p v.so i^blk b (mL v.c ck p q l)^blk ck [.int .u64 v.now]^que q v.q^led l v.l^outp a o^emp):=by
   cases hs:v.so i with
   | none=>exact (h.noK p v.so hi hs).2.fin
   | some x=>obtain ⟨ap,_,h⟩:=h.outK p v.so hi hs;exact h.drop.fin
  refine w_deref ⟨by omega,?_⟩
  rw [eit]
  refine w_setTo h b (mL v.c ck (upP p i none) q l) rfl (by rcases lt8 hi with rfl | rfl | rfl | rfl | rfl | rfl | rfl | rfl<;>rfl) (mL_up v.c ck p q l i hi none) fun w h=>?_
  have h:=h.inKN p v.so hi (upP p i none) (upL v.so i none) (fun j hj=>upP_ne p none hj) (fun j hj=>upL_ne v.so none hj) (upP_same p i none) (upL_same v.so i none)
  refine w_deref (w_ld (x:=some ⟨q,0⟩) h rfl (w_call (FqE.close_tri q v.q hv.q (i:Int)) h fun r w h=>?_))
  obtain ⟨cl,hcl⟩:∃ cl,cl=(closeF v.q (i:Int)).1:=⟨_,rfl⟩
  have hcn:cl.length≤512:=by rw [hcl];exact close_len hv.q i
  have hrl:=(h.rd (s:=r)).2
  rw [← hcl] at hrl h
  have h:Own w0 S R w (led l (dropsF v.l o (cl.take (0:Int).toNat)).2^outp a (dropsF v.l o (cl.take (0:Int).toNat)).1^arr r KS cl^blk b (mL v.c ck (upP p i none) q l)^blk ck [.int .u64 v.now]^que q (closeF v.q (i:Int)).2^AllK (upP p i none) (upL v.so i none)^emp):=h.fin (A:=led l v.l^outp a o^arr r KS cl^blk b (mL v.c ck (upP p i none) q l)^blk ck [.int .u64 v.now]^que q (closeF v.q (i:Int)).2^AllK (upP p i none) (upL v.so i none)^emp)
  refine w_loopE (fun (y:Int) (_:Unit)=>led l (dropsF v.l o (cl.take y.toNat)).2^outp a (dropsF v.l o (cl.take y.toNat)).1^arr r KS cl^blk b (mL v.c ck (upP p i none) q l)^blk ck [.int .u64 v.now]^que q (closeF v.q (i:Int)).2^AllK (upP p i none) (upL v.so i none)^emp) (fun (y:Int) _=>0≤y∧y≤cl.length) (fun (y:Int) _=>(cl.length - y.toNat)) () h ⟨by decide,by omega⟩ ?_
  rintro K (y:Int) _ w ⟨h0,h1⟩ h next
  refine w_ite (fun c=>?_) fun c=>?_
  ·have c:y < ((r.len:Nat):Int):=of_decide_eq_true c
   have hy:y.toNat < cl.length:=by omega
   have hwi:IntKind.i64.wrap (y+1)=y+1:=wi (by omega) (by omega)
   have hin:(y+1).toNat=y.toNat+1:=by omega
   obtain ⟨s,hs⟩:∃ s,cl[y.toNat]?=some s:=⟨_,List.getElem?_eq_getElem hy⟩
   obtain ⟨d1,d2⟩:=drops_len v.l o (cl.take y.toNat)
   have dt:(cl.take y.toNat).length≤512:=by rw [List.length_take];omega
   refine w_idx (s:=r) h h0 hy (w_ldE h r y.toNat hs rfl (w_new h fun n9 w h=>w_setAll h (by rfl) fun w h=>w_ldAll (b:=n9) (x:=s) h rfl ?_))
   refine w_call (drop_tri b a v.c (upP p i none) ck q l (dropsF v.l o (cl.take y.toNat)).2 (dropsF v.l o (cl.take y.toNat)).1 s 5 (by omega)) h fun _ w h=>?_
   have e:dropsF v.l o (cl.take (y+1).toNat)=dropF (dropsF v.l o (cl.take y.toNat)).2 (dropsF v.l o (cl.take y.toNat)).1 s 5:=by
    rw [hin,List.take_add_one,hs];exact drops_app _ _ _ _
   rw [← e] at h
   rw [hwi]
   exact next (y+1) () w ⟨by omega,by omega⟩ h.fin (by show cl.length - (y+1).toNat < cl.length - y.toNat;omega)
  ·have c:¬ y < ((r.len:Nat):Int):=of_decide_eq_false c
   rw [List.take_of_length_le (by omega)] at h
   have h:=h.mkMach b (upP p i none) ck q l { v with so:=upL v.so i none,q:=(closeF v.q (i:Int)).2,l:=(dropsF v.l o cl).2 }
   rw [show shutM v i o=((dropsF v.l o cl).1,{ v with so:=upL v.so i none,q:=(closeF v.q (i:Int)).2,l:=(dropsF v.l o cl).2 }) by unfold shutM;rw [← hcl]]
   exact h.fin
abbrev KR:Ks:=[.int .u64,.int .u64]
structure OkD (d:Dd):Prop where
 l:dL d < 9223372036854775808
 u:U (dU d)
 a:U (dA d)
 c:0≤cH (dC d)∧U (cR (dC d))
theorem told_tri (ap:Nat) (k:Int) (x:Sk) (hx:IvB k x) (now:Int) (hn:U now) (d:Dd) (hd:OkD d) (xs:List (Ks.T KR)) (hxl:xs.length≤4294967296):Tri Tryz.prog N_egress_told [.lf (.ptr (some ⟨ap,0⟩)),.agg (Ks.mk KD d),.lf (.int .u64 now)] [.lf (.int .i64)] (sck ap x^rarr (dR d) KR xs) (fun r=>pur (r=(toldF x now d xs).1) (sck ap (toldF x now d xs).2)) :=
 tri_0 (call_egress_told (some ⟨ap,0⟩) d now) fun w0 S R h=>by
  unfold W_egress_told
  refine w_new (h.le (star_emp _)) fun n1 w h=>w_ld (x:=dK d) h rfl (w_ite (fun c=>?_) fun c=>?_)
  ·have c:dK d=2:=by simpa using c
   refine w_ld (x:=dL d) h rfl (w_call (write_tri ap x hx.i.ok.bf (dL d) hd.l) h fun r w h=>?_)
   obtain ⟨hr,h⟩:=h.purP;rw [hr]
   rw [show toldF x now d xs=writeS x (dL d) by unfold toldF;rw [if_pos c]]
   exact Own.retP rfl h.fin
  have c:¬ dK d=2:=by simpa using c
  refine w_ite (fun c3=>?_) fun c3=>?_
  ·have c3:dK d=3:=by simpa using c3
   refine w_ld (x:=dU d) h rfl (w_ld (x:=dR d) h rfl ?_)
   refine w_callL (A:=sck ap x) (Q:=rarr (dR d) KR xs) (SockN.sack_tri ap x hx.i.ok hx.i.ps now (dU d) hn (dR d) xs hxl) h fun r w h=>?_
   obtain ⟨hr,h⟩:=h.purP;rw [hr]
   rw [show toldF x now d xs=SockL.ackS x now (dU d) xs by unfold toldF;rw [if_neg c,if_pos c3]]
   exact Own.retP rfl h.fin
  have c3:¬ dK d=3:=by simpa using c3
  refine w_ite (fun c4=>?_) fun c4=>?_
  ·have c4:dK d=4:=by simpa using c4
   refine w_call (SockJ.slose_tri ap x hx.i.ok now hn) h fun r w h=>?_
   obtain ⟨hr,h⟩:=h.purP;rw [hr]
   rw [show toldF x now d xs=(0,loseS x now) by unfold toldF;rw [if_neg c,if_neg c3,if_pos c4]]
   exact Own.retP rfl h.fin
  ·have c4:¬ dK d=4:=by simpa using c4
   refine w_ld (x:=dL d) h rfl (w_call (SockC.done_tri ap x hx.i.ok.out (dL d) hd.l) h fun r w h=>?_)
   obtain ⟨hr,h⟩:=h.purP;rw [hr]
   rw [show toldF x now d xs=doneS x (dL d) by unfold toldF;rw [if_neg c,if_neg c3,if_neg c4]]
   exact Own.retP rfl h.fin
end EgE

namespace EgF
open Arith ArithC TreeF FqM FqC SockC EgM EgA EgB EgC EgD EgE
open SockM (Sk emitS doneS writeS loseS newS skFl skTso mayS)
open SockO (IvS)
open SockV (IvB)
theorem upL_upL {α:Type} (l:Nat→α) (i:Nat) (x y:α):upL (upL l i x) i y=upL l i y:=funext fun j=>by unfold upL;split<;>rfl
theorem ivB_le {k j:Int} {v:Sk} (h:IvB k v) (hj:k≤j) (hj2:j≤1000000):IvB j v :=
 { i:=h.i.le hj,kr:=by have:=h.kr;omega,g:=h.g,b:=SockV.Bd_le h.b (by omega) }
theorem OkMc_le {k j:Int} {v:Mc} (h:OkMc k v) (hj:k≤j) (hj2:j≤1000000):OkMc j v :=
 { c:=h.c,now:=h.now,q:=h.q,so:=fun i x hx=>⟨ivB_le (h.so i x hx).1 hj hj2,(h.so i x hx).2⟩,kr:=by have:=h.kr;omega }
theorem told_ok {k:Int} {x:Sk} (hx:IvB k x) (hk:k < 1000000) {now:Int} (hn:U now) (d:Dd) (xs:List (Int × Int)):IvB (k+1) (toldF x now d xs).2∧(toldF x now d xs).2.id=x.id:=by
 unfold toldF
 split
 ·exact ⟨hx.write hk _,rfl⟩
 ·split
  ·exact ⟨hx.ack hk hn _ _,by unfold SockL.ackS;split<;>rfl⟩
  ·split
   ·exact ⟨hx.lose hk hn,rfl⟩
   ·exact ⟨hx.done hk _,by unfold doneS;split<;>rfl⟩
theorem upS_ok {k:Int} {v:Mc} (hv:OkMc k v) {i:Nat} (hi:i < 8) {x:Sk} (hx:IvB k x) (hid:x.id=(i:Int)):OkMc k { v with so:=upL v.so i (some x) }:=by
 have hso:∀ j y,upL v.so i (some x) j=some y→IvB k y∧y.id=(j:Int)∧j < 8:=fun j y hy=>by
  by_cases e:j=i
  ·subst e
   rw [upL_same] at hy
   cases hy;exact ⟨hx,hid,hi⟩
  ·rw [upL_ne _ _ e] at hy;exact hv.so j y hy
 exact { hv with so:=hso }
theorem upN_ok {k:Int} {v:Mc} (hv:OkMc k v) (i:Nat):OkMc k { v with so:=upL v.so i none }:=by
 have hso:∀ j y,upL v.so i none j=some y→IvB k y∧y.id=(j:Int)∧j < 8:=fun j y hy=>by
  by_cases e:j=i
  ·subst e
   rw [upL_same] at hy;cases hy
  ·rw [upL_ne _ _ e] at hy;exact hv.so j y hy
 exact { hv with so:=hso }
theorem one_tri (b a:Nat) (k:Int) (v:Mc) (hv:OkMc k v) (hk:k < 1000000) (d:Dd) (hd:OkD d) (xs:List (Ks.T KR)) (hxl:xs.length≤4294967296) (o:Ou) (hl:o.dr.length≤400∧o.ft.length≤400) :
  Tri Tryz.prog N_egress_Machine_one [.lf (.ptr (some ⟨b,0⟩)),.agg (Ks.mk KD d),.lf (.ptr (some ⟨a,0⟩))] [.lf (.int .i64)] ((mach b v^outp a o)^rarr (dR d) KR xs) (fun r=>pur (r=(oneM v d xs o).1) (mach b (oneM v d xs o).2.2^outp a (oneM v d xs o).2.1)) :=
 tri_0 (call_egress_Machine_one (some ⟨b,0⟩) d (some ⟨a,0⟩)) fun w0 S R h=>by
  unfold W_egress_Machine_one
  refine w_new (h.le (star_emp _)) fun n1 w h=>w_ld (x:=dS d) h rfl (w_call (is_tri (dS d)) (h.le ((star_emp _).trans (star_comm _ _))) fun r w h=>?_)
  obtain ⟨hr,h⟩:=h.purP;rw [hr]
  have h:Own w0 S R w (blk n1 (Ks.mk KD d)^mach b v^outp a o^rarr (dR d) KR xs^emp):=h.fin
  refine w_ite (fun c=>?_) fun c=>?_
  ·have c:¬ (0≤dS d∧dS d < 8):=fun hh=>by rw [decide_eq_true hh] at c;cases c
   rw [show oneM v d xs o=(8,o,v) by unfold oneM;rw [if_pos c]]
   exact Own.retP rfl h.fin
  have c:0≤dS d∧dS d < 8:=by
   by_cases hh:0≤dS d∧dS d < 8
   ·exact hh
   ·rw [decide_eq_false hh] at c;cases c
  obtain ⟨i,hi⟩:∃ i:Nat,dS d=(i:Int):=⟨(dS d).toNat,by omega⟩
  have hi8:i < 8:=by omega
  have eit:((i:Nat):Int).toNat=i:=Int.toNat_natCast i
  have hone:oneM v d xs o=match v.so i with
    | none=>if dK d=1 then (0,o,{ v with so:=upL v.so i (some (newS (i:Int) (cMss v.c) (cCap v.c))) }) else (10,o,v)
    | some x=>if dK d=1 then (9,o,v) else if dK d=9 then (0,(shutM v i o).1,(shutM v i o).2)
     else if (toldF x v.now d xs).1=0 then (0,(pumpM v i (toldF x v.now d xs).2 o).1,(pumpM v i (toldF x v.now d xs).2 o).2)
     else ((toldF x v.now d xs).1,o,{ v with so:=upL v.so i (some (toldF x v.now d xs).2) }):=by
   unfold oneM
   first
    | (rw [if_neg (fun hh=>hh c),hi,eit];cases v.so i<;>rfl)
    | rw [if_neg (fun hh=>hh c),hi,eit]
  obtain ⟨p,ck,q,l,h⟩:=h.mach b
  have hsn:=isNK h p v.so hi8
  have hat:Ks.un [.ptr] (((mL v.c ck p q l).drop (0+10+(dS d).toNat * 1)).take 1)=some (p i):=by rw [hi,eit,mL_at v.c ck p q l i hi8]
  refine w_drw h fun w h=>w_ld (x:=dS d) h rfl (w_deref ⟨c,w_ld h hat (w_ld (x:=dK d) h rfl ?_)⟩)
  cases hs:v.so i with
  | none =>
   rw [hs] at hsn hone
   have hpn:p i=none:=by simpa using hsn
   rw [hpn]
   refine w_ite (fun cc=>(by simp at cc)) fun _=>w_ld (x:=dK d) h rfl (w_ite (fun c1=>?_) fun c1=>?_)
   ·have c1:dK d=1:=by simpa using c1
    dsimp only at hone
    rw [if_pos c1] at hone
    rw [hone]
    refine w_drw h fun w h=>w_ld (x:=dS d) h rfl (w_ld (x:=dS d) h rfl (w_deref (w_deref (w_ld (x:=v.c) h rfl ?_))))
    rw [hi]
    refine w_call (SockK.snew_tri (i:Int) v.c) (h.le ((star_emp _).trans (star_comm _ _))) fun r w h=>?_
    obtain ⟨ap,h⟩:=h.exP
    obtain ⟨hr,h⟩:=h.purP;rw [hr]
    have h:Own w0 S R w (sck ap (newS (i:Int) (cMss v.c) (cCap v.c))^blk n1 (Ks.mk KD d)^(blk b (mL v.c ck p q l)^blk ck [.int .u64 v.now]^que q v.q^led l v.l^AllK p v.so)^outp a o^emp):=h.fin
    refine w_chk h (by show [Lf.int IntKind.i64 (dS d)]=_;rw [hi];rfl) ⟨by omega,?_⟩
    rw [eit]
    obtain ⟨_,h⟩:=h.noK p v.so hi8 hs
    refine w_setTo h b (mL v.c ck (upP p i (some ⟨ap,0⟩)) q l) rfl (by rcases lt8 hi8 with rfl | rfl | rfl | rfl | rfl | rfl | rfl | rfl<;>rfl) (mL_up v.c ck p q l i hi8 (some ⟨ap,0⟩)) fun w h=>?_
    have h:=h.inK p v.so hi8 (upP p i (some ⟨ap,0⟩)) (upL v.so i (some (newS (i:Int) (cMss v.c) (cCap v.c)))) ap (newS (i:Int) (cMss v.c) (cCap v.c)) (fun j hj=>upP_ne p _ hj) (fun j hj=>upL_ne v.so _ hj) (upP_same p i _) (upL_same v.so i _)
    have h:=h.mkMach b (upP p i (some ⟨ap,0⟩)) ck q l { v with so:=upL v.so i (some (newS (i:Int) (cMss v.c) (cCap v.c))) }
    exact Own.retP rfl h.fin
   ·have c1:¬ dK d=1:=by simpa using c1
    dsimp only at hone
    rw [if_neg c1] at hone
    rw [hone]
    refine w_ite (fun _=>?_) fun cc=>(by simp at cc)
    have h:=h.mkMach b p ck q l v
    exact Own.retP rfl h.fin
  | some x =>
   obtain ⟨hx,hid,_⟩:=hv.so i x hs
   rw [hs] at hsn hone
   obtain ⟨ap,hp,h⟩:=h.outK p v.so hi8 hs
   rw [hp]
   refine w_ite (fun c1=>?_) fun c1=>?_
   ·have c1:dK d=1:=by simpa using c1
    dsimp only at hone
    rw [if_pos c1] at hone
    rw [hone]
    have h:=h.inK p v.so hi8 p v.so ap x (fun _ _=>rfl) (fun _ _=>rfl) hp hs
    have h:=h.mkMach b p ck q l v
    exact Own.retP rfl h.fin
   have c1:¬ dK d=1:=by simpa using c1
   dsimp only at hone
   rw [if_neg c1] at hone
   refine w_ld (x:=dK d) h rfl (w_ite (fun cc=>(by simp at cc;exact absurd cc c1)) fun _=>w_ite (fun cc=>(by simp at cc)) fun _=>w_ld (x:=dK d) h rfl (w_ite (fun c9=>?_) fun c9=>?_))
   ·have c9:dK d=9:=by simpa using c9
    rw [if_pos c9] at hone
    rw [hone]
    have h:=h.inK p v.so hi8 p v.so ap x (fun _ _=>rfl) (fun _ _=>rfl) hp hs
    have h:=h.mkMach b p ck q l v
    refine w_ld (x:=dS d) h rfl ?_
    rw [hi]
    refine w_call (shut_tri b a k v hv i hi8 o hl) h fun _ w h=>?_
    exact Own.retP rfl h.fin
   have c9:¬ dK d=9:=by simpa using c9
   rw [if_neg c9] at hone
   refine w_drw h fun w h=>w_ldAll (b:=n1) (x:=d) h rfl (w_call (mnowO_tri b v.c p ck q l v.now) h fun r w h=>?_)
   obtain ⟨hr,h⟩:=h.purP;rw [hr]
   refine w_chkAll (b:=n1) h ?_
   refine w_callL (A:=sck ap x) (Q:=rarr (dR d) KR xs) (told_tri ap k x hx v.now hv.un d hd xs hxl) h fun r w h=>?_
   obtain ⟨hr,h⟩:=h.purP;rw [hr]
   obtain ⟨hx2,hid2⟩:=told_ok hx hk hv.un d xs
   have h:=h.inK p v.so hi8 p (upL v.so i (some (toldF x v.now d xs).2)) ap (toldF x v.now d xs).2 (fun _ _=>rfl) (fun j hj=>upL_ne v.so _ hj) hp (upL_same v.so i _)
   have h:=h.mkMach b p ck q l { v with so:=upL v.so i (some (toldF x v.now d xs).2) }
   have hv2:OkMc (k+1) { v with so:=upL v.so i (some (toldF x v.now d xs).2) }:=upS_ok (OkMc_le hv (by omega) (by omega)) hi8 hx2 (hid2.trans hid)
   refine w_ite (fun c0=>?_) fun c0=>?_
   ·have c0:(toldF x v.now d xs).1=0:=by simpa using c0
    rw [if_pos c0] at hone
    rw [hone]
    refine w_ld (x:=dS d) h rfl ?_
    rw [hi]
    refine w_call (pump_tri b a (k+1) { v with so:=upL v.so i (some (toldF x v.now d xs).2) } hv2 i (toldF x v.now d xs).2 (upL_same v.so i _) o (by omega)) h fun _ w h=>?_
    have e:pumpM { v with so:=upL v.so i (some (toldF x v.now d xs).2) } i (toldF x v.now d xs).2 o=pumpM v i (toldF x v.now d xs).2 o:=by
     unfold pumpM
     dsimp only
     rw [upL_upL]
    rw [e] at h
    exact Own.retP c0 h.fin
   ·have c0:¬ (toldF x v.now d xs).1=0:=by simpa using c0
    rw [if_neg c0] at hone
    rw [hone]
    exact Own.retP rfl h.fin
abbrev KOu:Ks:=[.sl,.sl,.sl,.int .u64]
def outR (r:Ks.T KOu) (o:Ou):SP:=pur (r.2.2.2=o.wd) (arr r.1 KS o.dep^arr r.2.1 KS o.dr^arr r.2.2.1 KI o.ft)
instance (r:Ks.T KOu) (o:Ou):NoR (outR r o):=by unfold outR;infer_instance
theorem do_tri (b:Nat) (k:Int) (v:Mc) (hv:OkMc k v) (hk:k < 1000000) (d:Dd) (hd:OkD d) (xs:List (Ks.T KR)) (hxl:xs.length≤4294967296) :
  Tri Tryz.prog N_egress_Machine_Do [.lf (.ptr (some ⟨b,0⟩)),.agg (Ks.mk KD d)] [.agg KOu,.lf (.int .i64)] (mach b v^rarr (dR d) KR xs) (fun r=>pur (r.2=(doF v d xs).1.2) (mach b (doF v d xs).2^outR r.1 (doF v d xs).1.1)) :=
 tri_0 (call_egress_Machine_Do (some ⟨b,0⟩) d) fun w0 S R h=>by
  unfold W_egress_Machine_Do
  refine w_new (h.le (star_emp _)) fun n1 w h=>w_new h fun n2 w h=>w_ite (fun c=>(by simp at c)) fun _=>w_new h fun n4 w h=>?_
  have h:=h.nil KS
  have h:=h.nil KS
  have h:=h.nil KI
  have h:=h.mkOutp n4 ⟨none,0,0⟩ ⟨none,0,0⟩ ⟨none,0,0⟩ ou0
  have h:Own w0 S R w (blk n1 (Ks.mk KD d)^outp n4 ou0^mach b v^rarr (dR d) KR xs^blk n2 [.sl ⟨none,0,0⟩,.sl ⟨none,0,0⟩,.sl ⟨none,0,0⟩,.int .u64 0]^emp):=h.fin
  refine w_join h (fun _=>outp n4 (stepM v d xs).2.1^mach b (stepM v d xs).2.2^blk n2 [.sl ⟨none,0,0⟩,.sl ⟨none,0,0⟩,.sl ⟨none,0,0⟩,.int .u64 0]^emp) (fun y:Int=>y=(stepM v d xs).1) (fun (y:Int) w hy h=>?_) ?_
  ·rw [hy]
   refine w_ite (fun c=>?_) fun c=>?_
   ·have c:(stepM v d xs).1≠0:=by simpa using c
    rw [show doF v d xs=((ou0,(stepM v d xs).1),(stepM v d xs).2.2) by unfold doF;rw [if_pos c]]
    refine w_setAll h (by rfl) fun w h=>w_ldAll (b:=n2) (x:=((⟨none,0,0⟩,⟨none,0,0⟩,⟨none,0,0⟩,0):Ks.T KOu)) h rfl ?_
    have h:=h.nil KS
    have h:=h.nil KS
    have h:=h.nil KI
    have h:Own w0 S R w (outR (⟨none,0,0⟩,⟨none,0,0⟩,⟨none,0,0⟩,0) ou0^mach b (stepM v d xs).2.2^emp):=Own.toPur (p:=((⟨none,0,0⟩,⟨none,0,0⟩,⟨none,0,0⟩,0):Ks.T KOu).2.2.2=ou0.wd) (A:=arr ⟨none,0,0⟩ KS []^arr ⟨none,0,0⟩ KS []^arr ⟨none,0,0⟩ KI []) rfl h.fin
    exact Own.retP rfl h.fin
   ·have c:(stepM v d xs).1=0:=by simpa using c
    rw [show doF v d xs=(((stepM v d xs).2.1,0),(stepM v d xs).2.2) by unfold doF;rw [if_neg (fun x=>x c)]]
    obtain ⟨s1,s2,s3,h⟩:=h.outp n4
    refine w_ldAll (b:=n4) (x:=((s1,s2,s3,(stepM v d xs).2.1.wd):Ks.T KOu)) h rfl (w_setAll h (by rfl) fun w h=>w_ldAll (b:=n2) (x:=((s1,s2,s3,(stepM v d xs).2.1.wd):Ks.T KOu)) h rfl ?_)
    have h:Own w0 S R w (outR (s1,s2,s3,(stepM v d xs).2.1.wd) (stepM v d xs).2.1^mach b (stepM v d xs).2.2^emp):=Own.toPur (p:=((s1,s2,s3,(stepM v d xs).2.1.wd):Ks.T KOu).2.2.2=(stepM v d xs).2.1.wd) (A:=arr s1 KS (stepM v d xs).2.1.dep^arr s2 KS (stepM v d xs).2.1.dr^arr s3 KI (stepM v d xs).2.1.ft) rfl h.fin
    exact Own.retP rfl h.fin
  ·refine w_ld (x:=dK d) h rfl (w_ite (fun c5=>?_) fun c5=>?_)
   ·have c5:dK d=5:=by simpa using c5
    rw [show stepM v d xs=((moveF v.now (dA d)).1,ou0,{ v with now:=(moveF v.now (dA d)).2 }) by unfold stepM;rw [if_pos c5]]
    obtain ⟨p,ck,q,l,h⟩:=h.mach b
    refine w_drw h fun w h=>w_deref (w_ld (x:=dA d) h rfl (w_ld (x:=some ⟨ck,0⟩) h rfl (w_call (move_tri ck v.now (dA d)) h fun r w h=>?_)))
    obtain ⟨hr,h⟩:=h.purP;rw [hr]
    have h:=h.mkMach b p ck q l { v with now:=(moveF v.now (dA d)).2 }
    exact ⟨rfl,h.fin⟩
   have c5:¬ dK d=5:=by simpa using c5
   refine w_ite (fun c6=>?_) fun c6=>?_
   ·have c6:dK d=6:=by simpa using c6
    rw [show stepM v d xs=(0,(pullF v ou0).1,(pullF v ou0).2) by unfold stepM;rw [if_neg c5,if_pos c6]]
    refine w_call (pull_tri b n4 k v hv ou0) h fun _ w h=>?_
    exact ⟨rfl,h.fin⟩
   have c6:¬ dK d=6:=by simpa using c6
   refine w_ite (fun c8=>?_) fun c8=>?_
   ·have c8:dK d=8:=by simpa using c8
    rw [show stepM v d xs=((setM v (dC d)).1,ou0,(setM v (dC d)).2) by unfold stepM;rw [if_neg c5,if_neg c6,if_pos c8]]
    refine w_ld (x:=dC d) h rfl (w_call (set_tri b v (dC d)) h fun r w h=>?_)
    obtain ⟨hr,h⟩:=h.purP;rw [hr]
    exact ⟨rfl,h.fin⟩
   have c8:¬ dK d=8:=by simpa using c8
   have estep:stepM v d xs=if isOne (dK d) then oneM v d xs ou0 else (12,ou0,v):=by unfold stepM;rw [if_neg c5,if_neg c6,if_neg c8]
   refine w_join h (fun _=>blk n1 (Ks.mk KD d)^outp n4 ou0^mach b v^rarr (dR d) KR xs^blk n2 [.sl ⟨none,0,0⟩,.sl ⟨none,0,0⟩,.sl ⟨none,0,0⟩,.int .u64 0]^emp) (fun y:Bool=>y=isOne (dK d)) (fun (y:Bool) w hy h=>?_) ?_
   ·rw [hy]
    refine w_ite (fun c=>?_) fun c=>?_
    ·rw [if_pos c] at estep
     rw [estep]
     refine w_ldAll (b:=n1) (x:=d) h rfl ?_
     refine w_callL (A:=mach b v^outp n4 ou0) (Q:=rarr (dR d) KR xs) (one_tri b n4 k v hv hk d hd xs hxl ou0 ⟨by show (0:Nat)≤400;decide,by show (0:Nat)≤400;decide⟩) h fun r w h=>?_
     obtain ⟨hr,h⟩:=h.purP;rw [hr]
     exact ⟨rfl,h.fin⟩
    ·rw [if_neg (by rw [c];simp)] at estep
     rw [estep]
     exact ⟨rfl,h.fin⟩
   ·unfold isOne
    refine w_ite (fun c=>⟨by rw [c];rfl,h⟩) fun d1=>?_
    refine w_ite (fun c=>⟨by rw [d1,c];rfl,h⟩) fun d2=>?_
    refine w_ite (fun c=>⟨by rw [d1,d2,c];rfl,h⟩) fun d3=>?_
    refine w_ite (fun c=>⟨by rw [d1,d2,d3,c];rfl,h⟩) fun d4=>?_
    refine w_ite (fun c=>⟨by rw [d1,d2,d3,d4,c];rfl,h⟩) fun d5=>?_
    exact ⟨by rw [d1,d2,d3,d4,d5];rfl,h⟩
end EgF

end Go.X
