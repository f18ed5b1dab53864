/- Contracts and plain facts: ScF ScH ScR ScS ScT. -/
import Derived.Test.YtniflenfpbbikaaGreatDoorB0
import Derived.Test.YtniflenfpbbikaaGreatDoorB1
import Derived.Test.YtniflenfpbbikaaGreatDoorB2
import Derived.Test.YtniflenfpbbikaaGreatDoorB3
import Derived.Test.YtniflenfpbbikaaGreatDoorB4
import Derived.Test.YtniflenfpbbikaaGreatDoorB5
import Derived.Test.YtniflenfpbbikaaGreatDoorB6
import Derived.Test.YtniflenfpbbikaaGreatDoorB7
import Derived.Test.YtniflenfpbbikaaGreatDoorB8
import Derived.Test.YtniflenfpbbikaaGreatDoorK
import Derived.Test.YtniflenfpbbikaaGreatDoorF0
import Derived.Test.YtniflenfpbbikaaGreatDoorF1
import Derived.Test.YtniflenfpbbikaaGreatDoorF2
set_option linter.unusedVariables false
set_option linter.unusedSimpArgs false
set_option linter.unusedSectionVars false
namespace Go.X
open Go.Proofs
namespace ScF
open ScE
theorem range_snoc (f:Nat→Six) (k:Nat):(List.range (k+1)).map f=(List.range k).map f++[f k]:=by rw [List.range_succ,List.map_append];rfl
def cell (l:List Int) (i j:Nat):Int:=if j < i then l.getD j 0 else 0
def cells (l:List Int) (i:Nat):List Lf:=[.int .i64 (cell l i 0),.int .i64 (cell l i 1),.int .i64 (cell l i 2),.int .i64 (cell l i 3),.int .i64 (cell l i 4),.int .i64 (cell l i 5)]
theorem cells_s (l:List Int) {i:Nat} (hi:i < 6) {x:Int} (hx:l[i]?=some x):upd (cells l i) (0+i * 1) [.int .i64 x]=cells l (i+1):=by
 have e:x=l.getD i 0:=by rw [List.getD_eq_getElem?_getD,hx];rfl
 rw [e]
 have:i=0∨i=1∨i=2∨i=3∨i=4∨i=5:=by omega
 rcases this with h | h | h | h | h | h<;>rw [h]<;>rfl
theorem cell_e (l:List Int) (j:Nat):cell l l.length j=l.getD j 0:=by
 unfold cell
 split
 ·rfl
 ·rw [List.getD_eq_getElem?_getD,List.getElem?_eq_none (by omega)];rfl
theorem cells_e (l:List Int):cells l l.length=Ks.mk [.int .i64,.int .i64,.int .i64,.int .i64,.int .i64,.int .i64] (l.getD 0 0,l.getD 1 0,l.getD 2 0,l.getD 3 0,l.getD 4 0,l.getD 5 0):=by
 unfold cells
 simp only [cell_e]
 rfl
theorem get_chunk (xs:List Int) (k j:Nat) (hj:j < 6):((xs.drop k).take (min 6 (xs.drop k).length)).getD j 0=xs.getD (k+j) 0:=by
 rw [List.getD_eq_getElem?_getD,List.getD_eq_getElem?_getD,List.getElem?_take,List.getElem?_drop]
 split
 ·rfl
 ·rw [List.getElem?_eq_none (by rw [List.length_drop] at *;omega)]
theorem chunk_six (xs:List Int) (i:Nat):∀ l:List Int,l=(xs.drop (6 * i)).take (min 6 (xs.drop (6 * i)).length)→(l.getD 0 0,l.getD 1 0,l.getD 2 0,l.getD 3 0,l.getD 4 0,l.getD 5 0)=six xs i:=by
 intro l hl
 rw [hl,get_chunk _ _ _ (by decide),get_chunk _ _ _ (by decide),get_chunk _ _ _ (by decide),get_chunk _ _ _ (by decide),get_chunk _ _ _ (by decide),get_chunk _ _ _ (by decide)]
 rfl
def dsP (r:Sl) (ps:List DX):SP:=arr r KD (ps.map dv)^rl sO ps
instance (r:Sl) (ps:List DX):NoR (dsP r ps):=by unfold dsP;infer_instance
def Upto (xs:List Int) (ps:List DX):Prop:=ps.map Prod.fst=(List.range ps.length).map (six xs)
theorem upto_snoc {xs:List Int} {ps:List DX} (h:Upto xs ps) (z:Sl):Upto xs (ps++[(six xs ps.length,z)]):=by
 unfold Upto at *
 rw [List.map_append,h,List.length_append]
 exact (range_snoc _ _).symm
section
variable {w0 w : World} {S0 R0 : Nat → Prop} {G : SP}
theorem nrm_of {s:Sl} {K:Ks} {xs:List (Ks.T K)} {F:SP} (h:Own w0 S0 R0 w F) [Rd s F K xs] (hl:s.len≠0):Nrm s:=Nrm.long (h.rd (s:=s)).1 hl
end
theorem decode_tri (b:Sl) (xs:List Int) (hb:b.len≤b.cap) (hx:Byt xs) (hl:xs.length≤1000000) :
  Tri Tryz.prog N_script_Decode [.lf (.sl b)] [.lf .sl] (emp^rarr b K8 xs) (fun r=>ex fun ps:List DX=>pur (Upto xs ps∧ps.length=nD xs) (dsP r ps)) :=
 tri_0 (call_script_Decode b) fun w0 S R h=>by
  unfold W_script_Decode
  have h:=(h.drop.nil KD)
  have h:Own w0 S R w0 (rarr b K8 xs^dsP ⟨none,0,0⟩ []):=Own.fin (A:=rarr b K8 xs^arr ⟨none,0,0⟩ KD []^emp) h
  refine w_loopE (fun (y:Sl × Sl) (ps:List DX)=>rarr b K8 xs^dsP y.2 ps) (fun (y:Sl × Sl) (ps:List DX)=>Upto xs ps∧Rd y.1 (rarr b K8 xs) K8 (xs.drop (6 * ps.length))∧y.1.len≤y.1.cap∧ps.length≤300∧6 * ps.length < xs.length+6) (fun (y:Sl × Sl) (ps:List DX)=>xs.length - 6 * ps.length) [] h ⟨rfl,by show Rd b _ K8 (xs.drop 0);rw [List.drop_zero];infer_instance,hb,Nat.zero_le _,by show 6 * 0 < _;omega⟩ ?_
  rintro K (⟨c,d⟩:Sl × Sl) ps w ⟨hu,hr,hc,h3,h6⟩ h next
  dsimp only at hr hc h ⊢
  haveI:=hr
  have h:Own w0 S R w (rarr b K8 xs^arr d KD (ps.map dv)^rl sO ps):=h
  have hcl:=(h.rd (s:=c)).2
  have hdl:=((h.take (arr d KD (ps.map dv))).rd (s:=d)).2
  rw [List.length_drop] at hcl
  rw [List.length_map] at hdl
  refine w_ite (fun c1=>?_) fun c1=>?_
  ·have c1:((c.len:Nat):Int) > 0:=of_decide_eq_true c1
   refine w_ite (fun c2=>?_) fun c2=>?_
   ·have c2:((d.len:Nat):Int)=300:=by simpa using c2
    exact Own.retE ps (Own.retP ⟨hu,by unfold nD;omega⟩ (Own.fin (A:=arr d KD (ps.map dv)^rl sO ps) h))
   ·have c2:¬ ((d.len:Nat):Int)=300:=by simpa using c2
    have hN:=nrm_of (s:=c) h (by omega)
    obtain ⟨m,hm⟩:∃ m,m=min 6 c.len:=⟨_,rfl⟩
    have em:(if (6:Int) < ((c.len:Nat):Int) then (6:Int) else ((c.len:Nat):Int))=((m:Nat):Int):=by split<;>omega
    rw [em]
    obtain ⟨l,hl'⟩:∃ l,l=(xs.drop (6 * ps.length)).take (min 6 (xs.drop (6 * ps.length)).length):=⟨_,rfl⟩
    have hll:l.length=m:=by rw [hl',List.length_take,List.length_drop];omega
    have elm:(xs.drop (6 * ps.length)).take m=l:=by rw [hl',List.length_drop];congr 1;omega
    refine w_new h fun n3 w h=>?_
    refine w_slcR (s:=c) h hN 0 m c.cap rfl rfl rfl rfl (Nat.zero_le _) (by rw [List.length_drop];omega) (by omega) (by omega) fun hs4 hr4=>?_
    rw [elm,List.drop_zero] at hr4
    have hr4b:=rd_sub c (rarr b K8 xs) K8 (xs.drop (6 * ps.length)) 0 m c.cap (Nat.zero_le _) (by rw [List.length_drop];omega) (by omega)
    rw [elm,List.drop_zero] at hr4b
    haveI:Rd (c.sub 0 m c.cap 1) (rarr b K8 xs) K8 l:=hr4b
    have h:Own w0 S R w (blk n3 (cells l (0:Int).toNat)^rarr b K8 xs^arr d KD (ps.map dv)^rl sO ps):=h
    refine w_loop (fun i:Int=>blk n3 (cells l i.toNat)^rarr b K8 xs^arr d KD (ps.map dv)^rl sO ps) (fun i:Int=>0≤i∧i≤m) (fun i:Int=>m - i.toNat) h ⟨Int.le_refl 0,by omega⟩ ?_
    rintro (i:Int) w ⟨i0,i1⟩ h
    refine w_ite (fun c3=>?_) fun c3=>?_
    ·have c3:i < (((c.sub 0 m c.cap 1).len:Nat):Int):=of_decide_eq_true c3
     rw [hs4] at c3
     have hi:i.toNat < l.length:=by omega
     obtain ⟨x,hx1⟩:∃ x,l[i.toNat]?=some x:=⟨_,at_some hi⟩
     have hxm:x∈xs:=List.mem_of_mem_drop (List.mem_of_mem_take (by rw [← hl'];exact List.mem_of_getElem? hx1))
     have hxb:=hx x hxm
     refine w_idx (s:=c.sub 0 m c.cap 1) h i0 hi (w_ldE h (c.sub 0 m c.cap 1) i.toNat hx1 rfl (ScW.w_req ⟨i0,by omega⟩ ?_))
     rw [wi (n:=x) (by omega) (by omega)]
     have ei:(i+1).toNat=i.toNat+1:=by omega
     refine w_setTo h n3 (cells l (i.toNat+1)) rfl ?_ (cells_s l (by omega) hx1) fun w h=>?_
     ·show Nat.ble (0+i.toNat * 1+1) 6=true
      rw [Nat.ble_eq];omega
     ·rw [wi (n:=i+1) (by omega) (by omega)]
      refine ⟨⟨⟨by show (0:Int)≤i+1;omega,by show i+1≤_;omega⟩,?_⟩,by show m - (i+1).toNat < _;omega⟩
      show Own w0 S R w (blk n3 (cells l (i+1).toNat)^_)
      rw [ei]
      exact h
    ·have c3:¬ i < (((c.sub 0 m c.cap 1).len:Nat):Int):=of_decide_eq_false c3
     rw [hs4] at c3
     have ei:i.toNat=l.length:=by omega
     rw [ei,cells_e,chunk_six xs ps.length l hl'] at h
     refine w_slcR (s:=c) h hN m c.len c.cap rfl rfl rfl rfl (by omega) (by rw [List.length_drop];omega) hc (Nat.le_refl _) fun hs9 _=>?_
     have hr9:=rd_sub c (rarr b K8 xs) K8 (xs.drop (6 * ps.length)) m c.len c.cap (by omega) (by rw [List.length_drop];omega) hc
     refine w_ldAll (x:=six xs ps.length) h rfl ?_
     refine w_call (deed_tri (six xs ps.length) (six_ok hx _)) (h.le ((star_emp _).trans (star_comm _ _))) fun r w h=>?_
     obtain ⟨z,h⟩:=h.exP
     obtain ⟨hr',h⟩:=h.purP
     rw [hr']
     refine w_new h fun n12 w h=>?_
     have h:=h.blkArr n12 KD [dd (six xs ps.length) z] rfl (by simp)
     have h:Own w0 S R w (arr ⟨some ⟨n12,0⟩,1,1⟩ KD [dd (six xs ps.length) z]^arr d KD (ps.map dv)^rarr b K8 xs^rl sO ps^arr z KR (ds (six xs ps.length))):=h.fin
     refine w_app (s:=d) (x:=⟨some ⟨n12,0⟩,1,1⟩) h rfl (by rw [List.length_map,List.length_singleton];omega) fun s13 w hs13 h=>?_
     have h:Own w0 S R w ((rarr b K8 xs^arr s13 KD (ps.map dv++[dd (six xs ps.length) z]))^(rl sO ps^arr z KR (ds (six xs ps.length)))):=h.fin
     have h:=h.le (star_mono Le.rfl (rl_snoc sO (six xs ps.length,z) ps))
     have ed:ps.map dv++[dd (six xs ps.length) z]=(ps++[(six xs ps.length,z)]).map dv:=by rw [List.map_append];rfl
     rw [ed] at h
     refine next (c.sub m c.len c.cap 1,s13) (ps++[(six xs ps.length,z)]) w ⟨upto_snoc hu z,?_,?_,?_,?_⟩ (h.le (star_assoc _ _ _)) ?_
     ·have e1:(((xs.drop (6 * ps.length)).take c.len).drop m)=xs.drop (6 * (ps++[(six xs ps.length,z)]).length):=by
       rw [List.take_of_length_le (by rw [List.length_drop];omega),List.drop_drop,List.length_append,List.length_singleton]
       by_cases hh:6≤c.len
       ·congr 1;omega
       ·rw [List.drop_eq_nil_of_le (by omega),List.drop_eq_nil_of_le (by omega)]
      rw [e1] at hr9
      exact hr9
     ·show c.len - m≤c.cap - m
      omega
     ·rw [List.length_append,List.length_singleton];omega
     ·rw [List.length_append,List.length_singleton];omega
     ·show xs.length - 6 * (ps++[(six xs ps.length,z)]).length < xs.length - 6 * ps.length
      rw [List.length_append,List.length_singleton];omega
  ·have c1:¬ ((c.len:Nat):Int) > 0:=of_decide_eq_false c1
   exact Own.retE ps (Own.retP ⟨hu,by unfold nD;omega⟩ (Own.fin (A:=arr d KD (ps.map dv)^rl sO ps) h))
end ScF

namespace ScH
open ScE ScF
theorem dsP_split {w0 w:World} {S0 R0:Nat→Prop} {F:SP} {r:Sl} {ps:List DX} (h:Own w0 S0 R0 w (dsP r ps^F)):Own w0 S0 R0 w (arr r KD (ps.map dv)^rl sO ps^F):=h.le (star_assoc _ _ _)
instance (F:SP):Lend (ScC.outsP ⟨none,0,0⟩ []) F:=by
 unfold ScC.outsP
 exact inferInstanceAs (Lend (rarr ⟨none,0,0⟩ ScC.KOu []^emp) F)
theorem l53:(⟨#[53,10]⟩:ByteArray)=ScM.bA [53,10]:=rfl
theorem awake_tri:Tri Tryz.prog N_canterlaw28_awake [] [.lf .bool] emp (fun r=>pur (r=true) emp) :=
 tri_0 call_canterlaw28_awake fun w0 S R h=>by
  unfold W_canterlaw28_awake
  refine w_new h fun n1 w h=>?_
  have h:=h.blkArr n1 K8 [1,2] rfl (by simp)
  refine w_callL (A:=emp) (Q:=rarr ⟨some ⟨n1,0⟩,2,2⟩ K8 [1,2]) (decode_tri ⟨some ⟨n1,0⟩,2,2⟩ [1,2] (Nat.le_refl _) (by intro x hx;simp at hx;omega) (by decide)) (h.le ((star_emp _).trans (star_comm _ _))) fun r w h=>?_
  obtain ⟨ps,h⟩:=h.exP
  obtain ⟨⟨hu,hn⟩,h⟩:=h.purP
  have h:=dsP_split h
  have hn:ps.length=1:=hn
  obtain ⟨p,hp⟩:∃ p,ps[0]?=some p:=⟨_,at_some (by omega)⟩
  have hp1:p.1=(1,2,0,0,0,0):=by
   unfold Upto at hu
   rw [hn] at hu
   have:=congrArg (fun l=>l[0]?) hu
   simp only [List.getElem?_map,hp,Option.map_some] at this
   have h2:some p.1=some ((1,2,0,0,0,0):Six):=this
   exact Option.some.inj h2
  have hpf:(ps.map dv)[0]?=some (dv p):=by rw [List.getElem?_map,hp];rfl
  have hr:=(h.rd (s:=r)).2
  rw [List.length_map,hn] at hr
  have hl1:(0:Int).toNat < (ps.map dv).length:=by rw [List.length_map,hn];decide
  refine w_ite (fun _=>?_) fun c=>absurd c (by rw [hr];decide)
  refine w_idx (s:=r) h (Int.le_refl 0) hl1 (w_ldA h r 0 0 (dv p) hpf rfl (by decide) (x:=(dv p).1) rfl ?_)
  refine w_ite (fun _=>?_) fun c=>absurd c (by unfold dv;rw [hp1];show ¬ ((_:Bool)=false);simp [dd])
  refine w_idx (s:=r) h (Int.le_refl 0) hl1 (w_ldA h r 0 1 (dv p) hpf rfl (by decide) (x:=(dv p).2.1) rfl ?_)
  refine w_ite (fun _=>?_) fun c=>absurd c (by unfold dv;rw [hp1];show ¬ ((_:Bool)=false);simp [dd])
  refine w_new h fun n7 w h=>?_
  have h:=h.blkArr n7 ScC.KI [5] rfl (by simp)
  have h:Own w0 S R w (StrT.tabF false^arr ⟨some ⟨n7,0⟩,1,1⟩ ScC.KI [5]):=h.keep.le ((star_emp _).trans (star_comm _ _))
  refine w_callL (A:=emp) (Q:=StrT.tabF false^ScC.outsP ⟨none,0,0⟩ []^rarr ⟨some ⟨n7,0⟩,1,1⟩ ScC.KI [5]) (ScC.text_tri false ⟨none,0,0⟩ ⟨some ⟨n7,0⟩,1,1⟩ [] [5] (fun _ h=>by cases h) (by decide) (by decide) (fun _=>⟨fun _ h=>(by cases h),by decide⟩)) (h.le ((star_emp _).trans (star_comm _ _))) fun r8 w h=>?_
  obtain ⟨hr8,h⟩:=h.purP
  have h:=h.drop
  have e5:ScM.txF (([]:List ScC.OT).map ScC.otF) [5]=[53,10]:=by
   show (ScM.dg 5++([]++[10]):List UInt8)=_
   rw [show ScM.dg 5=[53] from _root_.Go.Lib.decDigits_one (i:=5) (by decide)]
   rfl
  refine w_ite (fun _=>?_) fun c=>absurd c (by rw [hr8,e5,l53];simp)
  refine w_call splain_tri (h.le ((star_emp _).trans (star_comm _ _))) fun r9 w h=>?_
  obtain ⟨hr9,h⟩:=h.purP
  refine w_call rplain_tri h fun r10 w h=>?_
  obtain ⟨hr10,h⟩:=h.purP
  rw [hr9,hr10]
  exact Own.retP rfl h.emp'
end ScH

namespace ScR
open Arith ArithC TreeF FqM FqC SockC EgM EgA EgB EgC EgD EgE EgF EgG EgH EgI EgJ EgK EgQ
def outsM (v:Mc) (ps:List OpE):Nat→List Ou
 | 0=>[]
 | j+1=>outsM v ps j++[(doF (runM v ps j) (pAt ps j).1 (pAt ps j).2).1.1]
theorem outs_len (v:Mc) (ps:List OpE):∀ j,(outsM v ps j).length=j
 | 0=>rfl
 | j+1=>by show (outsM v ps j++[_]).length=_;rw [List.length_append,outs_len v ps j];rfl
abbrev OR:=Ks.T KOu × Ou
def oR (x:OR):SP:=outR x.1 x.2
instance (x:OR):NoR (oR x):=by unfold oR;infer_instance
theorem rl_nor {α:Type} (f:α→SP) (h:∀ x,NoR (f x)):∀ l:List α,NoR (rl f l)
 | []=>by unfold rl;infer_instance
 | x :: l=>by have:=rl_nor f h l;have:=h x;unfold rl;infer_instance
instance (l:List OR):NoR (rl oR l):=rl_nor oR inferInstance l
theorem rl_snoc {α:Type} (f:α→SP) (x:α):∀ l:List α,Le (rl f l^f x) (rl f (l++[x]))
 | []=>(star_comm _ _)
 | y :: l=>(star_assoc _ _ _).trans (star_mono Le.rfl (rl_snoc f x l))
def runP (r:Sl × Sl) (rs:List OR) (es:List Int):SP:=arr r.1 KOu (rs.map Prod.fst)^arr r.2 KI es^rl oR rs
instance (r:Sl × Sl) (rs:List OR) (es:List Int):NoR (runP r rs es):=by unfold runP;infer_instance
theorem runA_tri (c:Cf) (hm:may c=true) (hc:OkC c) (s:Sl) (ps:List OpE) (hl:ps.length≤1000) (hd:∀ p∈ps,OkD p.1) (hx:∀ p∈ps,p.2.length≤4294967296):Tri Tryz.prog N_script_Run [.agg (Ks.mk KC c),.lf (.sl s)] [.lf .sl,.lf .sl] (emp^opsE s ps)
  (fun r=>ex fun rs:List OR=>pur (rs.map Prod.snd=outsM (newM c) ps ps.length) (runP r rs (errsM (newM c) ps ps.length))) :=
 tri_0 (call_script_Run c s) fun w0 S R h=>by
  unfold W_script_Run
  have hsl:=(h.rd (s:=s)).2
  rw [List.length_map] at hsl
  refine w_new h fun n1 w h=>w_ldAll (b:=n1) (x:=c) h rfl (w_call (EgE.new_tri c) (h.le ((star_emp _).trans (star_comm _ _))) fun r w h=>?_)
  obtain ⟨b,h⟩:=h.exP
  obtain ⟨hr,h⟩:=h.purP
  rw [if_pos hm] at hr h
  rw [hr]
  refine w_ite (fun c=>(by cases c)) fun _=>?_
  have h:=h.nil KOu
  have h:=h.nil KI
  have h:Own w0 S R w (mach b (runM (newM c) ps (0:Int).toNat)^arr ⟨none,0,0⟩ KOu (([]:List OR).map Prod.fst)^arr ⟨none,0,0⟩ KI (errsM (newM c) ps (0:Int).toNat)^rl oR []^opsE s ps):=Own.fin (A:=mach b (newM c)^arr ⟨none,0,0⟩ KOu []^arr ⟨none,0,0⟩ KI []^emp^opsE s ps) h
  refine w_loopE (fun (y:Sl × Sl × Int) (rs:List OR)=>mach b (runM (newM c) ps y.2.2.toNat)^arr y.1 KOu (rs.map Prod.fst)^arr y.2.1 KI (errsM (newM c) ps y.2.2.toNat)^rl oR rs^opsE s ps) (fun (y:Sl × Sl × Int) rs=>(0≤y.2.2∧y.2.2≤ps.length)∧rs.map Prod.snd=outsM (newM c) ps y.2.2.toNat) (fun (y:Sl × Sl × Int) _=>((ps.length:Int) - y.2.2).toNat) [] h ⟨⟨Int.le_refl 0,by show (0:Int)≤_;omega⟩,rfl⟩ ?_
  rintro K (y:Sl × Sl × Int) rs w ⟨hyr,hrl⟩ h next
  obtain ⟨y1,y2,y3⟩:=y
  dsimp only at hyr hrl h next ⊢
  have hrs:rs.length=y3.toNat:=by have:=congrArg List.length hrl;rw [List.length_map,outs_len] at this;exact this
  refine w_ite (fun c0=>?_) fun c0=>?_
  ·have c0:y3 < ((s.len:Nat):Int):=of_decide_eq_true c0
   have hlt:y3.toNat < ps.length:=by omega
   obtain ⟨p,hpi⟩:∃ p,ps[y3.toNat]?=some p:=⟨_,List.getElem?_eq_getElem hlt⟩
   have hpa:pAt ps y3.toNat=p:=by unfold pAt;rw [List.getD_eq_getElem?_getD,hpi];rfl
   have hdm:(ps.map Prod.fst)[y3.toNat]?=some p.1:=by rw [List.getElem?_map,hpi];rfl
   have hdl:y3.toNat < (ps.map Prod.fst).length:=by rw [List.length_map];exact hlt
   have hmem:=List.mem_of_getElem? hpi
   refine w_idx (s:=s) h hyr.1 hdl (w_ldE h s y3.toNat hdm rfl ?_)
   refine w_new h fun n9 w h=>w_setTo h n9 (Ks.mk KD p.1) rfl rfl rfl fun w h=>w_ldAll (b:=n9) (x:=p.1) h rfl ?_
   haveI:=rd_dR hpi
   have hv:=runM_ok hc hd y3.toNat (by omega) (by omega)
   have h:Own w0 S R w (mach b (runM (newM c) ps y3.toNat)^(arr y1 KOu (rs.map Prod.fst)^arr y2 KI (errsM (newM c) ps y3.toNat)^rl oR rs)^opsE s ps):=h.fin
   refine w_callL (A:=mach b (runM (newM c) ps y3.toNat)) (Q:=rarr (dR p.1) KR p.2) (do_tri b _ _ hv (by omega) p.1 (hd p hmem) p.2 (hx p hmem)) h fun r w h=>?_
   obtain ⟨hre,h⟩:=h.purP
   obtain ⟨ro,re⟩:=r
   dsimp only at hre h ⊢
   rw [← hpa] at hre h
   obtain ⟨on,hon⟩:∃ on,on=(doF (runM (newM c) ps y3.toNat) (pAt ps y3.toNat).1 (pAt ps y3.toNat).2).1.1:=⟨_,rfl⟩
   rw [← hon] at h
   have h:Own w0 S R w (outR ro on^mach b (runM (newM c) ps (y3.toNat+1))^arr y1 KOu (rs.map Prod.fst)^arr y2 KI (errsM (newM c) ps y3.toNat)^rl oR rs^opsE s ps):=Own.fin (A:=outR ro on^mach b (doF (runM (newM c) ps y3.toNat) (pAt ps y3.toNat).1 (pAt ps y3.toNat).2).2^arr y1 KOu (rs.map Prod.fst)^arr y2 KI (errsM (newM c) ps y3.toNat)^rl oR rs^opsE s ps) h
   refine w_new h fun n12 w h=>w_setTo h n12 (Ks.mk KOu ro) rfl rfl rfl fun w h=>w_ldAll (b:=n12) (x:=ro) h rfl ?_
   refine w_new h fun n14 w h=>?_
   have h:=h.blkArr n14 KOu [ro] rfl (by simp)
   have h:Own w0 S R w (arr ⟨some ⟨n14,0⟩,1,1⟩ KOu [ro]^_):=h
   have h:Own w0 S R w (arr y1 KOu (rs.map Prod.fst)^arr ⟨some ⟨n14,0⟩,1,1⟩ KOu [ro]^outR ro on^mach b (runM (newM c) ps (y3.toNat+1))^arr y2 KI (errsM (newM c) ps y3.toNat)^rl oR rs^opsE s ps):=h.fin
   refine w_app (s:=y1) (x:=⟨some ⟨n14,0⟩,1,1⟩) h rfl (by rw [List.length_map,hrs];show _+1≤_;omega) fun s15 w _ h=>?_
   refine w_new h fun n16 w h=>?_
   have h:=h.blkArr n16 KI [re] rfl (by simp)
   have h:Own w0 S R w (arr ⟨some ⟨n16,0⟩,1,1⟩ KI [re]^_):=h
   have h:Own w0 S R w (arr y2 KI (errsM (newM c) ps y3.toNat)^arr ⟨some ⟨n16,0⟩,1,1⟩ KI [re]^arr s15 KOu (rs.map Prod.fst++[ro])^outR ro on^mach b (runM (newM c) ps (y3.toNat+1))^rl oR rs^opsE s ps):=h.fin
   refine w_app (s:=y2) (x:=⟨some ⟨n16,0⟩,1,1⟩) h rfl (by rw [errs_len];show _+1≤_;omega) fun s17 w _ h=>?_
   have hwi:IntKind.i64.wrap (y3+1)=y3+1:=wi (by omega) (by omega)
   have he:errsM (newM c) ps y3.toNat++[re]=errsM (newM c) ps (y3.toNat+1):=by rw [hre];rfl
   have h1:(y3+1).toNat=y3.toNat+1:=by omega
   rw [hwi]
   have ea:rs.map Prod.fst++[ro]=(rs++[((ro,on):OR)]).map Prod.fst:=by rw [List.map_append];rfl
   have eb:(rs++[((ro,on):OR)]).map Prod.snd=outsM (newM c) ps (y3.toNat+1):=by rw [List.map_append,hrl,hon];rfl
   rw [he,ea] at h
   have h:Own w0 S R w ((mach b (runM (newM c) ps (y3.toNat+1))^arr s15 KOu ((rs++[((ro,on):OR)]).map Prod.fst)^arr s17 KI (errsM (newM c) ps (y3.toNat+1))^opsE s ps)^(rl oR rs^outR ro on)):=h.fin
   have h:=h.le (star_mono Le.rfl (rl_snoc oR (ro,on) rs))
   refine next (s15,s17,y3+1) (rs++[(ro,on)]) w ⟨⟨by show 0≤y3+1;omega,by show y3+1≤_;omega⟩,by show _=outsM (newM c) ps (y3+1).toNat;rw [h1];exact eb⟩ ?_ (by show ((ps.length:Int) - (y3+1)).toNat < ((ps.length:Int) - y3).toNat;omega)
   show Own w0 S R w (mach b (runM (newM c) ps (y3+1).toNat)^arr s15 KOu ((rs++[((ro,on):OR)]).map Prod.fst)^arr s17 KI (errsM (newM c) ps (y3+1).toNat)^rl oR (rs++[((ro,on):OR)])^opsE s ps)
   rw [h1]
   exact h.fin
  ·have c0:¬ y3 < ((s.len:Nat):Int):=of_decide_eq_false c0
   have e:y3.toNat=ps.length:=by omega
   rw [e] at h hrl
   have h:Own w0 S R w (arr y1 KOu (rs.map Prod.fst)^arr y2 KI (errsM (newM c) ps ps.length)^rl oR rs):=h.fin
   exact Own.retE rs (Own.retP hrl h)
theorem runB_tri (c:Cf) (hm:may c=false) (s:Sl) (F:SP):Tri Tryz.prog N_script_Run [.agg (Ks.mk KC c),.lf (.sl s)] [.lf .sl,.lf .sl] (emp^F)
  (fun r=>pur (r.1=⟨none,0,0⟩) (arr r.2 KI [13])) :=
 tri_0 (call_script_Run c s) fun w0 S R h=>by
  unfold W_script_Run
  have h:Own w0 S R w0 emp:=h.keep
  refine w_new h fun n1 w h=>w_ldAll (b:=n1) (x:=c) h rfl (w_call (EgE.new_tri c) (h.le ((star_emp _).trans (star_comm _ _))) fun r w h=>?_)
  obtain ⟨b,h⟩:=h.exP
  obtain ⟨hr,h⟩:=h.purP
  rw [if_neg (by rw [hm];decide)] at hr h
  rw [hr]
  refine w_ite (fun _=>?_) fun c=>(by cases c)
  refine w_new h fun n4 w h=>?_
  have h:=h.blkArr n4 KI [13] rfl (by simp)
  have h:Own w0 S R w (arr ⟨some ⟨n4,0⟩,1,1⟩ KI [13]^_):=h
  exact Own.retP rfl h.keep
end ScR

namespace ScS
open Arith ArithC TreeF FqM FqC SockC EgM EgA EgB EgC EgD EgE EgF EgG EgH EgI EgJ EgK EgQ ScR
theorem eno_same_tri (a b:Sl) (one:Fv) (C:SP) (xs ys:List (Ks.T KI)) (Q:Ks.T KI→Ks.T KI→Prop) (hl:xs.length≤4294967296) (hf:∀ x∈xs,∀ y∈ys,TriV Tryz.prog one [.lf (.int .i64 x),.lf (.int .i64 y)] [.lf .bool] C (fun r=>pur ((r=true)↔Q x y) C)) :
  Tri Tryz.prog N_canterhelp_Same_apiErrno [.lf (.sl a),.lf (.sl b),.lf (.fn one)] [.lf .bool] (C^rarr a KI xs^rarr b KI ys) (fun r=>pur ((r=true)↔AllP Q xs ys) C) :=
 tri_0 (call_canterhelp_Same_apiErrno _ _ _) fun w S R h=>by
  unfold W_canterhelp_Same_apiErrno
  have ha:=(h.drop.rd (s:=a)).2
  have hb:=((h.take (rarr b KI ys)).rd (s:=b)).2
  refine w_ite (fun c=>?_) fun c=>?_
  ·rw [ha,hb] at c
   exact Own.retP ⟨fun h=>(by cases h),fun h=>by have:=AllP_len h;simp at c;omega⟩ h.fin
  ·rw [ha,hb] at c
   have c:xs.length=ys.length:=by simp at c;omega
   refine w_loop (fun _=>rarr a KI xs^rarr b KI ys^C) (fun (i:Int)=>0≤i∧i.toNat≤xs.length∧(AllP Q xs ys↔AllP Q (xs.drop i.toNat) (ys.drop i.toNat))) (fun (i:Int)=>xs.length - i.toNat) h.fin ⟨Int.le_refl 0,Nat.zero_le _,Iff.rfl⟩ ?_
   rintro (i:Int) w ⟨h0,h1,h2⟩ h
   refine w_ite (fun c2=>?_) fun c2=>?_
   ·have hi:i.toNat < xs.length:=by simp at c2;omega
    have hi2:i.toNat < ys.length:=by omega
    refine w_drw h fun w h=>?_
    refine w_idx h h0 hi ?_
    have hb':=h.le (star_swap _ _ _)
    refine w_idx hb' h0 hi2 ?_
    refine w_ldE h a i.toNat (at_some hi) rfl ?_
    refine w_ldE hb' b i.toNat (at_some hi2) rfl ?_
    refine w_callv (hf _ (List.getElem_mem hi) _ (List.getElem_mem hi2)) h fun r w h=>?_
    obtain ⟨hr,h⟩:=h.purP
    rw [List.drop_eq_getElem_cons hi,List.drop_eq_getElem_cons hi2,AllP,← hr] at h2
    refine w_ite (fun c3=>?_) fun c3=>?_
    ·have c3:r=false:=by simpa using c3
     rw [c3] at h2
     exact Own.retP ⟨fun h=>(by cases h),fun h=>by have:=(h2.1 h).1;cases this⟩ h.fin
    ·have c3:r=true:=by simpa using c3
     rw [c3] at h2
     have h2:AllP Q xs ys↔AllP Q (xs.drop (i.toNat+1)) (ys.drop (i.toNat+1)):=h2.trans ⟨fun h=>h.2,fun h=>⟨rfl,h⟩⟩
     have e:(i+1).toNat=i.toNat+1:=by omega
     rw [wi (by omega) (by omega)]
     exact ⟨⟨⟨by show (0:Int)≤i+1;omega,by show (i+1).toNat≤_;omega,by show _↔AllP Q (xs.drop (i+1).toNat) (ys.drop (i+1).toNat);rw [e];exact h2⟩,h.fin⟩,by show _ - (i+1).toNat < _;omega⟩
   ·have hi:i.toNat=xs.length:=by simp at c2;omega
    rw [hi,List.drop_length,c,List.drop_length,AllP] at h2
    exact Own.retP ⟨fun _=>h2.2 trivial,fun _=>rfl⟩ h.fin
theorem eno_one_tri (x y:Ks.T KI):Tri Tryz.prog N_canterhelp_Plain_apiErrno_c1 [.lf (.int .i64 x),.lf (.int .i64 y)] [.lf .bool] emp (fun r=>pur ((r=true)↔x=y) emp) :=
 tri_0 (call_canterhelp_Plain_apiErrno_c1 _ _) fun w S R h=>by
  unfold W_canterhelp_Plain_apiErrno_c1
  repeat' (first
   | (refine w_drw h fun w h=>?_)
   | (refine w_deref ?_)
   | (refine w_ldAll h rfl ?_)
   | (refine w_ld h rfl ?_)
   | (refine w_chkAll h ?_)
   | (refine w_chk h rfl ?_)
   | (refine w_setAll h (by rfl) fun w h=>?_)
   | (refine w_new h fun n w h=>?_)
   | (refine w_leave h fun w h=>?_)
   | (refine w_set h rfl fun w h=>?_;dsimp only [upd,over] at h))
  all_goals exact Own.retP (by simp [Prod.ext_iff]) h.emp'
theorem eno_plain_tri (a b:Sl) (xs ys:List (Ks.T KI)) (hl:xs.length≤4294967296) :
  Tri Tryz.prog N_canterhelp_Plain_apiErrno [.lf (.sl a),.lf (.sl b)] [.lf .bool] (emp^rarr a KI xs^rarr b KI ys) (fun r=>pur ((r=true)↔xs=ys) emp) :=
 tri_0 (call_canterhelp_Plain_apiErrno _ _) fun w S R h=>by
  unfold W_canterhelp_Plain_apiErrno
  refine w_call (eno_same_tri a b _ emp xs ys Eq hl (fun x _ y _=>(Tri.g (f:=N_canterhelp_Plain_apiErrno_c1) (args:=[.lf (.int .i64 x),.lf (.int .i64 y)]) (caps:=[]) (eno_one_tri x y)).v)) h fun r w h=>?_
  obtain ⟨hr,h⟩:=h.purP
  exact Own.retP (hr.trans (AllP_eq xs ys)) h.keep
section
variable {P : Program} {w0 w : World} {S0 R0 : Nat → Prop} {F Q : SP}
theorem w_lend {f:FuncId} {args:List V1} {rs:List Sh} {Post:Rs.T rs→SP} {K:Rs.T rs→WP} (t:Tri P f args rs (emp^Q) Post) (h:Own w0 S0 R0 w F) (hl:Lend Q F) [hN:∀ x,NoR (Post x)] (k:∀ x w',Own w0 S0 R0 w' (Post x^F)→K x w'):call P f args rs K w :=
 w_callL (A:=emp) (Q:=Q) (F:=emp^F) (G:=F) t (h.le ((star_emp _).trans (star_comm _ _))) k
theorem w_emp {f:FuncId} {args:List V1} {rs:List Sh} {Post:Rs.T rs→SP} {K:Rs.T rs→WP} (t:Tri P f args rs emp Post) (h:Own w0 S0 R0 w F) (k:∀ x w',Own w0 S0 R0 w' (Post x^F)→K x w'):call P f args rs K w :=
 w_call (F:=emp^F) (G:=F) t (h.le ((star_emp _).trans (star_comm _ _))) k
theorem lend_rlE {α:Type} {f:α→SP}:∀ {l:List α},(∀ p∈l,Lend (f p) F)→Lend (rl f l) F
 | [],_=>lend_emp F
 | x :: l,h=>by
  haveI:=h x (List.mem_cons_self ..)
  haveI:=lend_rlE (l:=l) fun p hp=>h p (List.mem_cons_of_mem _ hp)
  exact lend_star (f x) (rl f l) F
end
end ScS

namespace ScT
open Arith ArithC TreeF FqM FqC SockC EgM EgA EgB EgC EgD EgE EgF EgG EgH EgI EgJ EgK EgQ ScR ScS
theorem lend_ops {F:SP} (r:Sl) (ds:List OpE) [t:Rd r F KD (ds.map Prod.fst)] (h:∀ p∈ds,Rd (dR p.1) F KR p.2):Lend (opsE r ds) F :=
 lend_star _ _ _ (b:=lend_rlE fun p hp=>by haveI:=h p hp;infer_instance)
theorem rd_deeds {F:SP} {ps:List OpE} {m:Int} (hp:∀ p∈ps,OkE p) (hr:∀ p∈ps,Rd (dR p.1) F KR p.2) (hlen:∀ p∈ps,(dR p.1).len=p.2.length):∀ q∈deedsF m ps,Rd (dR q.1) F KR q.2:=by
 intro q hq
 obtain ⟨p,hpm,rfl⟩:=List.mem_map.1 hq
 have hpm:=List.mem_of_mem_take hpm
 haveI:=hr p hpm
 exact rd_deed p F (hp p hpm).cp (hlen p hpm)
theorem ops_len {w0 w:World} {S0 R0:Nat→Prop} {s:Sl} {ps:List OpE} (h:Own w0 S0 R0 w (opsE s ps)):∀ p∈ps,(dR p.1).len=p.2.length:=fun p hp=>by
 obtain ⟨i,hi⟩:=List.mem_iff_getElem?.1 hp
 haveI:=rd_dR hi
 exact (h.rd (s:=dR p.1)).2
theorem rd_ops {ps:List OpE}:∀ p∈ps,Rd (dR p.1) (rl (fun p:OpE=>rarr (dR p.1) KR p.2) ps) KR p.2:=fun p hp=>by
 obtain ⟨i,hi⟩:=List.mem_iff_getElem?.1 hp
 exact rd_dR hi
theorem deeds_D {ps:List OpE} {m:Int} (hp:∀ p∈ps,OkE p):∀ q∈deedsF m ps,OkD q.1∧q.2.length≤4294967296:=fun q hq=>by
 obtain ⟨p,hpm,rfl⟩:=List.mem_map.1 hq
 exact ⟨deedF_ok (hp p (List.mem_of_mem_take hpm)),by show (p.2.take 6).length≤_;rw [List.length_take];omega⟩
theorem deeds_len (ps:List OpE) (m:Int):(deedsF m ps).length=min m.toNat ps.length:=by unfold deedsF;rw [List.length_map,List.length_take]
abbrev badC:Cf:=(0,15000,100,50,10000000000,0,false,100000,1000)
theorem bad_may:may badC=false:=by decide
theorem plain_tri (s:Sl) (ps:List OpE) (hp:∀ p∈ps,OkE p):Tri Tryz.prog N_canterlaw28_ScriptPlain [.lf (.sl s)] [.lf .bool] (opsE s ps) (fun r=>pur (r=true) emp) :=
 tri_0 (call_canterlaw28_ScriptPlain s) fun w0 S R h=>by
  unfold W_canterlaw28_ScriptPlain
  have hlen:=ops_len h
  obtain ⟨ds,hds⟩:∃ ds,ds=deedsF 20 ps:=⟨_,rfl⟩
  have hD:=deeds_D (m:=20) hp
  have hdl:=deeds_len ps 20
  rw [← hds] at hD hdl
  refine w_emp ScE.splain_tri h fun r w h=>?_
  obtain ⟨hr,h⟩:=h.purP;rw [hr]
  have h:=h.drop
  refine w_new h fun n2 w h=>w_setAll h (by rfl) fun w h=>?_
  refine w_lend (deeds_tri s ps 20 (by decide) hp) h inferInstance fun r3 w h=>?_
  rw [← hds] at h
  have h:Own w0 S R w (arr r3 KD (ds.map Prod.fst)^blk n2 (Ks.mk KC FqH.plainC)^opsE s ps):=h
  refine w_ldAll (b:=n2) (x:=FqH.plainC) h rfl ?_
  have hr3:=(h.rd (s:=r3)).2
  rw [List.length_map] at hr3
  refine w_lend (runA_tri FqH.plainC FqH.plain_may FqH.plain_ok r3 ds (by omega) (fun p hp=>(hD p hp).1) (fun p hp=>(hD p hp).2)) h (lend_ops r3 ds (by rw [hds];exact rd_deeds hp (fun p hp=>by haveI:=rd_ops p hp;infer_instance) hlen)) fun r5 w h=>?_
  obtain ⟨rs,h⟩:=h.exP
  obtain ⟨_,h⟩:=h.purP
  have h:Own w0 S R w ((arr r5.1 KOu (rs.map Prod.fst)^arr r5.2 KI (errsM (newM FqH.plainC) ds ds.length)^rl oR rs)^arr r3 KD (ds.map Prod.fst)^blk n2 (Ks.mk KC FqH.plainC)^opsE s ps):=h
  have h:Own w0 S R w (arr r5.2 KI (errsM (newM FqH.plainC) ds ds.length)^blk n2 (Ks.mk KC FqH.plainC)):=h.fin
  have hr5:=(h.rd (s:=r5.2)).2
  rw [errs_len] at hr5
  refine w_setTo h n2 (Ks.mk KC badC) rfl rfl rfl fun w h=>?_
  refine w_ldAll (b:=n2) (x:=badC) h rfl ?_
  refine w_lend (runB_tri badC bad_may r3 emp) h inferInstance fun r7 w h=>?_
  obtain ⟨h71,h⟩:=h.purP
  refine w_emp ScH.awake_tri h fun r8 w h=>?_
  obtain ⟨hr8,h⟩:=h.purP
  have h:=h.drop
  refine w_ite (fun _=>?_) fun c=>absurd c (by rw [hr8,hr5,hr3,h71];simp)
  refine w_new h fun n9 w h=>?_
  have h:=h.blkArr n9 KI [13] rfl (by simp)
  have h:Own w0 S R w (arr ⟨some ⟨n9,0⟩,1,1⟩ KI [13]^arr r7.2 KI [13]):=h.fin
  refine w_lend (eno_plain_tri r7.2 ⟨some ⟨n9,0⟩,1,1⟩ [13] [13] (by decide)) h inferInstance fun r10 w h=>?_
  obtain ⟨hr10,h⟩:=h.purP
  exact Own.retP (hr10.2 rfl) h.emp'
end ScT

end Go.X
