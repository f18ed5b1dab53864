/- Contracts and plain facts: ScR ScS ScT. -/
import Derived.Test.YtniflenfpbbikaaGreatDoorB0
import Derived.Test.YtniflenfpbbikaaGreatDoorB1
import Derived.Test.YtniflenfpbbikaaGreatDoorB2
import Derived.Test.YtniflenfpbbikaaGreatDoorB3
import Derived.Test.YtniflenfpbbikaaGreatDoorB4
import Derived.Test.YtniflenfpbbikaaGreatDoorB5
import Derived.Test.YtniflenfpbbikaaGreatDoorB6
import Derived.Test.YtniflenfpbbikaaGreatDoorB7
import Derived.Test.YtniflenfpbbikaaGreatDoorB8
import Derived.Test.YtniflenfpbbikaaGreatDoorB9
import Derived.Test.YtniflenfpbbikaaGreatDoorK
import Derived.Test.YtniflenfpbbikaaGreatDoorF0
import Derived.Test.YtniflenfpbbikaaGreatDoorF1
import Derived.Test.YtniflenfpbbikaaGreatDoorF2
set_option linter.unusedVariables false
set_option linter.unusedSimpArgs false
set_option linter.unusedSectionVars false
namespace Go.X
open Go.Proofs
namespace ScR
open Arith ArithC TreeF FqM FqC SockC EgM EgA EgB EgC EgD EgE EgF EgG EgH EgI EgJ EgK EgQ
def outsM (v:Mc) (ps:List OpE):Nat→List Ou
 | 0=>[]
 | j+1=>outsM v ps j++[(doF (runM v ps j) (pAt ps j).1 (pAt ps j).2).1.1]
theorem outs_len (v:Mc) (ps:List OpE):∀ j,(outsM v ps j).length=j
 | 0=>rfl
 | j+1=>by show (outsM v ps j++[_]).length=_;rw [List.length_append,outs_len v ps j];rfl
abbrev OR:=Ks.T KOu × Ou
def oR (x:OR):SP:=outR x.1 x.2
instance (x:OR):NoR (oR x):=by unfold oR;infer_instance
theorem rl_nor {α:Type} (f:α→SP) (h:∀ x,NoR (f x)):∀ l:List α,NoR (rl f l)
 | []=>by unfold rl;infer_instance
 | x :: l=>by have:=rl_nor f h l;have:=h x;unfold rl;infer_instance
instance (l:List OR):NoR (rl oR l):=rl_nor oR inferInstance l
theorem rl_snoc {α:Type} (f:α→SP) (x:α):∀ l:List α,Le (rl f l^f x) (rl f (l++[x]))
 | []=>(star_comm _ _)
 | y :: l=>(star_assoc _ _ _).trans (star_mono Le.rfl (rl_snoc f x l))
def runP (r:Sl × Sl) (rs:List OR) (es:List Int):SP:=arr r.1 KOu (rs.map Prod.fst)^arr r.2 KI es^rl oR rs
instance (r:Sl × Sl) (rs:List OR) (es:List Int):NoR (runP r rs es):=by unfold runP;infer_instance
theorem runA_tri (c:Cf) (hm:may c=true) (hc:OkC c) (s:Sl) (ps:List OpE) (hl:ps.length≤1000) (hd:∀ p∈ps,OkD p.1) (hx:∀ p∈ps,p.2.length≤4294967296):Tri Tryz.prog N_script_Run [.agg (Ks.mk KC c),.lf (.sl s)] [.lf .sl,.lf .sl] (emp^opsE s ps)
  (fun r=>ex fun rs:List OR=>pur (rs.map Prod.snd=outsM (newM c) ps ps.length) (runP r rs (errsM (newM c) ps ps.length))) :=
 tri_0 (call_script_Run c s) fun w0 S R h=>by
  unfold W_script_Run
  have hsl:=(h.rd (s:=s)).2
  rw [List.length_map] at hsl
  refine w_new h fun n1 w h=>w_ldAll (b:=n1) (x:=c) h rfl (w_call (EgE.new_tri c) (h.le ((star_emp _).trans (star_comm _ _))) fun r w h=>?_)
  obtain ⟨b,h⟩:=h.exP
  obtain ⟨hr,h⟩:=h.purP
  rw [if_pos hm] at hr h
  rw [hr]
  refine w_ite (fun c=>(by cases c)) fun _=>?_
  have h:=h.nil KOu
  have h:=h.nil KI
  have h:Own w0 S R w (mach b (runM (newM c) ps (0:Int).toNat)^arr ⟨none,0,0⟩ KOu (([]:List OR).map Prod.fst)^arr ⟨none,0,0⟩ KI (errsM (newM c) ps (0:Int).toNat)^rl oR []^opsE s ps):=Own.fin (A:=mach b (newM c)^arr ⟨none,0,0⟩ KOu []^arr ⟨none,0,0⟩ KI []^emp^opsE s ps) h
  refine w_loopE (fun (y:Sl × Sl × Int) (rs:List OR)=>mach b (runM (newM c) ps y.2.2.toNat)^arr y.1 KOu (rs.map Prod.fst)^arr y.2.1 KI (errsM (newM c) ps y.2.2.toNat)^rl oR rs^opsE s ps) (fun (y:Sl × Sl × Int) rs=>(0≤y.2.2∧y.2.2≤ps.length)∧rs.map Prod.snd=outsM (newM c) ps y.2.2.toNat) (fun (y:Sl × Sl × Int) _=>((ps.length:Int) - y.2.2).toNat) [] h ⟨⟨Int.le_refl 0,by show (0:Int)≤_;omega⟩,rfl⟩ ?_
  rintro K (y:Sl × Sl × Int) rs w ⟨hyr,hrl⟩ h next
  obtain ⟨y1,y2,y3⟩:=y
  dsimp only at hyr hrl h next ⊢
  have hrs:rs.length=y3.toNat:=by have:=congrArg List.length hrl;rw [List.length_map,outs_len] at this;exact this
  refine w_ite (fun c0=>?_) fun c0=>?_
  ·have c0:y3 < ((s.len:Nat):Int):=of_decide_eq_true c0
   have hlt:y3.toNat < ps.length:=by omega
   obtain ⟨p,hpi⟩:∃ p,ps[y3.toNat]?=some p:=⟨_,List.getElem?_eq_getElem hlt⟩
   have hpa:pAt ps y3.toNat=p:=by unfold pAt;rw [List.getD_eq_getElem?_getD,hpi];rfl
   have hdm:(ps.map Prod.fst)[y3.toNat]?=some p.1:=by rw [List.getElem?_map,hpi];rfl
   have hdl:y3.toNat < (ps.map Prod.fst).length:=by rw [List.length_map];exact hlt
   have hmem:=List.mem_of_getElem? hpi
   refine w_idx (s:=s) h hyr.1 hdl (w_ldE h s y3.toNat hdm rfl ?_)
   refine w_new h fun n9 w h=>w_setTo h n9 (Ks.mk KD p.1) rfl rfl rfl fun w h=>w_ldAll (b:=n9) (x:=p.1) h rfl ?_
   haveI:=rd_dR hpi
   have hv:=runM_ok hc hd y3.toNat (by omega) (by omega)
   have h:Own w0 S R w (mach b (runM (newM c) ps y3.toNat)^(arr y1 KOu (rs.map Prod.fst)^arr y2 KI (errsM (newM c) ps y3.toNat)^rl oR rs)^opsE s ps):=h.fin
   refine w_callL (A:=mach b (runM (newM c) ps y3.toNat)) (Q:=rarr (dR p.1) KR p.2) (do_tri b _ _ hv (by omega) p.1 (hd p hmem) p.2 (hx p hmem)) h fun r w h=>?_
   obtain ⟨hre,h⟩:=h.purP
   obtain ⟨ro,re⟩:=r
   dsimp only at hre h ⊢
   rw [← hpa] at hre h
   obtain ⟨on,hon⟩:∃ on,on=(doF (runM (newM c) ps y3.toNat) (pAt ps y3.toNat).1 (pAt ps y3.toNat).2).1.1:=⟨_,rfl⟩
   rw [← hon] at h
   have h:Own w0 S R w (outR ro on^mach b (runM (newM c) ps (y3.toNat+1))^arr y1 KOu (rs.map Prod.fst)^arr y2 KI (errsM (newM c) ps y3.toNat)^rl oR rs^opsE s ps):=Own.fin (A:=outR ro on^mach b (doF (runM (newM c) ps y3.toNat) (pAt ps y3.toNat).1 (pAt ps y3.toNat).2).2^arr y1 KOu (rs.map Prod.fst)^arr y2 KI (errsM (newM c) ps y3.toNat)^rl oR rs^opsE s ps) h
   refine w_new h fun n12 w h=>w_setTo h n12 (Ks.mk KOu ro) rfl rfl rfl fun w h=>w_ldAll (b:=n12) (x:=ro) h rfl ?_
   refine w_new h fun n14 w h=>?_
   have h:=h.blkArr n14 KOu [ro] rfl (by simp)
   have h:Own w0 S R w (arr ⟨some ⟨n14,0⟩,1,1⟩ KOu [ro]^_):=h
   have h:Own w0 S R w (arr y1 KOu (rs.map Prod.fst)^arr ⟨some ⟨n14,0⟩,1,1⟩ KOu [ro]^outR ro on^mach b (runM (newM c) ps (y3.toNat+1))^arr y2 KI (errsM (newM c) ps y3.toNat)^rl oR rs^opsE s ps):=h.fin
   refine w_app (s:=y1) (x:=⟨some ⟨n14,0⟩,1,1⟩) h rfl (by rw [List.length_map,hrs];show _+1≤_;omega) fun s15 w _ h=>?_
   refine w_new h fun n16 w h=>?_
   have h:=h.blkArr n16 KI [re] rfl (by simp)
   have h:Own w0 S R w (arr ⟨some ⟨n16,0⟩,1,1⟩ KI [re]^_):=h
   have h:Own w0 S R w (arr y2 KI (errsM (newM c) ps y3.toNat)^arr ⟨some ⟨n16,0⟩,1,1⟩ KI [re]^arr s15 KOu (rs.map Prod.fst++[ro])^outR ro on^mach b (runM (newM c) ps (y3.toNat+1))^rl oR rs^opsE s ps):=h.fin
   refine w_app (s:=y2) (x:=⟨some ⟨n16,0⟩,1,1⟩) h rfl (by rw [errs_len];show _+1≤_;omega) fun s17 w _ h=>?_
   have hwi:IntKind.i64.wrap (y3+1)=y3+1:=wi (by omega) (by omega)
   have he:errsM (newM c) ps y3.toNat++[re]=errsM (newM c) ps (y3.toNat+1):=by rw [hre];rfl
   have h1:(y3+1).toNat=y3.toNat+1:=by omega
   rw [hwi]
   have ea:rs.map Prod.fst++[ro]=(rs++[((ro,on):OR)]).map Prod.fst:=by rw [List.map_append];rfl
   have eb:(rs++[((ro,on):OR)]).map Prod.snd=outsM (newM c) ps (y3.toNat+1):=by rw [List.map_append,hrl,hon];rfl
   rw [he,ea] at h
   have h:Own w0 S R w ((mach b (runM (newM c) ps (y3.toNat+1))^arr s15 KOu ((rs++[((ro,on):OR)]).map Prod.fst)^arr s17 KI (errsM (newM c) ps (y3.toNat+1))^opsE s ps)^(rl oR rs^outR ro on)):=h.fin
   have h:=h.le (star_mono Le.rfl (rl_snoc oR (ro,on) rs))
   refine next (s15,s17,y3+1) (rs++[(ro,on)]) w ⟨⟨by show 0≤y3+1;omega,by show y3+1≤_;omega⟩,by show _=outsM (newM c) ps (y3+1).toNat;rw [h1];exact eb⟩ ?_ (by show ((ps.length:Int) - (y3+1)).toNat < ((ps.length:Int) - y3).toNat;omega)
   show Own w0 S R w (mach b (runM (newM c) ps (y3+1).toNat)^arr s15 KOu ((rs++[((ro,on):OR)]).map Prod.fst)^arr s17 KI (errsM (newM c) ps (y3+1).toNat)^rl oR (rs++[((ro,on):OR)])^opsE s ps)
   rw [h1]
   exact h.fin
  ·have c0:¬ y3 < ((s.len:Nat):Int):=of_decide_eq_false c0
   have e:y3.toNat=ps.length:=by omega
   rw [e] at h hrl
   have h:Own w0 S R w (arr y1 KOu (rs.map Prod.fst)^arr y2 KI (errsM (newM c) ps ps.length)^rl oR rs):=h.fin
   exact Own.retE rs (Own.retP hrl h)
end ScR

namespace ScS
open Arith ArithC TreeF FqM FqC SockC EgM EgA EgB EgC EgD EgE EgF EgG EgH EgI EgJ EgK EgQ ScR
theorem eno_same_tri (a b:Sl) (one:Fv) (C:SP) (xs ys:List (Ks.T KI)) (Q:Ks.T KI→Ks.T KI→Prop) (hl:xs.length≤4294967296) (hf:∀ x∈xs,∀ y∈ys,TriV Tryz.prog one [.lf (.int .i64 x),.lf (.int .i64 y)] [.lf .bool] C (fun r=>pur ((r=true)↔Q x y) C)) :
  Tri Tryz.prog N_canterhelp_Same_apiErrno [.lf (.sl a),.lf (.sl b),.lf (.fn one)] [.lf .bool] (C^rarr a KI xs^rarr b KI ys) (fun r=>pur ((r=true)↔AllP Q xs ys) C) :=
 tri_0 (call_canterhelp_Same_apiErrno _ _ _) fun w S R h=>by
  unfold W_canterhelp_Same_apiErrno
  have ha:=(h.drop.rd (s:=a)).2
  have hb:=((h.take (rarr b KI ys)).rd (s:=b)).2
  refine w_ite (fun c=>?_) fun c=>?_
  ·rw [ha,hb] at c
   exact Own.retP ⟨fun h=>(by cases h),fun h=>by have:=AllP_len h;simp at c;omega⟩ h.fin
  ·rw [ha,hb] at c
   have c:xs.length=ys.length:=by simp at c;omega
   refine w_loop (fun _=>rarr a KI xs^rarr b KI ys^C) (fun (i:Int)=>0≤i∧i.toNat≤xs.length∧(AllP Q xs ys↔AllP Q (xs.drop i.toNat) (ys.drop i.toNat))) (fun (i:Int)=>xs.length - i.toNat) h.fin ⟨Int.le_refl 0,Nat.zero_le _,Iff.rfl⟩ ?_
   rintro (i:Int) w ⟨h0,h1,h2⟩ h
   refine w_ite (fun c2=>?_) fun c2=>?_
   ·have hi:i.toNat < xs.length:=by simp at c2;omega
    have hi2:i.toNat < ys.length:=by omega
    refine w_drw h fun w h=>?_
    refine w_idx h h0 hi ?_
    have hb':=h.le (star_swap _ _ _)
    refine w_idx hb' h0 hi2 ?_
    refine w_ldE h a i.toNat (at_some hi) rfl ?_
    refine w_ldE hb' b i.toNat (at_some hi2) rfl ?_
    refine w_callv (hf _ (List.getElem_mem hi) _ (List.getElem_mem hi2)) h fun r w h=>?_
    obtain ⟨hr,h⟩:=h.purP
    rw [List.drop_eq_getElem_cons hi,List.drop_eq_getElem_cons hi2,AllP,← hr] at h2
    refine w_ite (fun c3=>?_) fun c3=>?_
    ·have c3:r=false:=by simpa using c3
     rw [c3] at h2
     exact Own.retP ⟨fun h=>(by cases h),fun h=>by have:=(h2.1 h).1;cases this⟩ h.fin
    ·have c3:r=true:=by simpa using c3
     rw [c3] at h2
     have h2:AllP Q xs ys↔AllP Q (xs.drop (i.toNat+1)) (ys.drop (i.toNat+1)):=h2.trans ⟨fun h=>h.2,fun h=>⟨rfl,h⟩⟩
     have e:(i+1).toNat=i.toNat+1:=by omega
     rw [wi (by omega) (by omega)]
     exact ⟨⟨⟨by show (0:Int)≤i+1;omega,by show (i+1).toNat≤_;omega,by show _↔AllP Q (xs.drop (i+1).toNat) (ys.drop (i+1).toNat);rw [e];exact h2⟩,h.fin⟩,by show _ - (i+1).toNat < _;omega⟩
   ·have hi:i.toNat=xs.length:=by simp at c2;omega
    rw [hi,List.drop_length,c,List.drop_length,AllP] at h2
    exact Own.retP ⟨fun _=>h2.2 trivial,fun _=>rfl⟩ h.fin
theorem eno_one_tri (x y:Ks.T KI):Tri Tryz.prog N_canterhelp_Plain_apiErrno_c1 [.lf (.int .i64 x),.lf (.int .i64 y)] [.lf .bool] emp (fun r=>pur ((r=true)↔x=y) emp) :=
 tri_0 (call_canterhelp_Plain_apiErrno_c1 _ _) fun w S R h=>by
  unfold W_canterhelp_Plain_apiErrno_c1
  repeat' (first
   | (refine w_drw h fun w h=>?_)
   | (refine w_deref ?_)
   | (refine w_ldAll h rfl ?_)
   | (refine w_ld h rfl ?_)
   | (refine w_chkAll h ?_)
   | (refine w_chk h rfl ?_)
   | (refine w_setAll h (by rfl) fun w h=>?_)
   | (refine w_new h fun n w h=>?_)
   | (refine w_leave h fun w h=>?_)
   | (refine w_set h rfl fun w h=>?_;dsimp only [upd,over] at h))
  all_goals exact Own.retP (by simp [Prod.ext_iff]) h.emp'
theorem eno_plain_tri (a b:Sl) (xs ys:List (Ks.T KI)) (hl:xs.length≤4294967296) :
  Tri Tryz.prog N_canterhelp_Plain_apiErrno [.lf (.sl a),.lf (.sl b)] [.lf .bool] (emp^rarr a KI xs^rarr b KI ys) (fun r=>pur ((r=true)↔xs=ys) emp) :=
 tri_0 (call_canterhelp_Plain_apiErrno _ _) fun w S R h=>by
  unfold W_canterhelp_Plain_apiErrno
  refine w_call (eno_same_tri a b _ emp xs ys Eq hl (fun x _ y _=>(Tri.g (f:=N_canterhelp_Plain_apiErrno_c1) (args:=[.lf (.int .i64 x),.lf (.int .i64 y)]) (caps:=[]) (eno_one_tri x y)).v)) h fun r w h=>?_
  obtain ⟨hr,h⟩:=h.purP
  exact Own.retP (hr.trans (AllP_eq xs ys)) h.keep
section
variable {P : Program} {w0 w : World} {S0 R0 : Nat → Prop} {F Q : SP}
theorem w_lend {f:FuncId} {args:List V1} {rs:List Sh} {Post:Rs.T rs→SP} {K:Rs.T rs→WP} (t:Tri P f args rs (emp^Q) Post) (h:Own w0 S0 R0 w F) (hl:Lend Q F) [hN:∀ x,NoR (Post x)] (k:∀ x w',Own w0 S0 R0 w' (Post x^F)→K x w'):call P f args rs K w :=
 w_callL (A:=emp) (Q:=Q) (F:=emp^F) (G:=F) t (h.le ((star_emp _).trans (star_comm _ _))) k
theorem w_emp {f:FuncId} {args:List V1} {rs:List Sh} {Post:Rs.T rs→SP} {K:Rs.T rs→WP} (t:Tri P f args rs emp Post) (h:Own w0 S0 R0 w F) (k:∀ x w',Own w0 S0 R0 w' (Post x^F)→K x w'):call P f args rs K w :=
 w_call (F:=emp^F) (G:=F) t (h.le ((star_emp _).trans (star_comm _ _))) k
theorem lend_rlE {α:Type} {f:α→SP}:∀ {l:List α},(∀ p∈l,Lend (f p) F)→Lend (rl f l) F
 | [],_=>lend_emp F
 | x :: l,h=>by
  haveI:=h x (List.mem_cons_self ..)
  haveI:=lend_rlE (l:=l) fun p hp=>h p (List.mem_cons_of_mem _ hp)
  exact lend_star (f x) (rl f l) F
end
structure Sml (o:Ou):Prop where
 a:o.dep.length≤1
 b:o.dr.length≤1000
 c:o.ft.length≤1000
theorem sml_0:Sml ou0:=⟨Nat.zero_le _,Nat.zero_le _,Nat.zero_le _⟩
theorem pumpN_sml (i now:Int):∀ (n:Nat) (s:Pm),(pumpN i now n s).o.dep=s.o.dep∧(pumpN i now n s).o.dr.length≤s.o.dr.length+1∧(pumpN i now n s).o.ft.length≤s.o.ft.length+1
 | 0,s=>⟨rfl,Nat.le_succ _,Nat.le_succ _⟩
 | n+1,s=>by
  unfold pumpN
  split
  ·exact ⟨rfl,Nat.le_succ _,Nat.le_succ _⟩
  ·have e:((enter i now s).2=0∧(enter i now s).1.o=s.o)∨((enter i now s).2≠0∧(enter i now s).1.o.dep=s.o.dep∧(enter i now s).1.o.dr.length≤s.o.dr.length+1∧(enter i now s).1.o.ft.length≤s.o.ft.length+1):=by
    unfold enter
    dsimp only
    split
    ·exact .inl ⟨rfl,rfl⟩
    ·refine .inr ⟨(show (1:Int)≠0 by decide),rfl,?_,?_⟩
     ·show (s.o.dr++[_]).length≤_
      rw [List.length_append];exact Nat.le_refl _
     ·show (s.o.ft++[_]).length≤_
      rw [List.length_append];exact Nat.le_refl _
   rcases e with ⟨e1,e2⟩ | ⟨e1,e2,e3,e4⟩
   ·rw [if_pos e1]
    have:=pumpN_sml i now n (enter i now s).1
    rw [e2] at this
    exact this
   ·rw [if_neg e1]
    exact ⟨e2,e3,e4⟩
theorem drops_dep (l:Nat→Ct) (o:Ou):∀ a:List Sg,(dropsF l o a).1.dep=o.dep:=by
 intro a
 induction a generalizing l o with
 | nil=>rfl
 | cons x a ih=>exact ih _ _
theorem do_sml {k:Int} {v:Mc} (hv:OkMc k v) (d:Dd) (xs:List (Int × Int)):Sml (doF v d xs).1.1:=by
 unfold doF
 split
 ·exact sml_0
 show Sml (stepM v d xs).2.1
 unfold stepM
 split
 ·exact sml_0
 split
 ·show Sml (pullF v ou0).1
  unfold pullF
  split
  ·exact ⟨Nat.le_refl _,Nat.zero_le _,Nat.zero_le _⟩
  ·dsimp only
   split
   ·exact ⟨Nat.zero_le _,Nat.zero_le _,Nat.zero_le _⟩
   ·exact sml_0
 split
 ·exact sml_0
 split
 ·show Sml (oneM v d xs ou0).2.1
  unfold oneM
  split
  ·exact sml_0
  split
  ·split<;>exact sml_0
  ·split
   ·exact sml_0
   split
   ·have h1:=drops_len v.l ou0 (closeF v.q ((dS d).toNat:Int)).1
    have h2:=close_len hv.q ((dS d).toNat:Int)
    have h3:=drops_dep v.l ou0 (closeF v.q ((dS d).toNat:Int)).1
    refine ⟨?_,?_,?_⟩
    ·show (dropsF v.l ou0 (closeF v.q ((dS d).toNat:Int)).1).1.dep.length≤1
     rw [h3];exact Nat.zero_le _
    ·show (dropsF v.l ou0 (closeF v.q ((dS d).toNat:Int)).1).1.dr.length≤1000
     have:ou0.dr.length=0:=rfl
     omega
    ·show (dropsF v.l ou0 (closeF v.q ((dS d).toNat:Int)).1).1.ft.length≤1000
     have:ou0.ft.length=0:=rfl
     omega
   split
   ·rename_i x _ _ _ _
    obtain ⟨h1,h2,h3⟩:=pumpN_sml ((dS d).toNat:Int) v.now (fresh (toldF x v.now d xs).2+1) ⟨(toldF x v.now d xs).2,v.q,v.l,ou0⟩
    have e1:ou0.dr.length=0:=rfl
    have e2:ou0.ft.length=0:=rfl
    refine ⟨?_,?_,?_⟩
    ·show (pumpN _ _ _ _).o.dep.length≤1
     rw [h1];exact Nat.zero_le _
    ·show (pumpN _ _ _ _).o.dr.length≤1000
     exact Nat.le_trans h2 (show 0+1≤1000 by decide)
    ·show (pumpN _ _ _ _).o.ft.length≤1000
     exact Nat.le_trans h3 (show 0+1≤1000 by decide)
   ·exact sml_0
 ·exact sml_0
theorem outs_sml {c:Cf} (hc:OkC c) {ps:List OpE} (hd:∀ p∈ps,OkD p.1):∀ j:Nat,j≤1000→j≤ps.length→∀ o∈outsM (newM c) ps j,Sml o
 | 0,_,_=>fun _ h=>by cases h
 | j+1,h1,h2=>fun o ho=>by
  rcases List.mem_append.1 ho with ho | ho
  ·exact outs_sml hc hd j (by omega) (by omega) o ho
  ·rw [List.mem_singleton.1 ho]
   exact do_sml (runM_ok hc hd j (by omega) (by omega)) _ _
theorem pAt_take {ps:List OpE} {k j:Nat} (h:j < k):pAt (ps.take k) j=pAt ps j:=by
 unfold pAt
 rw [List.getD_eq_getElem?_getD,List.getD_eq_getElem?_getD,List.getElem?_take,if_pos h]
theorem runM_take (v:Mc) {ps:List OpE} {k:Nat}:∀ j,j≤k→runM v (ps.take k) j=runM v ps j
 | 0,_=>rfl
 | j+1,h=>by
  show (doF (runM v (ps.take k) j) (pAt (ps.take k) j).1 (pAt (ps.take k) j).2).2=_
  rw [runM_take v j (by omega),pAt_take (by omega)];rfl
theorem outsM_take (v:Mc) {ps:List OpE} {k:Nat}:∀ j,j≤k→outsM v (ps.take k) j=outsM v ps j
 | 0,_=>rfl
 | j+1,h=>by
  show outsM v (ps.take k) j++[(doF (runM v (ps.take k) j) (pAt (ps.take k) j).1 (pAt (ps.take k) j).2).1.1]=_
  rw [outsM_take v j (by omega),runM_take v j (by omega),pAt_take (by omega)];rfl
theorem errsM_take (v:Mc) {ps:List OpE} {k:Nat}:∀ j,j≤k→errsM v (ps.take k) j=errsM v ps j
 | 0,_=>rfl
 | j+1,h=>by
  show errsM v (ps.take k) j++[(doF (runM v (ps.take k) j) (pAt (ps.take k) j).1 (pAt (ps.take k) j).2).1.2]=_
  rw [errsM_take v j (by omega),runM_take v j (by omega),pAt_take (by omega)];rfl
theorem outsM_pre (v : Mc) (ps : List OpE) (k : Nat) : ∀ n, k ≤ n → (outsM v ps n).take k = outsM v ps k := by
  intro n hn
  induction n with
  | zero => have : k = 0 := by omega
            rw [this]; rfl
  | succ n ih =>
    by_cases e : k = n + 1
    · rw [e, List.take_of_length_le (by rw [outs_len]; exact Nat.le_refl _)]
    · show (outsM v ps n ++ [_]).take k = _
      rw [List.take_append_of_le_length (by rw [outs_len]; omega), ih (by omega)]
theorem errsM_pre (v : Mc) (ps : List OpE) (k : Nat) : ∀ n, k ≤ n → (errsM v ps n).take k = errsM v ps k := by
  intro n hn
  induction n with
  | zero => have : k = 0 := by omega
            rw [this]; rfl
  | succ n ih =>
    by_cases e : k = n + 1
    · rw [e, List.take_of_length_le (by rw [errs_len]; exact Nat.le_refl _)]
    · show (errsM v ps n ++ [_]).take k = _
      rw [List.take_append_of_le_length (by rw [errs_len]; omega), ih (by omega)]
def oQ (x:OR):SP:=rarr x.1.1 KS x.2.dep^rarr x.1.2.1 KS x.2.dr^rarr x.1.2.2.1 KI x.2.ft
theorem rl_wd:∀ (rs:List OR) (w:World) (S R:Nat→Prop),(rl oR rs).h w S R→∀ x∈rs,x.1.2.2.2=x.2.wd
 | [],_,_,_,_=>fun _ h=>by cases h
 | y :: l,w,S,R,⟨_,_,_,_,h1,h2,_⟩=>fun x hx=>by
  rcases List.mem_cons.1 hx with e | e
  ·rw [e];exact h1.1
  ·exact rl_wd l _ _ _ h2 x e
theorem own_wd {w0 w:World} {S0 R0:Nat→Prop} {F G:SP} {rs:List OR} (h:Own w0 S0 R0 w F) [t:Take (rl oR rs) F G]:∀ x∈rs,x.1.2.2.2=x.2.wd:=by
 obtain ⟨S,R,hh,_⟩:=(h.le t.le).keep.own
 exact rl_wd rs _ _ _ hh
theorem rd_or {rs:List OR} {x:OR} (hx:x∈rs):Rd x.1.1 (rl oR rs) KS x.2.dep∧Rd x.1.2.1 (rl oR rs) KS x.2.dr∧Rd x.1.2.2.1 (rl oR rs) KI x.2.ft:=by
 obtain ⟨i,hi⟩:=List.mem_iff_getElem?.1 hx
 have r:∀ {s:Sl} {K:Ks} {ys:List (Ks.T K)},Rd s (arr x.1.1 KS x.2.dep^arr x.1.2.1 KS x.2.dr^arr x.1.2.2.1 KI x.2.ft) K ys→Rd s (rl oR rs) K ys:=fun {s K ys} r=>rd_rl hi ⟨fun w S R h=>r.rd w S R h.2,fun w S R h=>r.fp w S R h.2⟩
 exact ⟨r inferInstance,r inferInstance,r inferInstance⟩
theorem rd_oq {rs:List OR} {x:OR} (hx:x∈rs):Rd x.1.1 (rl oQ rs) KS x.2.dep∧Rd x.1.2.1 (rl oQ rs) KS x.2.dr∧Rd x.1.2.2.1 (rl oQ rs) KI x.2.ft:=by
 obtain ⟨i,hi⟩:=List.mem_iff_getElem?.1 hx
 exact ⟨rd_rl hi (by unfold oQ;infer_instance),rd_rl hi (by unfold oQ;infer_instance),rd_rl hi (by unfold oQ;infer_instance)⟩
theorem same_tri (a b:Sl) (xs ys:List OR) (hl:xs.length≤4294967296) (hw1:∀ x∈xs,x.1.2.2.2=x.2.wd∧Sml x.2) (hw2:∀ x∈ys,x.1.2.2.2=x.2.wd) (he:xs.map Prod.snd=ys.map Prod.snd) :
  Tri Tryz.prog N_canterhelp_Same_apiOut [.lf (.sl a),.lf (.sl b),.lf (.fn (.mk (.func N_canterhelp_Out) [] []))] [.lf .bool] (emp^(rarr a KOu (xs.map Prod.fst)^rl oQ xs)^(rarr b KOu (ys.map Prod.fst)^rl oQ ys)) (fun r=>pur (r=true) emp) :=
 tri_0 (call_canterhelp_Same_apiOut a b _) fun w0 S R h=>by
  unfold W_canterhelp_Same_apiOut
  have h:Own w0 S R w0 (rarr a KOu (xs.map Prod.fst)^rarr b KOu (ys.map Prod.fst)^rl oQ xs^rl oQ ys):=h.drop.fin
  have ha:=((h.take (rarr a KOu (xs.map Prod.fst))).rd (s:=a)).2
  have hb:=((h.take (rarr b KOu (ys.map Prod.fst))).rd (s:=b)).2
  rw [List.length_map] at ha hb
  have hlen:xs.length=ys.length:=by have:=congrArg List.length he;simpa using this
  refine w_ite (fun c=>absurd c (by rw [ha,hb,hlen];simp)) fun _=>?_
  refine w_loop (fun _:Int=>rarr a KOu (xs.map Prod.fst)^rarr b KOu (ys.map Prod.fst)^rl oQ xs^rl oQ ys) (fun i:Int=>0≤i∧i≤xs.length) (fun i:Int=>xs.length - i.toNat) h ⟨Int.le_refl 0,by omega⟩ ?_
  rintro (i:Int) w ⟨i0,i1⟩ h
  refine w_ite (fun c=>?_) fun c=>?_
  ·have c:i < ((a.len:Nat):Int):=of_decide_eq_true c
   have hi:i.toNat < xs.length:=by omega
   have hi2:i.toNat < ys.length:=by omega
   obtain ⟨p,hp⟩:∃ p,xs[i.toNat]?=some p:=⟨_,at_some hi⟩
   obtain ⟨q,hq⟩:∃ q,ys[i.toNat]?=some q:=⟨_,at_some hi2⟩
   have hpm:=List.mem_of_getElem? hp
   have hqm:=List.mem_of_getElem? hq
   have hpq:p.2=q.2:=by
    have:=congrArg (fun l=>l[i.toNat]?) he
    simp only [List.getElem?_map,hp,hq,Option.map_some,Option.some.injEq] at this
    exact this
   have hpf:(xs.map Prod.fst)[i.toNat]?=some p.1:=by rw [List.getElem?_map,hp];rfl
   have hqf:(ys.map Prod.fst)[i.toNat]?=some q.1:=by rw [List.getElem?_map,hq];rfl
   obtain ⟨r1,r2,r3⟩:=rd_oq hpm
   obtain ⟨r4,r5,r6⟩:=rd_oq hqm
   obtain ⟨hwp,hsm⟩:=hw1 p hpm
   have t:=(Tri.g (f:=N_canterhelp_Out) (args:=[.agg (Ks.mk KOu p.1),.agg (Ks.mk KOu q.1)]) (caps:=[]) (outs_tri p.1 q.1 p.2 q.2 ⟨by have:=hsm.a;omega,by have:=hsm.b;omega,by have:=hsm.c;omega⟩ hwp (hw2 q hqm))).v
   refine w_drw h fun w h=>?_
   refine w_idx (s:=a) (h.take (rarr a KOu (xs.map Prod.fst))) i0 (by rw [List.length_map];exact hi) (w_idx (s:=b) (h.take (rarr b KOu (ys.map Prod.fst))) i0 (by rw [List.length_map];exact hi2) ?_)
   refine w_ldE (h.take (rarr a KOu (xs.map Prod.fst))) a i.toNat hpf rfl (w_ldE (h.take (rarr b KOu (ys.map Prod.fst))) b i.toNat hqf rfl ?_)
   refine w_callvL (A:=emp) (Q:=(rarr p.1.1 KS p.2.dep^rarr p.1.2.1 KS p.2.dr^rarr p.1.2.2.1 KI p.2.ft)^rarr q.1.1 KS q.2.dep^rarr q.1.2.1 KS q.2.dr^rarr q.1.2.2.1 KI q.2.ft) t (h.le ((star_emp _).trans (star_comm _ _))) fun r w h=>?_
   obtain ⟨hr,h⟩:=h.purP
   rw [hr.2 hpq]
   have h:=h.drop
   refine w_ite (fun c=>by cases c) fun _=>?_
   have e:(i+1).toNat=i.toNat+1:=by omega
   rw [wi (by omega) (by omega)]
   exact ⟨⟨⟨by show (0:Int)≤i+1;omega,by show i+1≤_;omega⟩,h⟩,by show xs.length - (i+1).toNat < _;omega⟩
  ·exact Own.retP rfl h.emp'
end ScS

namespace ScT
open Arith ArithC TreeF FqM FqC SockC EgM EgA EgB EgC EgD EgE EgF EgG EgH EgI EgJ EgK EgQ ScR ScS
theorem lend_ops {F:SP} (r:Sl) (ds:List OpE) [t:Rd r F KD (ds.map Prod.fst)] (h:∀ p∈ds,Rd (dR p.1) F KR p.2):Lend (opsE r ds) F :=
 lend_star _ _ _ (b:=lend_rlE fun p hp=>by haveI:=h p hp;infer_instance)
theorem rd_deeds {F:SP} {ps:List OpE} {m:Int} (hp:∀ p∈ps,OkE p) (hr:∀ p∈ps,Rd (dR p.1) F KR p.2) (hlen:∀ p∈ps,(dR p.1).len=p.2.length):∀ q∈deedsF m ps,Rd (dR q.1) F KR q.2:=by
 intro q hq
 obtain ⟨p,hpm,rfl⟩:=List.mem_map.1 hq
 have hpm:=List.mem_of_mem_take hpm
 haveI:=hr p hpm
 exact rd_deed p F (hp p hpm).cp (hlen p hpm)
theorem ops_len {w0 w:World} {S0 R0:Nat→Prop} {s:Sl} {ps:List OpE} (h:Own w0 S0 R0 w (opsE s ps)):∀ p∈ps,(dR p.1).len=p.2.length:=fun p hp=>by
 obtain ⟨i,hi⟩:=List.mem_iff_getElem?.1 hp
 haveI:=rd_dR hi
 exact (h.rd (s:=dR p.1)).2
theorem rd_ops {ps:List OpE}:∀ p∈ps,Rd (dR p.1) (rl (fun p:OpE=>rarr (dR p.1) KR p.2) ps) KR p.2:=fun p hp=>by
 obtain ⟨i,hi⟩:=List.mem_iff_getElem?.1 hp
 exact rd_dR hi
theorem deeds_D {ps:List OpE} {m:Int} (hp:∀ p∈ps,OkE p):∀ q∈deedsF m ps,OkD q.1∧q.2.length≤4294967296:=fun q hq=>by
 obtain ⟨p,hpm,rfl⟩:=List.mem_map.1 hq
 exact ⟨deedF_ok (hp p (List.mem_of_mem_take hpm)),by show (p.2.take 6).length≤_;rw [List.length_take];omega⟩
theorem deeds_len (ps:List OpE) (m:Int):(deedsF m ps).length=min m.toNat ps.length:=by unfold deedsF;rw [List.length_map,List.length_take]
theorem parts_tri (d:Cf) (s:Sl) (a:Int) (ps:List OpE) (hd:0≤cH d∧U (cR d)) (hp:∀ p∈ps,OkE p):Tri Tryz.prog N_canterlaw28_ScriptParts [.agg (Ks.mk KC d),.lf (.sl s),.lf (.int .i64 a)] [.lf .bool] (opsE s ps) (fun r=>pur (r=true) emp) :=
 tri_0 (call_canterlaw28_ScriptParts d s a) fun w0 S R h=>by
  unfold W_canterlaw28_ScriptParts
  have hlen:=ops_len h
  obtain ⟨ds,hds⟩:∃ ds,ds=deedsF 60 ps:=⟨_,rfl⟩
  have hD:=deeds_D (m:=60) hp
  have hdl:=deeds_len ps 60
  rw [← hds] at hD hdl
  have hdl:ds.length≤60:=by rw [hdl];exact Nat.min_le_left _ _
  obtain ⟨cf,hcf⟩:∃ c,c=FqI.configF d:=⟨_,rfl⟩
  have hcm:may cf=true:=by rw [hcf];exact FqI.config_may d
  have hco:OkC cf:=by rw [hcf];exact FqI.config_ok hd.1 hd.2
  have hua:0≤IntKind.u64.wrap a∧IntKind.u64.wrap a < 18446744073709551616:=U_wrap a
  refine w_new h fun n1 w h=>w_ldAll (b:=n1) (x:=d) h rfl ?_
  refine w_call (FqI.config_tri d) (h.le ((star_emp _).trans (star_comm _ _))) fun r w h=>?_
  obtain ⟨hr,h⟩:=h.purP;rw [hr,← hcf]
  refine w_setAll h (by rfl) fun w h=>?_
  refine w_lend (deeds_tri s ps 60 (by decide) hp) h inferInstance fun r4 w h=>?_
  rw [← hds] at h
  have h:Own w0 S R w (arr r4 KD (ds.map Prod.fst)^blk n1 (Ks.mk KC cf)^opsE s ps):=h.fin
  have hr4:=(h.rd (s:=r4)).2
  rw [List.length_map] at hr4
  have e1:IntKind.i64.wrap (((r4.len:Nat):Int)+1)=((ds.length+1:Nat):Int):=by rw [hr4,wi (by omega) (by omega)];omega
  have e2:IntKind.u64.wrap ((ds.length+1:Nat):Int)=((ds.length+1:Nat):Int):=wu (by omega) (by omega)
  rw [e1,e2]
  obtain ⟨k,hk⟩:∃ k:Nat,k=((IntKind.u64.wrap a) % ((ds.length+1:Nat):Int)).toNat:=⟨_,rfl⟩
  have hk0:0≤(IntKind.u64.wrap a) % ((ds.length+1:Nat):Int):=Int.emod_nonneg _ (by omega)
  have hk1:(IntKind.u64.wrap a) % ((ds.length+1:Nat):Int) < ((ds.length+1:Nat):Int):=Int.emod_lt_of_pos _ (by omega)
  have hkl:k≤ds.length:=by omega
  have e3:IntKind.i64.wrap ((IntKind.u64.wrap a).tmod ((ds.length+1:Nat):Int))=(k:Int):=by
   rw [Int.tmod_eq_emod_of_nonneg hua.1,wi (by omega) (by omega)];omega
  rw [e3]
  refine ScW.w_req (by omega) ?_
  refine w_ldAll (b:=n1) (x:=cf) h rfl ?_
  have hrd:∀ {F:SP},(∀ p∈ps,Rd (dR p.1) F KR p.2)→∀ q∈ds,Rd (dR q.1) F KR q.2:=fun hr=>by rw [hds];exact rd_deeds hp hr hlen
  refine w_lend (runA_tri cf hcm hco r4 ds (by omega) (fun p hp=>(hD p hp).1) (fun p hp=>(hD p hp).2)) h (lend_ops r4 ds (hrd (fun p hp=>by haveI:=rd_ops p hp;infer_instance))) fun r6 w h=>?_
  obtain ⟨rs,h⟩:=h.exP
  obtain ⟨hrs,h⟩:=h.purP
  have h:Own w0 S R w ((arr r6.1 KOu (rs.map Prod.fst)^arr r6.2 KI (errsM (newM cf) ds ds.length)^rl oR rs)^arr r4 KD (ds.map Prod.fst)^blk n1 (Ks.mk KC cf)^opsE s ps):=h
  have h:Own w0 S R w (arr r4 KD (ds.map Prod.fst)^blk n1 (Ks.mk KC cf)^arr r6.1 KOu (rs.map Prod.fst)^arr r6.2 KI (errsM (newM cf) ds ds.length)^rl oR rs^opsE s ps):=h.fin
  refine w_drw h fun w h=>w_ldAll (b:=n1) (x:=cf) h rfl ?_
  have hc4:=own_cap (s:=r4) h
  refine w_slcR (s:=r4) h (h.nrm r4) 0 k r4.cap rfl rfl rfl rfl (Nat.zero_le _) (by rw [List.length_map];omega) (by omega) (Nat.le_refl _) fun _ hr8=>?_
  rw [List.drop_zero,← List.map_take] at hr8
  obtain ⟨s8,hs8⟩:∃ s8,s8=r4.sub 0 k r4.cap 15:=⟨_,rfl⟩
  rw [← hs8] at hr8 ⊢
  haveI:=hr8
  refine w_chkAll (b:=n1) h ?_
  have htk:∀ q∈ds.take k,q∈ds:=fun q hq=>List.mem_of_mem_take hq
  have hlk:(ds.take k).length=k:=by rw [List.length_take];omega
  refine w_lend (runA_tri cf hcm hco s8 (ds.take k) (by omega) (fun p hp=>(hD p (htk p hp)).1) (fun p hp=>(hD p (htk p hp)).2)) h (lend_ops s8 (ds.take k) (fun q hq=>hrd (fun p hp=>by haveI:=rd_ops p hp;infer_instance) q (htk q hq))) fun r9 w h=>?_
  obtain ⟨qs,h⟩:=h.exP
  obtain ⟨hqs,h⟩:=h.purP
  rw [hlk,outsM_take _ _ (Nat.le_refl _)] at hqs
  rw [hlk,errsM_take _ _ (Nat.le_refl _)] at h
  have h:Own w0 S R w ((arr r9.1 KOu (qs.map Prod.fst)^arr r9.2 KI (errsM (newM cf) ds k)^rl oR qs)^arr r4 KD (ds.map Prod.fst)^blk n1 (Ks.mk KC cf)^arr r6.1 KOu (rs.map Prod.fst)^arr r6.2 KI (errsM (newM cf) ds ds.length)^rl oR rs^opsE s ps):=h
  have h:Own w0 S R w (arr r9.1 KOu (qs.map Prod.fst)^arr r9.2 KI (errsM (newM cf) ds k)^rl oR qs^arr r6.1 KOu (rs.map Prod.fst)^arr r6.2 KI (errsM (newM cf) ds ds.length)^rl oR rs):=h.fin
  refine w_emp ScH.awake_tri h fun r10 w h=>?_
  obtain ⟨hr10,h⟩:=h.purP
  have h:=h.drop
  have l61:=((h.take (arr r6.1 KOu (rs.map Prod.fst))).rd (s:=r6.1)).2
  have l62:=((h.take (arr r6.2 KI (errsM (newM cf) ds ds.length))).rd (s:=r6.2)).2
  have hrl:rs.length=ds.length:=by have:=congrArg List.length hrs;rw [List.length_map,outs_len] at this;exact this
  have hql:qs.length=k:=by have:=congrArg List.length hqs;rw [List.length_map,outs_len] at this;exact this
  rw [List.length_map,hrl] at l61
  rw [errs_len] at l62
  refine w_ite (fun _=>?_) fun c=>absurd c (by rw [hr10,l61,l62,hr4];simp)
  have hA:=h.take (arr r6.1 KOu (rs.map Prod.fst))
  have hc6:=own_cap (s:=r6.1) hA
  refine w_slcR (s:=r6.1) hA (hA.nrm r6.1) 0 k r6.1.cap rfl rfl rfl rfl (Nat.zero_le _) (by rw [List.length_map];omega) (by omega) (Nat.le_refl _) fun _ hr11=>?_
  rw [List.drop_zero,← List.map_take] at hr11
  haveI:=hr11
  have hwr:=own_wd (rs:=rs) h
  have hwq:=own_wd (rs:=qs) h
  have hsm:∀ x∈rs,Sml x.2:=fun x hx=>outs_sml hco (fun p hp=>(hD p hp).1) ds.length (by omega) (Nat.le_refl _) x.2 (by rw [← hrs];exact List.mem_map_of_mem hx)
  have hsame:(rs.take k).map Prod.snd=qs.map Prod.snd:=by rw [List.map_take,hrs,hqs,outsM_pre _ _ _ _ hkl]
  have lo:∀ {F:SP} {xs:List OR},(∀ x∈xs,Rd x.1.1 F KS x.2.dep∧Rd x.1.2.1 F KS x.2.dr∧Rd x.1.2.2.1 F KI x.2.ft)→Lend (rl oQ xs) F:=fun hx=>lend_rlE fun x hm=>by
   obtain ⟨r1,r2,r3⟩:=hx x hm
   unfold oQ
   infer_instance
  refine w_lend (same_tri (r6.1.sub 0 k r6.1.cap 4) r9.1 (rs.take k) qs (by rw [List.length_take];omega) (fun x hx=>⟨hwr x (List.mem_of_mem_take hx),hsm x (List.mem_of_mem_take hx)⟩) hwq hsame) hA (lend_star _ _ _ (a:=lend_star _ _ _ (b:=lo fun x hx=>by
    obtain ⟨r1,r2,r3⟩:=rd_or (List.mem_of_mem_take hx)
    exact ⟨inferInstance,inferInstance,inferInstance⟩)) (b:=lend_star _ _ _ (b:=lo fun x hx=>by
    obtain ⟨r1,r2,r3⟩:=rd_or hx
    exact ⟨inferInstance,inferInstance,inferInstance⟩))) fun r12 w h=>?_
  obtain ⟨hr12,h⟩:=h.purP
  have h:=h.drop
  refine w_ite (fun _=>?_) fun c=>by rw [hr12] at c;cases c
  have hB:=h.take (arr r6.2 KI (errsM (newM cf) ds ds.length))
  have hc7:=own_cap (s:=r6.2) hB
  refine w_slcR (s:=r6.2) hB (hB.nrm r6.2) 0 k r6.2.cap rfl rfl rfl rfl (Nat.zero_le _) (by rw [errs_len];omega) (by omega) (Nat.le_refl _) fun _ hr13=>?_
  rw [List.drop_zero,errsM_pre _ _ _ _ hkl] at hr13
  haveI:=hr13
  refine w_lend (eno_plain_tri (r6.2.sub 0 k r6.2.cap 1) r9.2 (errsM (newM cf) ds k) (errsM (newM cf) ds k) (by rw [errs_len];omega)) hB inferInstance fun r14 w h=>?_
  obtain ⟨hr14,h⟩:=h.purP
  exact Own.retP (hr14.2 rfl) h.emp'
end ScT

end Go.X
