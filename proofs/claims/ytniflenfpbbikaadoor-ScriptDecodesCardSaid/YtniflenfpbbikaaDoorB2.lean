/- Contracts and plain facts: ScI. -/
import Derived.Test.YtniflenfpbbikaaDoorB0
import Derived.Test.YtniflenfpbbikaaDoorB1
import Derived.Test.YtniflenfpbbikaaDoorK
import Derived.Test.YtniflenfpbbikaaDoorF0
set_option linter.unusedVariables false
set_option linter.unusedSimpArgs false
set_option linter.unusedSectionVars false
namespace Go.X
open Go.Proofs
namespace ScI
open ScE ScF ScG ScH
theorem byt_same_tri (a b:Sl) (one:Fv) (C:SP) (xs ys:List (Ks.T K8)) (Q:Ks.T K8→Ks.T K8→Prop) (hl:xs.length≤4294967296) (hf:∀ x∈xs,∀ y∈ys,TriV Tryd.prog one [.lf (.int .u8 x),.lf (.int .u8 y)] [.lf .bool] C (fun r=>pur ((r=true)↔Q x y) C)) :
  Tri Tryd.prog N_canterhelp_Same_byte [.lf (.sl a),.lf (.sl b),.lf (.fn one)] [.lf .bool] (C^rarr a K8 xs^rarr b K8 ys) (fun r=>pur ((r=true)↔AllP Q xs ys) C) :=
 tri_0 (call_canterhelp_Same_byte _ _ _) fun w S R h=>by
  unfold W_canterhelp_Same_byte
  have ha:=(h.drop.rd (s:=a)).2
  have hb:=((h.take (rarr b K8 ys)).rd (s:=b)).2
  refine w_ite (fun c=>?_) fun c=>?_
  ·rw [ha,hb] at c
   exact Own.retP ⟨fun h=>(by cases h),fun h=>by have:=AllP_len h;simp at c;omega⟩ h.fin
  ·rw [ha,hb] at c
   have c:xs.length=ys.length:=by simp at c;omega
   refine w_loop (fun _=>rarr a K8 xs^rarr b K8 ys^C) (fun (i:Int)=>0≤i∧i.toNat≤xs.length∧(AllP Q xs ys↔AllP Q (xs.drop i.toNat) (ys.drop i.toNat))) (fun (i:Int)=>xs.length - i.toNat) h.fin ⟨Int.le_refl 0,Nat.zero_le _,Iff.rfl⟩ ?_
   rintro (i:Int) w ⟨h0,h1,h2⟩ h
   refine w_ite (fun c2=>?_) fun c2=>?_
   ·have hi:i.toNat < xs.length:=by simp at c2;omega
    have hi2:i.toNat < ys.length:=by omega
    refine w_drw h fun w h=>?_
    refine w_idx h h0 hi ?_
    have hb':=h.le (star_swap _ _ _)
    refine w_idx hb' h0 hi2 ?_
    refine w_ldE h a i.toNat (at_some hi) rfl ?_
    refine w_ldE hb' b i.toNat (at_some hi2) rfl ?_
    refine w_callv (hf _ (List.getElem_mem hi) _ (List.getElem_mem hi2)) h fun r w h=>?_
    obtain ⟨hr,h⟩:=h.purP
    rw [List.drop_eq_getElem_cons hi,List.drop_eq_getElem_cons hi2,AllP,← hr] at h2
    refine w_ite (fun c3=>?_) fun c3=>?_
    ·have c3:r=false:=by simpa using c3
     rw [c3] at h2
     exact Own.retP ⟨fun h=>(by cases h),fun h=>by have:=(h2.1 h).1;cases this⟩ h.fin
    ·have c3:r=true:=by simpa using c3
     rw [c3] at h2
     have h2:AllP Q xs ys↔AllP Q (xs.drop (i.toNat+1)) (ys.drop (i.toNat+1)):=h2.trans ⟨fun h=>h.2,fun h=>⟨rfl,h⟩⟩
     have e:(i+1).toNat=i.toNat+1:=by omega
     rw [wi (by omega) (by omega)]
     exact ⟨⟨⟨by show (0:Int)≤i+1;omega,by show (i+1).toNat≤_;omega,by show _↔AllP Q (xs.drop (i+1).toNat) (ys.drop (i+1).toNat);rw [e];exact h2⟩,h.fin⟩,by show _ - (i+1).toNat < _;omega⟩
   ·have hi:i.toNat=xs.length:=by simp at c2;omega
    rw [hi,List.drop_length,c,List.drop_length,AllP] at h2
    exact Own.retP ⟨fun _=>h2.2 trivial,fun _=>rfl⟩ h.fin
theorem byt_one_tri (x y:Ks.T K8):Tri Tryd.prog N_canterhelp_Plain_byte_c1 [.lf (.int .u8 x),.lf (.int .u8 y)] [.lf .bool] emp (fun r=>pur ((r=true)↔x=y) emp) :=
 tri_0 (call_canterhelp_Plain_byte_c1 _ _) fun w S R h=>by
  unfold W_canterhelp_Plain_byte_c1
  repeat' (first
   | (refine w_drw h fun w h=>?_)
   | (refine w_deref ?_)
   | (refine w_ldAll h rfl ?_)
   | (refine w_ld h rfl ?_)
   | (refine w_chkAll h ?_)
   | (refine w_chk h rfl ?_)
   | (refine w_setAll h (by rfl) fun w h=>?_)
   | (refine w_new h fun n w h=>?_)
   | (refine w_leave h fun w h=>?_)
   | (refine w_set h rfl fun w h=>?_;dsimp only [upd,over] at h))
  all_goals exact Own.retP (by simp [Prod.ext_iff]) h.emp'
theorem byt_plain_tri (a b:Sl) (xs ys:List (Ks.T K8)) (hl:xs.length≤4294967296) :
  Tri Tryd.prog N_canterhelp_Plain_byte [.lf (.sl a),.lf (.sl b)] [.lf .bool] (emp^rarr a K8 xs^rarr b K8 ys) (fun r=>pur ((r=true)↔xs=ys) emp) :=
 tri_0 (call_canterhelp_Plain_byte _ _) fun w S R h=>by
  unfold W_canterhelp_Plain_byte
  refine w_call (byt_same_tri a b _ emp xs ys Eq hl (fun x _ y _=>(Tri.g (f:=N_canterhelp_Plain_byte_c1) (args:=[.lf (.int .u8 x),.lf (.int .u8 y)]) (caps:=[]) (byt_one_tri x y)).v)) h fun r w h=>?_
  obtain ⟨hr,h⟩:=h.purP
  exact Own.retP (hr.trans (AllP_eq xs ys)) h.keep
theorem byt_own_tri (l:Sl) (xs:List (Ks.T K8)) (f:Ks.T K8) (hl:xs.length≤1000000):Tri Tryd.prog N_canterhelp_Own_byte [.lf (.sl l),.lf (.int .u8 f)] [.lf .sl] (emp^rarr l K8 xs) (fun r=>kept r K8 xs f) :=
 tri_0 (call_canterhelp_Own_byte _ _) fun w0 S R h=>by
  unfold W_canterhelp_Own_byte
  have hl':=(h.drop.rd (s:=l)).2
  have hw3:IntKind.i64.wrap (((l.len:Nat):Int)+3)=((xs.length+3:Nat):Int):=by rw [hl'];exact wi (by omega) (by omega)
  rw [hw3]
  skip
  refine w_mk (K:=K8) (z:=(0:Int)) h rfl (by omega) (by omega) (by omega) fun s2 w hs2 hc2 h=>?_
  have hc2:s2.cap=xs.length+3:=by rw [hc2];omega
  have h:Own w0 S R w (arr s2 K8 []^_):=h
  have h:Own w0 S R w (arr s2 K8 []^ rarr l K8 xs):=h.fin
  refine w_appC (s:=s2) (x:=l) h rfl (by simp;omega) fun s3 w hs3 hs3' h=>?_
  have hs3':s3=⟨s2.p,xs.length,s2.cap⟩:=by have:=hs3' (by simp;omega);simpa using this
  have h:=h.arrEq (s:=s3) (K:=K8) (List.nil_append _)
  obtain ⟨q,C,hq,hl3,hle,hC,hg,h⟩:=h.arrBlk s3 (by rw [hs3'];show s2.cap≠0;omega)
  have hcap:s3.cap=xs.length+3:=by rw [hs3'];exact hc2
  have hsub:s3.sub 0 (xs.length+3) s3.cap 1=⟨s3.p,xs.length+3,s3.cap⟩:=by
   have:=sub_self (s:=s3) (n:=s3.len) (k:=xs.length+3) (m:=1) (by rw [hq];simp) (by omega)
   have e:(⟨s3.p,s3.len,s3.cap⟩:Sl)=s3:=by cases s3;rfl
   rwa [e] at this
  refine ⟨Nrm.some hq,0,xs.length+3,s3.cap,rfl,rfl,rfl,⟨by omega,by omega,Nat.le_refl _⟩,?_⟩
  rw [hsub,hl']
  have h:Own w0 S R w (blk q.b C^ emp):=h.fin
  refine w_loop (fun (i:Int)=>exq (fun C:List Lf=>q.o+(xs.length+3) * 1≤C.length∧∀ j,j < i.toNat * 1→C[q.o+j]?=(flat K8 (xs++List.replicate (i.toNat - xs.length) f))[j]?) (fun C=>blk q.b C^ emp)) (fun (i:Int)=>(xs.length:Int)≤i∧i≤xs.length+3) (fun (i:Int)=>((xs.length:Int)+3 - i).toNat)
   (h.inq C ⟨by rw [← hcap];exact hC,fun j hj=>?_⟩).keep ⟨Int.le_refl _,by show (xs.length:Int)≤xs.length+3;omega⟩ ?_
  ·rintro (i:Int) w ⟨i0,i1⟩ h
   obtain ⟨D,⟨d1,d2⟩,h⟩:=h.outq1
   refine w_ite (fun c=>?_) fun c=>?_
   ·have hi:i < xs.length+3:=by simpa using c
    skip
    refine ⟨q,hq,⟨by omega,by show i < ((xs.length+3:Nat):Int);omega⟩,?_⟩
    have hb:q.o+i.toNat * 1+1≤D.length:=by
     have:(i.toNat+1) * 1≤(xs.length+3) * 1:=Nat.mul_le_mul_right _ (by omega)
     omega
    refine w_st (p:=⟨q.b,q.o+i.toNat * 1⟩) h (by show q.o+i.toNat * 1+(Ks.mk K8 f).length≤_;rw [Ks.len];exact hb) fun w h=>?_
    have h:=h.blkEq (b:=q.b) (L':=splice D (q.o+i.toNat * 1) (Ks.mk K8 f)) rfl
    have e:(i+1).toNat=i.toNat+1:=by omega
    rw [wi (n:=i+1) (by omega) (by omega)]
    refine ⟨⟨⟨by show (xs.length:Int)≤i+1;omega,by show i+1≤_;omega⟩,?_⟩,by show ((xs.length:Int)+3 - (i+1)).toNat < _;omega⟩
    have hsp:q.o+i.toNat * 1+(Ks.mk K8 f).length≤D.length:=by rw [Ks.len];exact hb
    have h:Own w0 S R w (blk q.b (splice D (q.o+i.toNat * 1) (Ks.mk K8 f))^ emp):=h.fin
    refine (h.inq (f:=fun C=>blk q.b C^ emp) (splice D (q.o+i.toNat * 1) (Ks.mk K8 f)) ⟨by rw [splice_length hsp];exact d1,fun j hj=>?_⟩).keep
    have hj:j < (i.toNat+1) * 1:=by rw [← e];exact hj
    have hr:xs++List.replicate ((i+1).toNat - xs.length) f=(xs++List.replicate (i.toNat - xs.length) f)++[f]:=by
     rw [List.append_assoc,e,show i.toNat+1 - xs.length=(i.toNat - xs.length)+1 by omega,List.replicate_succ']
    have hfl:(flat K8 (xs++List.replicate (i.toNat - xs.length) f)).length=i.toNat * 1:=by
     rw [flat_len,List.length_append,List.length_replicate];congr 1;omega
    have h1f:flat K8 [f]=Ks.mk K8 f:=by simp [flat]
    rw [hr,flat_append,h1f,splice_get hsp,Ks.len]
    by_cases c1:j < i.toNat * 1
    ·rw [if_pos (by omega),List.getElem?_append_left (by omega)];exact d2 j c1
    ·have hK:(K8).length=1:=rfl
     rw [if_neg (by omega),if_pos (by rw [hK];omega),List.getElem?_append_right (by omega),hfl]
     congr 1;omega
   ·have hi:i=xs.length+3:=by simp at c;omega
    have e:i.toNat=xs.length+3:=by omega
    rw [e] at d2
    have h:=h.arrOf ⟨s3.p,xs.length+3,s3.cap⟩ q K8 (xs++[f,f,f]) hq (by simp) (by show xs.length+3≤s3.cap;omega) (by show s3.cap≠0;omega) (by show q.o+s3.cap * 1≤_;rw [hcap];exact d1) (fun j hj=>by
     rw [List.length_append] at hj
     have:=d2 j (by simpa using hj)
     rw [show xs.length+3 - xs.length=3 by omega] at this
     exact this)
    exact Own.retP ⟨hl3,by omega,by rw [hq];simp⟩ h.keep
  ·have e:((xs.length:Int)).toNat=xs.length:=by omega
   rw [e] at hj ⊢
   rw [Nat.sub_self,List.replicate_zero,List.append_nil]
   exact hg j hj
theorem byt_kept_tri (out l:Sl) (xs:List (Ks.T K8)) (f:Ks.T K8) (hl:xs.length≤1000000):Tri Tryd.prog N_canterhelp_Kept_byte [.lf (.sl out),.lf (.sl l),.lf (.int .u8 f)] [.lf .bool] (kept out K8 xs f^rarr l K8 xs) (fun r=>pur (r=true) (kept out K8 xs f)) :=
 tri_0 (call_canterhelp_Kept_byte _ _ _) fun w0 S R h=>by
  unfold W_canterhelp_Kept_byte
  have hl':=((h.take (rarr l K8 xs)).rd (s:=l)).2
  have hw3:IntKind.i64.wrap (((l.len:Nat):Int)+3)=((xs.length+3:Nat):Int):=by rw [hl'];exact wi (by omega) (by omega)
  rw [hw3]
  skip
  refine w_callL (A:=emp) (Q:=rarr out K8 xs^rarr l K8 xs) (byt_plain_tri out l xs xs (by omega)) (h.le (star_emp _ |>.trans (star_comm _ _))) fun r2 w h=>?_
  obtain ⟨hr2,h⟩:=h.purP
  have h:=h.take (kept out K8 xs f)
  obtain ⟨⟨k1,k2,k3⟩,h⟩:=h.purP
  have hcp:out.cp=out.cap:=by
   cases hp:out.p with
   | none=>exact absurd hp k3
   | some q=>rw [Sl.cp,Sl.norm_p hp];rfl
  refine w_ite (fun c=>?_) fun _=>?_
  ·exfalso;rw [hr2.2 rfl,hcp] at c;simp at c;omega
  have hsub:out.sub 0 (xs.length+3) out.cap 1=⟨out.p,xs.length+3,out.cap⟩:=by
   have:=sub_self (s:=out) (n:=out.len) (k:=xs.length+3) (m:=1) k3 (by omega)
   have e:(⟨out.p,out.len,out.cap⟩:Sl)=out:=by cases out;rfl
   rwa [e] at this
  have hN:Nrm out:=by
   cases hp:out.p with
   | none=>exact absurd hp k3
   | some q=>exact Nrm.some hp
  refine ⟨hN,0,xs.length+3,out.cap,rfl,rfl,rfl,⟨by omega,by omega,Nat.le_refl _⟩,?_⟩
  rw [hsub,hl']
  have h:Own w0 S R w (arr ⟨out.p,xs.length+3,out.cap⟩ K8 (xs++[f,f,f])^ emp):=h.fin
  refine w_loop (fun (i:Int)=>arr ⟨out.p,xs.length+3,out.cap⟩ K8 (xs++[f,f,f])^ emp) (fun (i:Int)=>(xs.length:Int)≤i∧i≤xs.length+3) (fun (i:Int)=>((xs.length:Int)+3 - i).toNat) h ⟨Int.le_refl _,by show (xs.length:Int)≤xs.length+3;omega⟩ ?_
  rintro (i:Int) w ⟨i0,i1⟩ h
  refine w_ite (fun c=>?_) fun c=>?_
  ·have hi:i < xs.length+3:=by simpa using c
   have hx:(xs++[f,f,f])[i.toNat]?=some f:=by
    rw [List.getElem?_append_right (by omega)]
    have:i.toNat - xs.length=0∨i.toNat - xs.length=1∨i.toNat - xs.length=2:=by omega
    rcases this with e | e | e<;>rw [e]<;>rfl
   skip
   refine w_idx h (by omega) (by simp;omega) ?_
   refine w_ldE h ⟨out.p,xs.length+3,out.cap⟩ i.toNat hx rfl ?_
   refine w_ite (fun c=>by simp at c) fun _=>?_
   rw [wi (n:=i+1) (by omega) (by omega)]
   exact ⟨⟨⟨by show (xs.length:Int)≤i+1;omega,by show i+1≤_;omega⟩,h⟩,by show ((xs.length:Int)+3 - (i+1)).toNat < _;omega⟩
  ·exact Own.retP rfl (h.toPur (p:=out.len=xs.length∧xs.length+3≤out.cap∧out.p≠none) ⟨k1,k2,k3⟩).keep
section
variable {P : Program} {w0 w : World} {S0 R0 : Nat → Prop} {F Q : SP}
theorem w_lend {f:FuncId} {args:List V1} {rs:List Sh} {Post:Rs.T rs→SP} {K:Rs.T rs→WP} (t:Tri P f args rs (emp^Q) Post) (h:Own w0 S0 R0 w F) (hl:Lend Q F) [hN:∀ x,NoR (Post x)] (k:∀ x w',Own w0 S0 R0 w' (Post x^F)→K x w'):call P f args rs K w :=
 w_callL (A:=emp) (Q:=Q) (F:=emp^F) (G:=F) t (h.le ((star_emp _).trans (star_comm _ _))) k
theorem w_emp {f:FuncId} {args:List V1} {rs:List Sh} {Post:Rs.T rs→SP} {K:Rs.T rs→WP} (t:Tri P f args rs emp Post) (h:Own w0 S0 R0 w F) (k:∀ x w',Own w0 S0 R0 w' (Post x^F)→K x w'):call P f args rs K w :=
 w_call (F:=emp^F) (G:=F) t (h.le ((star_emp _).trans (star_comm _ _))) k
end
theorem decodes_tri (b:Sl) (z:List (Ks.T K8)) (hz:Byt z):Tri Tryd.prog N_canterlaw28_ScriptDecodes [.lf (.sl b)] [.lf .bool] (rarr b K8 z) (fun r=>pur (r=true) emp) :=
 tri_0 (call_canterlaw28_ScriptDecodes b) fun w0 S R h=>by
  unfold W_canterlaw28_ScriptDecodes
  have hbl:=(h.rd (s:=b)).2
  refine w_ite (fun c=>?_) fun c=>?_
  ·refine w_emp awake_tri h fun r w h=>?_
   obtain ⟨hr,h⟩:=h.purP
   exact Own.retP hr h.emp'
  ·have c:¬ ((b.len:Nat):Int) > 3000:=of_decide_eq_false c
   have hl:z.length≤3000:=by omega
   refine w_lend (byt_own_tri b z 71 (by omega)) h inferInstance fun o w h=>?_
   obtain ⟨⟨k1,k2,k3⟩,_⟩:=h.purP
   refine w_emp awake_tri h fun r w h=>?_
   obtain ⟨hr,h⟩:=h.purP
   refine w_ite (fun _=>?_) fun c=>by rw [hr] at c;cases c
   refine w_lend (decode_tri o z (by omega) hz (by omega)) h inferInstance fun r4 w h=>?_
   obtain ⟨ps,h⟩:=h.exP
   obtain ⟨⟨hu,hn⟩,h⟩:=h.purP
   have h:=dsP_split h
   refine w_lend (rdecode_tri b z hz (by omega)) h inferInstance fun r5 w h=>?_
   obtain ⟨qs,h⟩:=h.exP
   obtain ⟨⟨hv,hm⟩,h⟩:=h.purP
   have h:=dsP_split h
   have hpl:ps.length≤4294967296:=by rw [hn];unfold nD;omega
   have hpq:ps.map Prod.fst=qs.map Prod.fst:=by rw [hu,hv,hn,hm]
   refine w_lend (same_tri r4 r5 ps qs hpl hpq) h (lend_star _ _ _ (a:=lend_star _ _ _ (b:=lend_rl fun p hp=>by haveI:=rd_sO hp;infer_instance)) (b:=lend_star _ _ _ (b:=lend_rl fun p hp=>by haveI:=rd_sO hp;infer_instance))) fun r6 w h=>?_
   obtain ⟨hr6,h⟩:=h.purP
   refine w_ite (fun _=>?_) fun c=>by rw [hr6] at c;cases c
   refine w_callL (A:=kept o K8 z 71) (Q:=rarr b K8 z) (byt_kept_tri o b z 71 (by omega)) h fun r7 w h=>?_
   obtain ⟨hr7,h⟩:=h.purP
   exact Own.retP hr7 h.emp'
end ScI

end Go.X
