/- Contracts and plain facts: ScK. -/
import Derived.Test.YtniflenfpbbikaaDoorB0
import Derived.Test.YtniflenfpbbikaaDoorB1
import Derived.Test.YtniflenfpbbikaaDoorK
import Derived.Test.YtniflenfpbbikaaDoorF0
set_option linter.unusedVariables false
set_option linter.unusedSimpArgs false
set_option linter.unusedSectionVars false
namespace Go.X
open Go.Proofs
namespace ScK
open ScM ScW BldT StrT ScA ScB ScC ScD ScH ScI
def szs (os:List OT):Nat:=(os.map fun p=>p.2.1.length+p.2.2.length).sum
theorem szs_mem {os:List OT} {p:OT} (h:p∈os):p.2.1.length+p.2.2.length≤szs os:=by
 induction os with
 | nil=>cases h
 | cons x l ih =>
  unfold szs at ih ⊢
  rw [List.map_cons,List.sum_cons]
  rcases List.mem_cons.1 h with h | h
  ·rw [h];omega
  ·have:=ih h;omega
theorem szs_take {os:List OT} {i:Nat} {p:OT} (h:os[i]?=some p):szs (os.take (i+1))=szs (os.take i)+(p.2.1.length+p.2.2.length):=by
 unfold szs
 rw [List.take_add_one,h,List.map_append,List.sum_append]
 simp
theorem szs_le {os:List OT} (h:∀ p∈os,p.2.1.length≤140737488351232∧p.2.2.length≤140737488351232):szs os≤281474976702464 * os.length:=by
 induction os with
 | nil=>exact Nat.le_refl _
 | cons x l ih =>
  have h1:=h x (List.mem_cons_self ..)
  have h2:=ih fun p hp=>h p (List.mem_cons_of_mem _ hp)
  unfold szs at h2 ⊢
  rw [List.map_cons,List.sum_cons,List.length_cons]
  omega
theorem star_S {A B:SP} (ha:∀ w S R,A.h w S R→∀ k,¬ S k) (hb:∀ w S R,B.h w S R→∀ k,¬ S k):∀ w S R,(A^B).h w S R→∀ k,¬ S k:=by
 rintro w S R ⟨S1,R1,S2,R2,h1,h2,hS,_,_⟩ k hk
 exact ((hS k).1 hk).elim (ha _ _ _ h1 k) (hb _ _ _ h2 k)
theorem rarr_S (s:Sl) (K:Ks) (xs:List (Ks.T K)):∀ w S R,(rarr s K xs).h w S R→∀ k,¬ S k:=fun _ _ _ h=>h.2.1
theorem rl_S:∀ os:List OT,∀ w S R,(rl outP os).h w S R→∀ k,¬ S k
 | []=>fun _ _ _ h=>h.1
 | _ :: l=>star_S (star_S (rarr_S _ _ _) (rarr_S _ _ _)) (rl_S l)
theorem outs_S (o:Sl) (os:List OT):∀ w S R,(outsP o os).h w S R→∀ k,¬ S k:=star_S (rarr_S _ _ _) (rl_S os)
theorem lend_outs (o:Sl) (os:List OT) (F G:SP) [t:Take (outsP o os) F G]:Lend (outsP o os) F:=⟨fun w S R h=>by
 obtain ⟨S1,R1,S2,R2,h1,_,_,hR,_⟩:=t.le w S R h
 have:S1=fun _=>False:=funext fun k=>propext ⟨fun hk=>outs_S o os _ _ _ h1 k hk,fun hk=>hk.elim⟩
 exact ⟨R1,this ▸ h1,fun k hk=>.inr ((hR k).2 (.inl hk))⟩⟩
structure OkO (p:OT):Prop where
 a:∀ s∈p.2.1,OkS s
 b:∀ s∈p.2.2,OkS s
 w:0≤p.1.2.2.2∧p.1.2.2.2 < 18446744073709551616
 l:p.2.1.length≤140737488351232∧p.2.2.length≤140737488351232
theorem texts_tri (o e:Sl) (os:List OT) (es:List Int) (ho:∀ p∈os,OkO p) (he:∀ x∈es,x < 9223372036854775808) (hm:os.length < 9223372036854775808) (hm2:es.length < 9223372036854775808):Tri Tryd.prog N_canterlaw28_ScriptTexts [.lf (.sl o),.lf (.sl e)] [.lf .bool] (tab^outsP o os^rarr e KI es) (fun r=>pur (r=true) emp) :=
 tri_0 (call_canterlaw28_ScriptTexts o e) fun w0 S R h=>by
  unfold W_canterlaw28_ScriptTexts
  have h:Own w0 S R w0 (tabF true^(rarr o KOu (os.map Prod.fst)^rl outP os)^rarr e KI es):=h
  have h:Own w0 S R w0 (tabF true^rarr o KOu (os.map Prod.fst)^rl outP os^rarr e KI es):=h.le (star_mono Le.rfl (star_assoc _ _ _))
  have hol:=((h.take (rarr o KOu (os.map Prod.fst))).rd (s:=o)).2
  rw [List.length_map] at hol
  have hel:=((h.take (rarr e KI es)).rd (s:=e)).2
  refine w_loop (fun _:Int × Int=>tabF true^rarr o KOu (os.map Prod.fst)^rl outP os^rarr e KI es) (fun y:Int × Int=>0≤y.2∧y.2≤os.length∧(os.length≤60→y.1=szs (os.take y.2.toNat))) (fun y:Int × Int=>os.length - y.2.toNat) h ⟨Int.le_refl 0,by show (0:Int)≤_;omega,fun _=>rfl⟩ ?_
  rintro (⟨t,i⟩:Int × Int) w ⟨h0,h1,h2⟩ h
  dsimp only at h0 h1 h2 h ⊢
  refine w_ite (fun c=>?_) fun c=>?_
  ·have c:i < ((o.len:Nat):Int):=of_decide_eq_true c
   have hi:i.toNat < os.length:=by omega
   obtain ⟨p,hp⟩:∃ p,os[i.toNat]?=some p:=⟨_,at_some hi⟩
   have hpm:=List.mem_of_getElem? hp
   have hpf:(os.map Prod.fst)[i.toNat]?=some p.1:=by rw [List.getElem?_map,hp];rfl
   have hpl:i.toNat < (os.map Prod.fst).length:=by rw [List.length_map];exact hi
   haveI:=rd_dep hp
   haveI:=rd_drp hp
   have ok:=ho p hpm
   refine w_drw h fun w h=>?_
   have hoR:=h.take (rarr o KOu (os.map Prod.fst))
   have e1:=(h.rd (s:=p.1.1) (K:=ScB.KS) (xs:=p.2.1)).2
   have e2:=(h.rd (s:=p.1.2.1) (K:=ScB.KS) (xs:=p.2.2)).2
   refine w_idx (s:=o) hoR h0 hpl (w_idx (s:=o) hoR h0 hpl ?_)
   refine w_ldA hoR o i.toNat 0 p.1 hpf rfl (by decide) (x:=p.1.1) rfl (w_ldA hoR o i.toNat 1 p.1 hpf rfl (by decide) (x:=p.1.2.1) rfl ?_)
   have ei:(i+1).toNat=i.toNat+1:=by omega
   rw [wi (n:=i+1) (by omega) (by omega),e1,e2]
   refine ⟨⟨⟨by show 0≤i+1;omega,by show i+1≤_;omega,fun h60=>?_⟩,h⟩,by show os.length - (i+1).toNat < _;omega⟩
   show _=((szs (os.take (i+1).toNat):Nat):Int)
   have hs:=szs_le (os:=os.take i.toNat) fun p hp=>(ho p (List.mem_of_mem_take hp)).l
   rw [List.length_take] at hs
   have hl:=ok.l
   have ht:=h2 h60
   rw [ei,szs_take hp,ht,wi (n:=(szs (os.take i.toNat):Int)+(p.2.1.length:Nat)) (by omega) (by omega),wi (by omega) (by omega)]
   omega
  ·have c:¬ i < ((o.len:Nat):Int):=of_decide_eq_false c
   refine w_ite (fun c=>?_) fun c=>?_
   ·refine w_emp awake_tri h fun r w h=>?_
    obtain ⟨hr,h⟩:=h.purP
    exact Own.retP hr h.emp'
   ·have c2:¬ ((((o.len:Nat):Int) > 60∨((e.len:Nat):Int) > 60)∨t > 200):=by simpa using c
    have ht:t=szs os:=by
     have:=h2 (by omega)
     rw [List.take_of_length_le (by omega)] at this
     exact this
    have okT:∀ p∈os,OkT (otF p):=fun p hp=>by
     have ok:=ho p hp
     have:=szs_mem hp
     exact ⟨ok.a,ok.b,ok.w,by show p.2.1.length≤_;omega,by show p.2.2.length≤_;omega⟩
    refine w_emp awake_tri h fun r w h=>?_
    obtain ⟨hr,h⟩:=h.purP
    have h:=h.drop
    refine w_ite (fun _=>?_) fun c=>by rw [hr] at c;cases c
    have h:Own w0 S R w (tabF true^outsP o os^rarr e KI es):=h.le (star_mono Le.rfl (star_assoc' _ _ _))
    haveI:∀ F G:SP,[Take (outsP o os) F G]→Lend (outsP o os) F:=fun F G _=>lend_outs o os F G
    refine w_lend (text_tri true o e os es okT he (by omega) (fun e=>by cases e)) h inferInstance fun r9 w h=>?_
    obtain ⟨hr9,h⟩:=h.purP
    have h:=h.drop
    refine w_lend (rtext_tri o e os es okT he (by omega)) h inferInstance fun r10 w h=>?_
    obtain ⟨hr10,h⟩:=h.purP
    rw [hr9,hr10]
    exact Own.retP (by simp) h.emp'
end ScK

end Go.X
