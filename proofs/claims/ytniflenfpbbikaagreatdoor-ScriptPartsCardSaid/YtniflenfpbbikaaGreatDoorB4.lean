/- Contracts and plain facts: FqD FqE FqG FqH FqI FqK FqN FqQ FqR FqT. -/
import Derived.Test.YtniflenfpbbikaaGreatDoorB0
import Derived.Test.YtniflenfpbbikaaGreatDoorB1
import Derived.Test.YtniflenfpbbikaaGreatDoorB2
import Derived.Test.YtniflenfpbbikaaGreatDoorB3
import Derived.Test.YtniflenfpbbikaaGreatDoorK
import Derived.Test.YtniflenfpbbikaaGreatDoorF0
import Derived.Test.YtniflenfpbbikaaGreatDoorF1
import Derived.Test.YtniflenfpbbikaaGreatDoorF2
set_option linter.unusedVariables false
set_option linter.unusedSimpArgs false
set_option linter.unusedSectionVars false
namespace Go.X
open Go.Proofs
namespace FqD
open Arith ArithC Lists _root_.Go.X.Tree TreeC TreeD TreeE TreeF FqM FqC
theorem placeI_tri (b:Nat) (p:Nat→Option Pt) (l t:Nat) (v:Qm) (hv:okL v.lv) (i:Int) (hi:0≤i∧i < 8):Tri Tryz.prog N_fq_Queue_place [.lf (.ptr (some ⟨b,0⟩)),.lf (.int .i64 i)] [.lf (.int .i64)] (blk b (qL v.c p l t v.n)^lst l v.lv^tree 8 t v.ks^All8 p v.fl) (fun r=>pur (r=plc v i.toNat) (blk b (qL v.c p l t v.n)^lst l v.lv^tree 8 t v.ks^All8 p v.fl)) :=
 tri_0 (call_fq_Queue_place (some ⟨b,0⟩) i) fun w0 S R h=>by
  unfold W_fq_Queue_place
  have hl:=hv.few
  refine w_deref (w_ld h rfl (w_call (Lists.place_tri l v.lv i (by omega)) h fun r w h=>?_))
  obtain ⟨hr,h⟩:=h.purP;rw [hr]
  have hi':((i.toNat:Nat):Int)=i:=by omega
  refine w_ite (fun c=>?_) fun c=>?_
  ·have c:placeF v.lv i≠0:=by simpa using c
   refine Own.retP ?_ h.fin
   unfold plc;rw [hi',if_pos c]
  have c:¬ placeF v.lv i≠0:=by simpa using c
  refine w_deref ⟨hi,w_ld h (qL_at _ _ _ _ _ i.toNat (by omega)) ?_⟩
  cases hf:v.fl i.toNat with
  | none =>
   rw [(h.noF p v.fl (by omega) hf).1]
   refine w_ite (fun c=>(by simp at c)) fun _=>?_
   refine Own.retP ?_ h.fin
   unfold plc;rw [hi',if_neg c,hf]
  | some f =>
   obtain ⟨a,hp,h⟩:=h.outF p v.fl (by omega) hf
   rw [hp]
   refine w_ite (fun _=>?_) fun c=>(by simp at c)
   obtain ⟨s,h⟩:=h.flow a
   refine w_deref (w_ld h rfl ?_)
   have hs:=(h.rd (s:=s)).2
   have h:=h.mkFlow a s f
   have h:=h.inF p v.fl (by omega) p v.fl a f (fun _ _=>rfl) (fun _ _=>rfl) hp hf
   refine w_ite (fun c2=>?_) fun c2=>?_
   ·have c2:(s.len:Int) > 0:=by simpa using c2
    refine Own.retP ?_ h.fin
    unfold plc;rw [hi',if_neg c,hf]
    exact (if_neg (fun e=>by rw [e] at hs;simp only [List.length_nil] at hs;omega)).symm
   ·have c2:¬ (s.len:Int) > 0:=by simpa using c2
    refine Own.retP ?_ h.fin
    unfold plc;rw [hi',if_neg c,hf]
    exact (if_pos (List.eq_nil_of_length_eq_zero (by omega))).symm
theorem placeO_tri (b:Nat) (p:Nat→Option Pt) (l t:Nat) (v:Qm) (hv:okL v.lv) (i:Int) (hi:0≤i∧i < 8) (a:Nat) (s:Sl) (f:Fl) (hf:v.fl i.toNat=some f) (hp:p i.toNat=some ⟨a,0⟩):Tri Tryz.prog N_fq_Queue_place [.lf (.ptr (some ⟨b,0⟩)),.lf (.int .i64 i)] [.lf (.int .i64)]
  (blk b (qL v.c p l t v.n)^lst l v.lv^blk a [.int .i64 f.cr,.int .u64 f.nx,.int .u64 f.si,.sl s]^arr s KS f.sg) (fun r=>pur (r=plc v i.toNat) (blk b (qL v.c p l t v.n)^lst l v.lv^blk a [.int .i64 f.cr,.int .u64 f.nx,.int .u64 f.si,.sl s]^arr s KS f.sg)) :=
 tri_0 (call_fq_Queue_place (some ⟨b,0⟩) i) fun w0 S R h=>by
  unfold W_fq_Queue_place
  have hl:=hv.few
  refine w_deref (w_ld h rfl (w_call (Lists.place_tri l v.lv i (by omega)) h fun r w h=>?_))
  obtain ⟨hr,h⟩:=h.purP;rw [hr]
  have hi':((i.toNat:Nat):Int)=i:=by omega
  refine w_ite (fun c=>?_) fun c=>?_
  ·have c:placeF v.lv i≠0:=by simpa using c
   refine Own.retP ?_ h.fin
   unfold plc;rw [hi',if_pos c]
  have c:¬ placeF v.lv i≠0:=by simpa using c
  refine w_deref ⟨hi,w_ld h (qL_at _ _ _ _ _ i.toNat (by omega)) ?_⟩
  rw [hp]
  refine w_ite (fun _=>?_) fun c=>(by simp at c)
  refine w_deref (w_ld h rfl ?_)
  have hs:=(h.rd (s:=s)).2
  refine w_ite (fun c2=>?_) fun c2=>?_
  ·have c2:(s.len:Int) > 0:=by simpa using c2
   refine Own.retP ?_ h.fin
   unfold plc;rw [hi',if_neg c,hf]
   exact (if_neg (fun e=>by rw [e] at hs;simp only [List.length_nil] at hs;omega)).symm
  ·have c2:¬ (s.len:Int) > 0:=by simpa using c2
   refine Own.retP ?_ h.fin
   unfold plc;rw [hi',if_neg c,hf]
   exact (if_pos (List.eq_nil_of_length_eq_zero (by omega))).symm
theorem idle_tri (b:Nat) (p:Nat→Option Pt) (l t:Nat) (v:Qm) (hv:okL v.lv) (i long now:Int) (hi:0≤i∧i < 8) (hl:U long) (hs:∀ f,v.fl i.toNat=some f→U f.si):Tri Tryz.prog N_fq_Queue_idle [.lf (.ptr (some ⟨b,0⟩)),.lf (.int .i64 i),.lf (.int .u64 long),.lf (.int .u64 now)] [.lf .bool] (blk b (qL v.c p l t v.n)^lst l v.lv^tree 8 t v.ks^All8 p v.fl) (fun r=>pur (r=idle v i.toNat long now) (blk b (qL v.c p l t v.n)^lst l v.lv^tree 8 t v.ks^All8 p v.fl)) :=
 tri_0 (call_fq_Queue_idle (some ⟨b,0⟩) i long now) fun w0 S R h=>by
  unfold W_fq_Queue_idle
  refine w_deref ⟨hi,w_ld h (qL_at _ _ _ _ _ i.toNat (by omega)) ?_⟩
  cases hf:v.fl i.toNat with
  | none =>
   rw [(h.noF p v.fl (by omega) hf).1]
   refine w_ite (fun c=>(by simp at c)) fun _=>?_
   refine Own.retP ?_ h.fin
   unfold idle;rw [hf]
  | some f =>
   rw [isN h p v.fl (i:=i.toNat) (by omega),hf]
   refine w_ite (fun _=>?_) fun c=>(by simp at c)
   refine w_call (placeI_tri b p l t v hv i hi) h fun r w h=>?_
   obtain ⟨hr,h⟩:=h.purP;rw [hr]
   obtain ⟨a,hp,h⟩:=h.outF p v.fl (by omega) hf
   rw [hp]
   refine w_ite (fun c=>?_) fun c=>?_
   ·have c:plc v i.toNat=0:=by simpa using c
    obtain ⟨s,h⟩:=h.flow a
    refine w_deref (w_ld h rfl (w_call (satadd_tri _ _ (hs f hf) hl) h fun r w h=>?_))
    obtain ⟨hr,h⟩:=h.purP;rw [hr]
    have h:=h.mkFlow a s f
    have h:=h.inF p v.fl (by omega) p v.fl a f (fun _ _=>rfl) (fun _ _=>rfl) hp hf
    refine Own.retP ?_ h.fin
    unfold idle;rw [hf];simp [c]
   ·have c:¬ plc v i.toNat=0:=by simpa using c
    have h:=h.inF p v.fl (by omega) p v.fl a f (fun _ _=>rfl) (fun _ _=>rfl) hp hf
    refine Own.retP ?_ h.fin
    unfold idle;rw [hf];simp [c]
theorem all_congr (p q:Nat→Option Pt) (fl gl:Nat→Option Fl) (hp:∀ j,j < 8→q j=p j) (hf:∀ j,j < 8→gl j=fl j):All8 q gl=All8 p fl:=bigS_congr 8 fun j hj=>by
 show flowP _ _=flowP _ _;rw [hp j hj,hf j hj]
abbrev collN (v:Qm) (now:Int) (k:Nat):Qm:={ v with fl:=fun i=>if i < k∧idle v i 3000000000 now=true then none else v.fl i }
theorem collN_idle (v:Qm) (now:Int) (k:Nat):idle (collN v now k) k 3000000000 now=idle v k 3000000000 now:=by
 have e:(collN v now k).fl k=v.fl k:=by unfold collN;simp
 have e2:plc (collN v now k) k=plc v k:=by unfold plc;rw [e]
 unfold idle
 rw [e,e2]
theorem collect_tri (b:Nat) (p:Nat→Option Pt) (l t:Nat) (v:Qm) (hv:OkQ v) (now:Int):Tri Tryz.prog N_fq_Queue_collect [.lf (.ptr (some ⟨b,0⟩)),.lf (.int .u64 now)] [] (blk b (qL v.c p l t v.n)^lst l v.lv^tree 8 t v.ks^All8 p v.fl) (fun _=>ex fun p:Nat→Option Pt=>blk b (qL ((collectF v now)).c p l t ((collectF v now)).n)^lst l ((collectF v now)).lv^tree 8 t ((collectF v now)).ks^All8 p ((collectF v now)).fl) :=
 tri_0 (call_fq_Queue_collect (some ⟨b,0⟩) now) fun w0 S R h=>by
  unfold W_fq_Queue_collect
  have h:Own w0 S R w0 ((ex fun p:Nat→Option Pt=>blk b (qL ((collN v now (0:Int).toNat)).c p l t ((collN v now (0:Int).toNat)).n)^lst l ((collN v now (0:Int).toNat)).lv^tree 8 t ((collN v now (0:Int).toNat)).ks^All8 p ((collN v now (0:Int).toNat)).fl)^emp):=by
   have e:collN v now (0:Int).toNat=v:=by unfold collN;simp
   rw [e]
   exact Own.toEx (f:=fun p:Nat→Option Pt=>blk b (qL v.c p l t v.n)^lst l v.lv^tree 8 t v.ks^All8 p v.fl) p h.fin
  refine w_loop (fun y:Int=>ex fun p:Nat→Option Pt=>blk b (qL ((collN v now y.toNat)).c p l t ((collN v now y.toNat)).n)^lst l ((collN v now y.toNat)).lv^tree 8 t ((collN v now y.toNat)).ks^All8 p ((collN v now y.toNat)).fl) (fun y:Int=>0≤y∧y≤8) (fun y:Int=>(8 - y).toNat) h.keep ⟨by decide,by decide⟩ ?_
  rintro (y:Int) w hy h
  obtain ⟨p,h⟩:=(h.le (star_emp _)).exP
  have hw:IntKind.i64.wrap (y+1)=y+1:=wi (by omega) (by omega)
  refine w_ite (fun c=>?_) fun c=>?_
  ·have c:y < 8:=by simpa using c
   have hfy:(collN v now y.toNat).fl y.toNat=v.fl y.toNat:=by unfold collN;simp
   refine w_call (idle_tri b p l t (collN v now y.toNat) hv.lv y 3000000000 now ⟨hy.1,c⟩ (by unfold U;omega) (fun f hf=>(hv.fl _ f (hfy ▸ hf)).2.si)) h fun r w h=>?_
   obtain ⟨hr,h⟩:=h.purP;rw [hr,collN_idle]
   have hn:(y+1).toNat=y.toNat+1:=by omega
   dsimp only
   rw [hw]
   have key:∀ (q:Nat→Option Pt) (w:World),Own w0 S R w (blk b (qL v.c q l t v.n)^lst l v.lv^tree 8 t v.ks^All8 q (collN v now (y+1).toNat).fl^emp)→(((0≤y+1∧y+1≤8)∧Own w0 S R w (ex fun p:Nat→Option Pt=>blk b (qL ((collN v now (y+1).toNat)).c p l t ((collN v now (y+1).toNat)).n)^lst l ((collN v now (y+1).toNat)).lv^tree 8 t ((collN v now (y+1).toNat)).ks^All8 p ((collN v now (y+1).toNat)).fl))∧(8 - (y+1)).toNat < (8 - y).toNat):=fun q w h=>by
    refine ⟨⟨by omega,?_⟩,by omega⟩
    have h:Own w0 S R w ((ex fun p:Nat→Option Pt=>blk b (qL ((collN v now (y+1).toNat)).c p l t ((collN v now (y+1).toNat)).n)^lst l ((collN v now (y+1).toNat)).lv^tree 8 t ((collN v now (y+1).toNat)).ks^All8 p ((collN v now (y+1).toNat)).fl)^emp):=Own.toEx (f:=fun p:Nat→Option Pt=>blk b (qL ((collN v now (y+1).toNat)).c p l t ((collN v now (y+1).toNat)).n)^lst l ((collN v now (y+1).toNat)).lv^tree 8 t ((collN v now (y+1).toNat)).ks^All8 p ((collN v now (y+1).toNat)).fl) q h.fin
    exact h.keep
   refine w_ite (fun c2=>?_) fun c2=>?_
   ·obtain ⟨f,hf,_⟩:=idle_some c2
    obtain ⟨a,hp,h⟩:=h.outF p (collN v now y.toNat).fl (i:=y.toNat) (by omega) (hfy.trans hf)
    refine w_deref ⟨⟨hy.1,c⟩,?_⟩
    refine w_setTo h b (qL v.c (upP p y.toNat none) l t v.n) rfl (Nat.ble_eq_true_of_le (by show 0+9+y.toNat * 1+1≤20;omega)) (qL_up _ _ _ _ _ y.toNat (by omega) none) fun w h=>?_
    have h:=h.inN p (collN v now y.toNat).fl (i:=y.toNat) (by omega) (upP p y.toNat none) (collN v now (y+1).toNat).fl (fun j e=>upP_ne _ _ e) (fun j e=>by
     unfold collN
     simp only
     have:(j < (y+1).toNat∧idle v j 3000000000 now=true)↔(j < y.toNat∧idle v j 3000000000 now=true):=⟨fun h=>⟨by omega,h.2⟩,fun h=>⟨by omega,h.2⟩⟩
     by_cases h:j < y.toNat∧idle v j 3000000000 now=true
     ·rw [if_pos h,if_pos (this.2 h)]
     ·rw [if_neg h,if_neg (fun x=>h (this.1 x))]) (upP_same _ _ _) (by unfold collN;exact if_pos ⟨by omega,c2⟩)
    exact key (upP p y.toNat none) w h.fin
   ·have e:(collN v now (y+1).toNat).fl=(collN v now y.toNat).fl:=funext fun j=>by
     unfold collN
     simp only
     have:(j < (y+1).toNat∧idle v j 3000000000 now=true)↔(j < y.toNat∧idle v j 3000000000 now=true):=⟨fun h=>⟨by
      have:j≠y.toNat:=fun e=>by have:=h.2;rw [e,c2] at this;cases this
      omega,h.2⟩,fun h=>⟨by omega,h.2⟩⟩
     by_cases h:j < y.toNat∧idle v j 3000000000 now=true
     ·rw [if_pos h,if_pos (this.2 h)]
     ·rw [if_neg h,if_neg (fun x=>h (this.1 x))]
    refine key p w ?_
    rw [e]
    exact h.fin
  ·have c:¬ y < 8:=by simpa using c
   have e:y=8:=by omega
   subst e
   have e:All8 p (collectF v now).fl=All8 p (collN v now (8:Int).toNat).fl:=all_congr _ _ _ _ (fun _ _=>rfl) fun j hj=>by
    show (if _ then _ else _)=(if _ then _ else _)
    by_cases h:idle v j 3000000000 now=true
    ·rw [if_pos h,if_pos ⟨hj,h⟩]
    ·rw [if_neg h,if_neg (fun x=>h x.2)]
   refine Own.retE p ?_
   rw [e]
   exact h.fin
theorem fate_tri (b:Nat) (p:Nat→Option Pt) (l t:Nat) (v:Qm) (hv:OkQ v) (n:Nat) (s:Sg) (now:Int) (hs:0≤sK s∧sK s < 8) (hn:U now):Tri Tryz.prog N_fq_Queue_fate [.lf (.ptr (some ⟨b,0⟩)),.lf (.ptr (some ⟨n,0⟩)),.lf (.int .u64 now)] [.lf (.int .i64)]
  (blk n (Ks.mk KS s)^blk b (qL v.c p l t v.n)^lst l v.lv^tree 8 t v.ks^All8 p v.fl) (fun r=>pur (r=fateF v s now) (blk n (Ks.mk KS (if fateF v s now=0 then drawn v s now else s))^blk b (qL v.c p l t v.n)^lst l v.lv^tree 8 t v.ks^All8 p v.fl)) :=
 tri_0 (call_fq_Queue_fate (some ⟨b,0⟩) (some ⟨n,0⟩) now) fun w0 S R h=>by
  unfold W_fq_Queue_fate
  have hH:U (cH v.c):=by have:=hv.cf.h;unfold U;omega
  refine w_drw h fun w h=>w_deref (w_deref (w_ld h rfl ⟨hs,w_ld h (qL_at _ _ _ _ _ _ (by omega)) ?_⟩))
  refine w_deref (w_ld h rfl (w_call (satadd_tri _ _ hn hH) h fun r w h=>?_))
  obtain ⟨hr,h⟩:=h.purP;rw [hr]
  refine w_join h (fun _=>blk n (Ks.mk KS s)^blk b (qL v.c p l t v.n)^lst l v.lv^tree 8 t v.ks^All8 p v.fl) (fun _=>fateF v s now=0) (fun _ w hx h=>?_) ?_
  ·refine w_deref (w_ld h rfl (w_deref ?_))
   refine w_setTo h n (Ks.mk KS (drawn v s now)) rfl rfl rfl fun w h=>?_
   refine Own.retP hx.symm ?_
   rw [if_pos hx]
   exact h.fin
  refine w_drw h fun w h=>w_deref (w_deref (w_ld h rfl (w_ld h rfl ?_)))
  refine w_ite (fun c=>?_) fun c1=>?_
  ·have c:v.n ≥ cL v.c:=by simpa using c
   have e:fateF v s now=2:=by unfold fateF;rw [if_pos c]
   refine Own.retP e.symm ?_
   rw [e,if_neg (by decide)];exact h.fin
  have c1:¬ v.n ≥ cL v.c:=by simpa using c1
  refine w_join h (fun _=>blk n (Ks.mk KS s)^blk b (qL v.c p l t v.n)^lst l v.lv^tree 8 t v.ks^All8 p v.fl) (fun y:Bool=>y=true↔∃ f,v.fl (sK s).toNat=some f∧(f.sg.length:Int) ≥ cW v.c) (fun y w hx h=>?_) ?_
  ·refine w_ite (fun c=>?_) fun c2=>?_
   ·have e:fateF v s now=3:=by unfold fateF;rw [if_neg c1,if_pos (hx.1 c)]
    refine Own.retP e.symm ?_
    rw [e,if_neg (by decide)];exact h.fin
   have c2:¬ ∃ f,v.fl (sK s).toNat=some f∧(f.sg.length:Int) ≥ cW v.c:=fun x=>by have:=hx.2 x;rw [c2] at this;cases this
   refine w_deref (w_ld h rfl ?_)
   refine w_ite (fun c=>?_) fun c3=>?_
   ·have c:sSt s > addI now (cH v.c):=by simpa using c
    refine w_deref (w_ld h rfl ?_)
    refine w_ite (fun c4=>?_) fun c4=>?_
    ·have e:fateF v s now=4:=by unfold fateF;rw [if_neg c1,if_neg c2,if_pos ⟨c,c4⟩]
     refine Own.retP e.symm ?_
     rw [e,if_neg (by decide)];exact h.fin
    ·exact ⟨by unfold fateF;rw [if_neg c1,if_neg c2,if_neg (fun x=>by rw [c4] at x;cases x.2)],h.fin⟩
   ·have c3:¬ sSt s > addI now (cH v.c):=by simpa using c3
    exact ⟨by unfold fateF;rw [if_neg c1,if_neg c2,if_neg (fun x=>c3 x.1)],h.fin⟩
  refine w_drw h fun w h=>?_
  cases hf:v.fl (sK s).toNat with
  | none =>
   rw [(h.noF p v.fl (i:=(sK s).toNat) (by omega) hf).1]
   refine w_ite (fun c=>(by simp at c)) fun _=>?_
   exact ⟨⟨fun e=>(by cases e),fun ⟨_,e,_⟩=>(by cases e)⟩,h.fin⟩
  | some f =>
   obtain ⟨a,hp,h⟩:=h.outF p v.fl (i:=(sK s).toNat) (by omega) hf
   rw [hp]
   refine w_ite (fun _=>?_) fun c=>(by simp at c)
   obtain ⟨s',h⟩:=h.flow a
   have hs':=(h.rd (s:=s')).2
   refine w_deref (w_deref (w_ld h rfl (w_ld h rfl ?_)))
   have h:=h.mkFlow a s' f
   have h:=h.inF p v.fl (i:=(sK s).toNat) (by omega) p v.fl a f (fun _ _=>rfl) (fun _ _=>rfl) hp hf
   refine ⟨?_,h.fin⟩
   show decide ((s'.len:Int) ≥ cW v.c)=true↔_
   rw [decide_eq_true_eq,hs']
   exact ⟨fun x=>⟨f,rfl,x⟩,fun ⟨g,hg,x⟩=>by cases hg;exact x⟩
theorem wake_eq {v:Qm} (hv:OkQ v) {i:Nat} (now:Int) (hi:plc v i≠0):(wakeF v i now).fl=v.fl∧(wakeF v i now).lv=v.lv:=by
 refine ⟨funext fun j=>?_,?_⟩
 ·by_cases e:j=i
  ·subst e
   show upF v.fl j _ j=_
   rw [upF_same]
   cases hf:v.fl j with
   | none =>
    refine absurd (plc_0.2 ⟨fun h=>?_,fun f h=>by rw [hf] at h;cases h⟩) hi
    obtain ⟨f,h2⟩:=hv.th j h
    rw [hf] at h2;cases h2
   | some f=>unfold woken;rw [hf];simp [hi]
  ·exact upF_ne _ _ e
 ·show wakeL v i=_
  unfold wakeL;rw [if_pos hi]
theorem wake_tri (b:Nat) (p:Nat→Option Pt) (l t:Nat) (v:Qm) (hv:OkQ v) (i now:Int) (hi:0≤i∧i < 8):Tri Tryz.prog N_fq_Queue_wake [.lf (.ptr (some ⟨b,0⟩)),.lf (.int .i64 i),.lf (.int .u64 now)] [] (blk b (qL v.c p l t v.n)^lst l v.lv^tree 8 t v.ks^All8 p v.fl) (fun _=>ex fun p:Nat→Option Pt=>blk b (qL ((wakeF v i.toNat now)).c p l t ((wakeF v i.toNat now)).n)^lst l ((wakeF v i.toNat now)).lv^tree 8 t ((wakeF v i.toNat now)).ks^All8 p ((wakeF v i.toNat now)).fl) :=
 tri_0 (call_fq_Queue_wake (some ⟨b,0⟩) i now) fun w0 S R h=>by
  unfold W_fq_Queue_wake
  have h8:i.toNat < 8:=by omega
  have hi':((i.toNat:Nat):Int)=i:=by omega
  have hl:=hv.lv.few
  have hb:∀ x:Option Pt,Nat.ble (0+9+i.toNat * 1+[Lf.ptr x].length) (qL v.c p l t v.n).length=true:=fun x=>Nat.ble_eq_true_of_le (by show 0+9+i.toNat * 1+1≤20;omega)
  refine w_deref ⟨hi,w_ld h (qL_at _ _ _ _ _ i.toNat h8) ?_⟩
  refine w_join h (fun _=>exq (fun x:(Nat→Option Pt) × Nat × Fl=>(x.1 i.toNat=some ⟨x.2.1,0⟩∧∀ j,j≠i.toNat→x.1 j=p j)∧{ x.2.2 with si:=0 }=woken v i.toNat now) (fun x=>blk b (qL v.c x.1 l t v.n)^lst l v.lv^tree 8 t v.ks^FqC.flow x.2.1 x.2.2^But8 p v.fl i.toNat)) (fun _=>plc v i.toNat=0) (fun _ w hx h=>?_) ?_
  ·obtain ⟨⟨q,a,g⟩,⟨⟨hq,hq2⟩,hg⟩,h⟩:=h.outq1
   dsimp only at hq hq2 hg h
   refine w_deref ⟨hi,w_ld h (qL_at _ _ _ _ _ i.toNat h8) ?_⟩
   dsimp only
   rw [hq]
   obtain ⟨s,h⟩:=h.flow a
   refine w_deref (w_setTo h a [.int .i64 g.cr,.int .u64 g.nx,.int .u64 0,.sl s] rfl rfl rfl fun w h=>?_)
   have h:=h.mkFl a s g.cr g.nx 0 g.sg { g with si:=0 } rfl
   refine w_deref (w_ld h rfl ?_)
   refine w_call (push_tri l v.lv i true (by omega)) h fun r w h=>?_
   obtain ⟨hr,h⟩:=h.purP
   have hw:wakeL v i.toNat=(pushF v.lv i true).2:=by unfold wakeL;rw [if_neg (by rw [hx];simp),hi']
   rw [← hw,hg] at h
   have h:=h.inF p v.fl (i:=i.toNat) h8 q (wakeF v i.toNat now).fl a (woken v i.toNat now) hq2 (fun j e=>upF_ne _ _ e) hq (upF_same _ _ _)
   exact Own.retE q h.fin
  cases hf:v.fl i.toNat with
  | none =>
   obtain ⟨hp,h⟩:=h.noF p v.fl h8 hf
   rw [hp]
   refine w_ite (fun _=>?_) fun c=>(by simp at c)
   refine w_drw h fun w h=>w_deref (w_deref (w_ld h rfl (w_new h fun n8 w h=>⟨hi,?_⟩)))
   refine w_setTo h b (qL v.c (upP p i.toNat (some ⟨n8,0⟩)) l t v.n) rfl (hb _) (qL_up _ _ _ _ _ i.toNat h8 _) fun w h=>?_
   have h:=h.nil KS
   have h:=h.mkFlow n8 ⟨none,0,0⟩ ⟨cF v.c,0,0,[]⟩
   have hp0:plc v i.toNat=0:=plc_0.2 ⟨fun h=>(by obtain ⟨f,h2⟩:=hv.th _ h;rw [hf] at h2;cases h2),fun f h=>(by rw [hf] at h;cases h)⟩
   refine ⟨hp0,(h.inq (f:=fun x:(Nat→Option Pt) × Nat × Fl=>blk b (qL v.c x.1 l t v.n)^lst l v.lv^tree 8 t v.ks^FqC.flow x.2.1 x.2.2^But8 p v.fl i.toNat) (upP p i.toNat (some ⟨n8,0⟩),n8,⟨cF v.c,0,0,[]⟩) ⟨⟨upP_same _ _ _,fun j e=>upP_ne _ _ e⟩,?_⟩).keep⟩
   unfold woken;rw [hf]
  | some f =>
   have hpn:(p i.toNat).isNone=false:=by rw [isN h p v.fl h8,hf];rfl
   refine w_ite (fun c=>(by rw [hpn] at c;cases c)) fun _=>?_
   refine w_call (placeI_tri b p l t v hv.lv i hi) h fun r w h=>?_
   obtain ⟨hr,h⟩:=h.purP;rw [hr]
   refine w_ite (fun c=>?_) fun c=>?_
   ·have c:plc v i.toNat≠0:=by simpa using c
    obtain ⟨e1,e2⟩:=wake_eq hv now c
    refine Own.retE p ?_
    rw [e1,e2]
    exact h.fin
   have c:plc v i.toNat=0:=by simpa using c
   refine w_call (idle_tri b p l t v hv.lv i 40000000 now hi (by unfold U;omega) (fun f hf=>(hv.fl _ f hf).2.si)) h fun r w h=>?_
   obtain ⟨hr,h⟩:=h.purP;rw [hr]
   obtain ⟨a,hp,h⟩:=h.outF p v.fl h8 hf
   rw [hp]
   refine w_ite (fun c2=>?_) fun c2=>?_
   ·obtain ⟨s,h⟩:=h.flow a
    refine w_drw h fun w h=>w_deref (w_deref (w_ld h rfl (w_ld h rfl (w_deref (w_setTo h a [.int .i64 (if cQ v.c > f.cr then cQ v.c else f.cr),.int .u64 f.nx,.int .u64 f.si,.sl s] rfl rfl rfl fun w h=>?_)))))
    have h:=h.mkFl a s (if cQ v.c > f.cr then cQ v.c else f.cr) f.nx f.si f.sg { f with cr:=if cQ v.c > f.cr then cQ v.c else f.cr } rfl
    refine ⟨c,(h.inq (f:=fun x:(Nat→Option Pt) × Nat × Fl=>blk b (qL v.c x.1 l t v.n)^lst l v.lv^tree 8 t v.ks^FqC.flow x.2.1 x.2.2^But8 p v.fl i.toNat) (p,a,{ f with cr:=if cQ v.c > f.cr then cQ v.c else f.cr }) ⟨⟨hp,fun j e=>rfl⟩,?_⟩).keep⟩
    unfold woken;rw [hf];simp [c,c2]
   ·refine ⟨c,(h.inq (f:=fun x:(Nat→Option Pt) × Nat × Fl=>blk b (qL v.c x.1 l t v.n)^lst l v.lv^tree 8 t v.ks^FqC.flow x.2.1 x.2.2^But8 p v.fl i.toNat) (p,a,f) ⟨⟨hp,fun j e=>rfl⟩,?_⟩).keep⟩
    unfold woken;rw [hf];simp [c,c2]
theorem enq_tri (b:Nat) (v:Qm) (hv:OkQ v) (s:Sg) (now:Int) (hs:U (sFr s)∧U (sSt s)) (hn:U now):Tri Tryz.prog N_fq_Queue_Enqueue [.lf (.ptr (some ⟨b,0⟩)),.agg (Ks.mk KS s),.lf (.int .u64 now)] [.lf (.int .i64),.lf (.int .i64)] (que b v) (fun r=>pur (r=(enqF v s now).1) (que b (enqF v s now).2)) :=
 tri_0 (call_fq_Queue_Enqueue (some ⟨b,0⟩) s now) fun w0 S R h=>by
  unfold W_fq_Queue_Enqueue
  refine w_new h fun n w h=>w_ite (fun c=>(by simp at c)) fun _=>w_ld h rfl (w_call (within_tri _ _ _) h fun r w h=>?_)
  obtain ⟨hr,h⟩:=h.purP;rw [hr]
  refine w_ite (fun c=>?_) fun c=>?_
  ·have c:¬ (0≤sK s∧sK s≤7):=by simpa only [Bool.not_eq_true',decide_eq_false_iff_not] using c
   have e:enqF v s now=((0,8),v):=by unfold enqF;rw [if_pos c]
   rw [e]
   exact Own.retP rfl h.fin
  have c1:0≤sK s∧sK s≤7:=by simpa using c
  refine w_ld h rfl (w_call (within_tri _ _ _) h fun r w h=>?_)
  obtain ⟨hr,h⟩:=h.purP;rw [hr]
  refine w_ite (fun c=>?_) fun c=>?_
  ·have c:¬ (1≤sLn s∧sLn s≤65536):=by simpa only [Bool.not_eq_true',decide_eq_false_iff_not] using c
   have e:enqF v s now=((0,1),v):=by unfold enqF;rw [if_neg (by simpa using c1),if_pos c]
   rw [e]
   exact Own.retP rfl h.fin
  have c2:1≤sLn s∧sLn s≤65536:=by simpa using c
  obtain ⟨p,l,t,h⟩:=h.que b
  refine w_call (collect_tri b p l t v hv now) h fun _ w h=>?_
  obtain ⟨p,h⟩:=h.exP
  have hc:=hv.collect now
  refine w_call (fate_tri b p l t (collectF v now) hc n s now (by omega) hn) h fun r w h=>?_
  obtain ⟨hr,h⟩:=h.purP;rw [hr]
  refine w_ite (fun c=>?_) fun c=>?_
  ·have c:fateF (collectF v now) s now=0:=by simpa using c
   have e:enqF v s now=((0,0),addS (wakeF (collectF v now) (sK s).toNat now) (sK s).toNat (drawn v s now)):=by unfold enqF;rw [if_neg (by simpa using c1),if_neg (by simpa using c2),if_pos c]
   rw [if_pos c] at h
   rw [e,c]
   have ed:drawn (collectF v now) s now=drawn v s now:=rfl
   rw [ed] at h
   have hnn:v.n < 512:=by
    unfold fateF at c
    split at c
    ·cases c
    ·rename_i h4
     have h5:=hc.cf.l
     have:¬ v.n ≥ cL v.c:=h4
     have h5:1≤cL v.c∧cL v.c≤512:=h5
     omega
   have hd:OkS (drawn v s now):=drawn_ok hv hs c2 hn
   refine w_ld h rfl (w_call (wake_tri b p l t (collectF v now) hc (sK s) now (by omega)) h fun _ w h=>?_)
   obtain ⟨p,h⟩:=h.exP
   have hw:(wakeF (collectF v now) (sK s).toNat now).fl (sK s).toNat=some (woken (collectF v now) (sK s).toNat now):=upF_same _ _ _
   have hlen:(woken (collectF v now) (sK s).toNat now).sg.length≤512:=by
    rw [woken_sg]
    cases hh:(collectF v now).fl (sK s).toNat with
    | none=>simp
    | some f=>exact (hc.len hh).2
   refine w_drw h fun w h=>w_ld h rfl (w_deref ⟨by show 0≤sK s∧sK s < 8;omega,w_ld h (qL_at _ _ _ _ _ (sK s).toNat (by omega)) ?_⟩)
   refine w_drw h fun w h=>w_ldAll (b:=n) (x:=drawn v s now) h rfl ?_
   obtain ⟨a,hp,h⟩:=h.outF p (wakeF (collectF v now) (sK s).toNat now).fl (i:=(sK s).toNat) (by omega) hw
   rw [hp]
   obtain ⟨g,hg⟩:∃ g,g=woken (collectF v now) (sK s).toNat now:=⟨_,rfl⟩
   rw [← hg] at h hlen
   obtain ⟨sl,h⟩:=h.flow a
   refine w_deref (w_ld h rfl (w_new h fun n16 w h=>w_chk h rfl ?_))
   have h:=h.blkArr n16 KS [drawn v s now] rfl (by simp)
   refine w_app (s:=sl) (x:=⟨some ⟨n16,0⟩,1,1⟩) (ys:=[drawn v s now]) h rfl (by show g.sg.length+1≤_;omega) fun s17 w _ h=>?_
   refine w_deref (w_setTo h a [.int .i64 g.cr,.int .u64 g.nx,.int .u64 g.si,.sl s17] rfl rfl rfl fun w h=>w_deref (w_ld h rfl (w_deref ?_)))
   have h:=h.mkFl a s17 g.cr g.nx g.si (g.sg++[drawn v s now]) { g with sg:=g.sg++[drawn v s now] } rfl
   have h:=h.inF p (wakeF (collectF v now) (sK s).toNat now).fl (i:=(sK s).toNat) (by omega) p (addS (wakeF (collectF v now) (sK s).toNat now) (sK s).toNat (drawn v s now)).fl a { g with sg:=g.sg++[drawn v s now] } (fun _ _=>rfl) (fun j e=>by
    rw [FqM.add_eq]
    exact (upF_ne _ _ e).trans (upF_ne (collectF v now).fl (some (woken (collectF v now) (sK s).toNat now)) e).symm) hp (by rw [FqM.add_eq,hg];exact upF_same _ _ _)
   have hnw:IntKind.i64.wrap (v.n+1)=v.n+1:=wi (by have:=hv.n0;omega) (by omega)
   refine w_set h rfl fun w h=>?_
   refine Own.retP rfl ?_
   have h:=h.blkEq (b:=b) (L':=qL v.c p l t (v.n+1)) (by rw [show qL v.c p l t (v.n+1)=qL v.c p l t (IntKind.i64.wrap (v.n+1)) by rw [hnw]];rfl)
   have h:Own w0 S R w (blk b (qL (addS (wakeF (collectF v now) (sK s).toNat now) (sK s).toNat (drawn v s now)).c p l t (addS (wakeF (collectF v now) (sK s).toNat now) (sK s).toNat (drawn v s now)).n)^lst l (addS (wakeF (collectF v now) (sK s).toNat now) (sK s).toNat (drawn v s now)).lv^tree 8 t (addS (wakeF (collectF v now) (sK s).toNat now) (sK s).toNat (drawn v s now)).ks^All8 p (addS (wakeF (collectF v now) (sK s).toNat now) (sK s).toNat (drawn v s now)).fl^emp):=by
    rw [FqM.add_eq] at h ⊢
    exact h.fin
   exact (h.mkQue b p l t (addS (wakeF (collectF v now) (sK s).toNat now) (sK s).toNat (drawn v s now))).keep
  ·have c:¬ fateF (collectF v now) s now=0:=by simpa using c
   have e:enqF v s now=((fateF (collectF v now) s now,0),collectF v now):=by unfold enqF;rw [if_neg (by simpa using c1),if_neg (by simpa using c2),if_neg c]
   rw [e]
   refine Own.retP rfl ?_
   exact (h.mkQue b p l t (collectF v now)).keep
end FqD

namespace FqE
open Arith ArithC Lists _root_.Go.X.Tree TreeC TreeD TreeE TreeF FqM FqC FqD
theorem time_tri (a:Nat) (f:Fl) (hf:f.sg≠[]):Tri Tryz.prog N_fq_flow_time [.lf (.ptr (some ⟨a,0⟩))] [.lf (.int .u64)] (FqC.flow a f) (fun r=>pur (r=timeF f) (FqC.flow a f)) :=
 tri_0 (call_fq_flow_time (some ⟨a,0⟩)) fun w0 S R h=>by
  unfold W_fq_flow_time
  obtain ⟨s,h⟩:=h.flow a
  cases hs:f.sg with
  | nil=>exact absurd hs hf
  | cons x l =>
   rw [hs] at h
   refine w_drw h fun w h=>w_deref (w_deref (w_ld h rfl (w_ld h rfl (w_idx (s:=s) h (by decide) (by simp) ?_))))
   refine w_ldA h s 0 3 x rfl rfl (by decide) rfl ?_
   have h:=h.mkFl a s f.cr f.nx f.si (x :: l) f (by rw [← hs])
   refine Own.retP ?_ h.fin
   unfold timeF;rw [hs]
theorem key_tri (a:Nat) (f:Fl) (hf:f.sg≠[]) (i:Int) (hi:0≤i∧i < 8):Tri Tryz.prog N_fq_key [.lf (.ptr (some ⟨a,0⟩)),.lf (.int .i64 i)] [.agg [.int .u64,.int .u64]] (FqC.flow a f) (fun r=>pur (r=(timeF f,i)) (FqC.flow a f)) :=
 tri_0 (call_fq_key (some ⟨a,0⟩) i) fun w0 S R h=>by
  unfold W_fq_key
  refine w_new h fun n w h=>w_call (time_tri a f hf) h fun r w h=>?_
  obtain ⟨hr,h⟩:=h.purP;rw [hr]
  refine w_setAll h (by rfl) fun w h=>w_ldAll (b:=n) (x:=(timeF f,IntKind.u64.wrap i)) h rfl ?_
  rw [wu (n:=i) (by omega) (by omega)]
  exact Own.retP rfl h.fin
theorem send_tri (b:Nat) (p:Nat→Option Pt) (l t:Nat) (v:Qm) (hc:OkC v.c) (hn:1≤v.n∧v.n≤512) (a:Nat) (f:Fl) (i:Nat) (hf:OkF i f) (s:Sg) (ss:List Sg) (hs:f.sg=s :: ss) (hl:f.sg.length≤512) (now rate:Int) (hw:U now) (hr:U rate) :
  Tri Tryz.prog N_fq_Queue_send [.lf (.ptr (some ⟨b,0⟩)),.lf (.ptr (some ⟨a,0⟩)),.lf (.int .u64 now),.lf (.int .u64 rate)] [.agg KS] (blk b (qL v.c p l t v.n)^FqC.flow a f)
   (fun r=>pur (r=s) (blk b (qL v.c p l t (v.n - 1))^FqC.flow a { f with cr:=f.cr - sLn s,nx:=addI now (delayI (sLn s) (lessI rate (cR v.c))),sg:=f.sg.tail })) :=
 tri_0 (call_fq_Queue_send (some ⟨b,0⟩) (some ⟨a,0⟩) now rate) fun w0 S R h=>by
  unfold W_fq_Queue_send
  obtain ⟨hok,hok2⟩:=hf.sg s (by rw [hs];simp)
  have hok3:=hok2.ln
  have hcr:=hf.cr
  have hL:U (lessI rate (cR v.c)):=U_less hr hc.r
  have hD:U (delayI (sLn s) (lessI rate (cR v.c))):=U_delay (by omega) hL
  obtain ⟨sl,h⟩:=h.flow a
  have hsl:=(h.rd (s:=sl)).2
  have hcap:=own_cap (s:=sl) (K:=KS) (xs:=f.sg) h
  have hsl':sl.len=ss.length+1:=by rw [hsl,hs];rfl
  refine w_new h fun n1 w h=>w_deref (w_ld h rfl (w_idx (s:=sl) h (by decide) (by rw [hs];simp) ?_))
  refine w_ldE h sl 0 (y:=s) (by rw [hs];rfl) rfl (w_new h fun n6 w h=>w_setAll h (by rfl) fun w h=>w_deref (w_ld h rfl ?_))
  refine w_slc (s:=sl) h 1 sl.len sl.cap rfl rfl rfl rfl (by omega) (by omega) (by omega) (by omega) fun s9 h1 h2 h=>?_
  have ht:(f.sg.take sl.len).drop 1=f.sg.tail:=by rw [List.take_of_length_le (by omega),List.drop_one]
  rw [ht] at h
  refine w_deref (w_setTo h a [.int .i64 f.cr,.int .u64 f.nx,.int .u64 f.si,.sl s9] rfl rfl rfl fun w h=>?_)
  have hnw:IntKind.i64.wrap (v.n - 1)=v.n - 1:=wi (by omega) (by omega)
  refine w_deref (w_ld h rfl (w_deref (w_setTo h b (qL v.c p l t (v.n - 1)) rfl rfl (by rw [show qL v.c p l t (v.n - 1)=qL v.c p l t (IntKind.i64.wrap (v.n - 1)) by rw [hnw]];rfl) fun w h=>?_)))
  have hcw:IntKind.i64.wrap (f.cr - sLn s)=f.cr - sLn s:=wi (by omega) (by omega)
  refine w_drw h fun w h=>w_deref (w_ld h rfl (w_ld h rfl (w_deref (w_setTo h a [.int .i64 (f.cr - sLn s),.int .u64 f.nx,.int .u64 f.si,.sl s9] rfl rfl (by rw [show ([.int .i64 (f.cr - sLn s),.int .u64 f.nx,.int .u64 f.si,.sl s9]:List Lf)=[.int .i64 (IntKind.i64.wrap (f.cr - sLn s)),.int .u64 f.nx,.int .u64 f.si,.sl s9] by rw [hcw]];rfl) fun w h=>?_))))
  refine w_drw h fun w h=>w_ld h rfl (w_deref (w_ld h rfl (w_call (less_tri rate (cR v.c) hr hc.r) h fun r w h=>?_)))
  obtain ⟨he,h⟩:=h.purP;rw [he]
  refine w_chk h rfl (w_call (delay_tri (sLn s) _ (by omega) hL) h fun r w h=>?_)
  obtain ⟨he,h⟩:=h.purP;rw [he]
  refine w_call (satadd_tri _ _ hw hD) h fun r w h=>?_
  obtain ⟨he,h⟩:=h.purP;rw [he]
  refine w_deref (w_setTo h a [.int .i64 (f.cr - sLn s),.int .u64 (addI now (delayI (sLn s) (lessI rate (cR v.c)))),.int .u64 f.si,.sl s9] rfl rfl rfl fun w h=>?_)
  have h:=h.mkFl a s9 (f.cr - sLn s) (addI now (delayI (sLn s) (lessI rate (cR v.c)))) f.si f.sg.tail { f with cr:=f.cr - sLn s,nx:=addI now (delayI (sLn s) (lessI rate (cR v.c))),sg:=f.sg.tail } rfl
  refine w_ldAll (b:=n6) (x:=s) h rfl (w_setAll h (by rfl) fun w h=>w_ldAll (b:=n1) (x:=s) h rfl ?_)
  exact Own.retP rfl h.fin
def hasF (v:Qm) (i:Int):Bool:=decide (0≤i∧i≤7) && (v.fl i.toNat).isSome
theorem has_tri (b:Nat) (p:Nat→Option Pt) (l t:Nat) (v:Qm) (i:Int):Tri Tryz.prog N_fq_Queue_has [.lf (.ptr (some ⟨b,0⟩)),.lf (.int .i64 i)] [.lf .bool] (blk b (qL v.c p l t v.n)^lst l v.lv^tree 8 t v.ks^All8 p v.fl) (fun r=>pur (r=hasF v i) (blk b (qL v.c p l t v.n)^lst l v.lv^tree 8 t v.ks^All8 p v.fl)) :=
 tri_0 (call_fq_Queue_has (some ⟨b,0⟩) i) fun w0 S R h=>by
  unfold W_fq_Queue_has hasF
  refine w_ite (fun _=>?_) fun c=>(by simp at c)
  refine w_call (within_tri _ _ _) h fun r w h=>?_
  obtain ⟨hr,h⟩:=h.purP;rw [hr]
  refine w_ite (fun c=>?_) fun c=>?_
  ·have c':0≤i∧i≤7:=of_decide_eq_true c
   refine w_deref ⟨by omega,w_ld h (qL_at _ _ _ _ _ i.toNat (by omega)) ?_⟩
   refine Own.retP ?_ h.fin
   rw [isN h p v.fl (i:=i.toNat) (by omega),decide_eq_true c']
   cases v.fl i.toNat<;>rfl
  ·refine Own.retP ?_ h.fin
   rw [show decide (0≤i∧i≤7)=false from c];rfl
theorem set_tri (b:Nat) (v:Qm) (c:Cf):Tri Tryz.prog N_fq_Queue_Set [.lf (.ptr (some ⟨b,0⟩)),.agg (Ks.mk KC c)] [.lf (.int .i64)] (que b v) (fun r=>pur (r=(setF v c).1) (que b (setF v c).2)) :=
 tri_0 (call_fq_Queue_Set (some ⟨b,0⟩) c) fun w0 S R h=>by
  unfold W_fq_Queue_Set setF
  refine w_new h fun n1 w h=>w_ite (fun c=>(by simp at c)) fun _=>w_ldAll (b:=n1) (x:=c) h rfl (w_call (may_tri c) h fun r w h=>?_)
  obtain ⟨hr,h⟩:=h.purP;rw [hr]
  refine w_ite (fun c1=>?_) fun c1=>?_
  ·rw [if_neg (by simpa using c1)]
   exact Own.retP rfl h.fin
  ·rw [if_pos (by simpa using c1)]
   obtain ⟨p,l,t,h⟩:=h.que b
   refine w_ldAll (b:=n1) (x:=c) h rfl (w_deref (w_setTo h b (qL c p l t v.n) rfl rfl rfl fun w h=>?_))
   exact Own.retP rfl (h.mkQue b p l t { v with c:=c }).fin
theorem new_tri (c:Cf):Tri Tryz.prog N_fq_New [.agg (Ks.mk KC c)] [.lf .ptr,.lf (.int .i64)] emp (fun r=>ex fun b:Nat=>pur (r=if may c then (some ⟨b,0⟩,0) else (none,13)) (if may c then que b (newF c) else emp)) :=
 tri_0 (call_fq_New c) fun w0 S R h=>by
  unfold W_fq_New
  refine w_new h fun n1 w h=>w_ldAll (b:=n1) (x:=c) h rfl (w_call (may_tri c) h fun r w h=>?_)
  obtain ⟨hr,h⟩:=h.purP;rw [hr]
  refine w_ite (fun c1=>?_) fun c1=>?_
  ·have c1:¬ may c=true:=by simpa using c1
   refine Own.retE 0 (Own.retP ?_ ?_)
   ·rw [if_neg c1]
   ·rw [if_neg c1];exact h.emp'
  ·have c1:may c=true:=by simpa using c1
   refine w_drw h fun w h=>w_ldAll (b:=n1) (x:=c) h rfl (w_call Lists.new_tri h fun r w h=>?_)
   obtain ⟨l,h⟩:=h.exP
   obtain ⟨hr,h⟩:=h.purP;rw [hr]
   refine w_chkAll (b:=n1) h (w_call (TreeC.new_tri 8) h fun r w h=>?_)
   obtain ⟨t,h⟩:=h.exP
   obtain ⟨hr,h⟩:=h.purP;rw [hr]
   refine w_chkAll (b:=n1) h (w_new h fun b w h=>?_)
   have hA:Own w0 S R w (All8 (fun _=>none) (fun _=>none)^tree 8 t []^lst l ([],[])^blk b (qL c (fun _=>none) l t 0)^emp):=by
    have h:Own w0 S R w (emp^emp^emp^emp^emp^emp^emp^emp^emp^tree 8 t []^lst l ([],[])^blk b (qL c (fun _=>none) l t 0)^emp):=by
     have h:Own w0 S R w (tree (room 8) t []^lst l ([],[])^blk b (qL c (fun _=>none) l t 0)^emp):=h.fin
     have hE:∀ {F:SP},Own w0 S R w F→Own w0 S R w (emp^F):=fun h=>h.le ((star_emp _).trans (star_comm _ _))
     exact hE (hE (hE (hE (hE (hE (hE (hE (hE h))))))))
    have hp:∀ {F:SP},Le (emp^F) (flowP none none^F):=star_mono (fun _ _ _ h=>⟨rfl,h⟩) Le.rfl
    have e:All8 (fun _=>none) (fun _=>none)=flowP none none^flowP none none^flowP none none^flowP none none^flowP none none^flowP none none^flowP none none^flowP none none^emp:=rfl
    rw [e]
    refine h.le (Le.trans ?_ (star_assoc' _ _ _))
    refine hp.trans (star_mono Le.rfl (Le.trans ?_ (star_assoc' _ _ _)))
    refine hp.trans (star_mono Le.rfl (Le.trans ?_ (star_assoc' _ _ _)))
    refine hp.trans (star_mono Le.rfl (Le.trans ?_ (star_assoc' _ _ _)))
    refine hp.trans (star_mono Le.rfl (Le.trans ?_ (star_assoc' _ _ _)))
    refine hp.trans (star_mono Le.rfl (Le.trans ?_ (star_assoc' _ _ _)))
    refine hp.trans (star_mono Le.rfl (Le.trans ?_ (star_assoc' _ _ _)))
    refine hp.trans (star_mono Le.rfl (Le.trans ?_ (star_assoc' _ _ _)))
    exact hp.trans (star_mono Le.rfl Le.rfl)
   refine Own.retE b (Own.retP ?_ ?_)
   ·rw [if_pos c1]
   ·rw [if_pos c1]
    exact (hA.mkQue b (fun _=>none) l t (newF c)).keep
theorem min_tri (b:Nat) (v:Qm):Tri Tryz.prog N_fq_Queue_Watchdog [.lf (.ptr (some ⟨b,0⟩))] [.lf (.int .u64),.lf .bool] (que b v) (fun r=>pur (r=((minF v.ks).1.1,(minF v.ks).2)) (que b v)) :=
 tri_0 (call_fq_Queue_Watchdog (some ⟨b,0⟩)) fun w0 S R h=>by
  unfold W_fq_Queue_Watchdog
  refine w_ite (fun c=>(by simp at c)) fun _=>?_
  obtain ⟨p,l,t,h⟩:=h.que b
  refine w_deref (w_ld h rfl (w_call (TreeF.min_tri t 8 v.ks) h fun r w h=>?_))
  obtain ⟨hr,h⟩:=h.purP;rw [hr]
  refine w_new h fun n w h=>w_setAll h (by rfl) fun w h=>w_ld h rfl ?_
  exact Own.retP rfl (h.mkQue b p l t v).fin
abbrev noF:Int × Int × Int × Int × Int × Sl:=(0,0,0,0,0,⟨none,0,0⟩)
theorem close_tri (b:Nat) (v:Qm) (hv:OkQ v) (i:Int):Tri Tryz.prog N_fq_Queue_Close [.lf (.ptr (some ⟨b,0⟩)),.lf (.int .i64 i)] [.lf .sl] (que b v) (fun r=>arr r KS (closeF v i).1^que b (closeF v i).2) :=
 tri_0 (call_fq_Queue_Close (some ⟨b,0⟩) i) fun w0 S R h=>by
  unfold W_fq_Queue_Close
  obtain ⟨p,l,t,h⟩:=h.que b
  refine w_call (has_tri b p l t v i) h fun r w h=>?_
  obtain ⟨hr,h⟩:=h.purP;rw [hr]
  refine w_ite (fun c=>?_) fun c=>?_
  ·have c:hasF v i=false:=by simpa using c
   have h:=(h.mkQue b p l t v).nil KS
   have e:closeF v i=([],v):=by
    unfold closeF
    split
    ·rfl
    ·rename_i hi
     have hi:0≤i∧i≤7:=Decidable.not_not.1 hi
     unfold hasF at c
     rw [decide_eq_true hi] at c
     cases hf:v.fl i.toNat with
     | none=>rfl
     | some f=>rw [hf] at c;cases c
   rw [e]
   exact h.fin
  ·have c:hasF v i=true:=by simpa using c
   unfold hasF at c
   simp only [Bool.and_eq_true,decide_eq_true_eq,Option.isSome_iff_exists] at c
   obtain ⟨hi,f,hf⟩:=c
   have hlen:=hv.len hf
   have hi8:i.toNat < 8:=by omega
   have hi':((i.toNat:Nat):Int)=i:=by omega
   have hl:=hv.lv.few
   have hn:=hv.le
   have hn0:=hv.n0
   refine w_deref ⟨by omega,w_ld h (qL_at _ _ _ _ _ i.toNat hi8) ?_⟩
   obtain ⟨a,hp,h⟩:=h.outF p v.fl hi8 hf
   rw [hp]
   refine w_join h (fun _=>blk b (qL v.c p l t v.n)^lst l v.lv^tree 8 t (closeF v i).2.ks^FqC.flow a f^But8 p v.fl i.toNat) (fun _=>True) (fun _ w _ h=>?_) ?_
   ·refine w_deref (w_ld h rfl (w_call (remove_tri l v.lv i (by omega)) h fun r w h=>?_))
    obtain ⟨_,h⟩:=h.purP
    rw [show (removeF v.lv i).2=outF v.lv i from rfl] at h
    refine w_deref ⟨by omega,?_⟩
    refine w_setTo h b (qL v.c (upP p i.toNat none) l t v.n) rfl (Nat.ble_eq_true_of_le (by show 0+9+i.toNat * 1+1≤20;omega)) (qL_up _ _ _ _ _ i.toNat hi8 none) fun w h=>?_
    obtain ⟨s,h⟩:=h.flow a
    have hs:=(h.rd (s:=s)).2
    have hnw:IntKind.i64.wrap (v.n - ((s.len:Nat):Int))=v.n - f.sg.length:=by rw [hs];exact wi (by omega) (by omega)
    refine w_drw h fun w h=>w_deref (w_deref (w_ld h rfl (w_ld h rfl (w_deref ?_))))
    refine w_setTo h b (qL v.c (upP p i.toNat none) l t (v.n - f.sg.length)) rfl rfl (by rw [← hnw];rfl) fun w h=>?_
    refine w_deref (w_ld h rfl ?_)
    refine w_callL (clone_tri s f.sg (by omega)) h fun s2 w h=>?_
    have h:=h.inN p v.fl hi8 (upP p i.toNat none) (upF v.fl i.toNat none) (fun j e=>upP_ne _ _ e) (fun j e=>upF_ne _ _ e) (upP_same _ _ _) (upF_same _ _ _)
    have e:closeF v i=(f.sg,{ v with fl:=upF v.fl i.toNat none,lv:=outF v.lv i,ks:=(closeF v i).2.ks,n:=v.n - f.sg.length }):=by
     unfold closeF
     rw [if_neg (fun x=>x hi),hf]
    have h:=h.mkQue b (upP p i.toNat none) l t { v with fl:=upF v.fl i.toNat none,lv:=outF v.lv i,ks:=(closeF v i).2.ks,n:=v.n - f.sg.length }
    rw [← show (closeF v i).2={ v with fl:=upF v.fl i.toNat none,lv:=outF v.lv i,ks:=(closeF v i).2.ks,n:=v.n - f.sg.length } from congrArg Prod.snd e] at h
    have e1:(closeF v i).1=f.sg:=congrArg Prod.fst e
    rw [e1]
    exact h.fin
   ·obtain ⟨s,h⟩:=h.flow a
    refine w_call (placeO_tri b p l t v hv.lv i (by omega) a s f hf hp) h fun r w h=>?_
    obtain ⟨hr,h⟩:=h.purP;rw [hr]
    have h:=h.mkFlow a s f
    have ek:(closeF v i).2.ks=if plc v i.toNat=3 then v.ks.erase (timeF f,i) else v.ks:=by
     unfold closeF
     rw [if_neg (fun x=>x hi),hf]
    rw [ek]
    refine w_ite (fun c=>?_) fun c=>?_
    ·have c:plc v i.toNat=3:=by simpa using c
     obtain ⟨h3,g,hg,hg2⟩:=plc_3.1 c
     rw [hf] at hg
     cases hg
     have hk:(timeF f,i)∈v.ks:=(hv.ks _).2 ⟨i.toNat,f,hf,hg2,h3,by rw [hi']⟩
     refine w_drw h fun w h=>w_deref (w_ld h rfl (w_call (key_tri a f hg2 i (by omega)) h fun r w h=>?_))
     obtain ⟨hr,h⟩:=h.purP;rw [hr]
     refine w_chk h rfl (w_call (delete_tri t 8 v.ks (timeF f,i)) h fun r w h=>?_)
     obtain ⟨_,h⟩:=h.purP
     rw [if_pos c]
     have ed:delK v.ks (timeF f,i)=(0,v.ks.erase (timeF f,i)):=by unfold delK;rw [if_pos hk]
     rw [ed] at h
     exact ⟨trivial,h.fin⟩
    ·have c:¬ plc v i.toNat=3:=by simpa using c
     rw [if_neg c]
     exact ⟨trivial,h.fin⟩
end FqE

namespace FqG
open Arith ArithC Lists _root_.Go.X.Tree TreeC TreeD TreeE TreeF FqM FqC FqD FqE
theorem tw_take {α:Type} {p:α→Bool}:∀ {l:List α} {i:Nat},(∀ j x,j < i→l[j]?=some x→p x=true)→(∀ x,l[i]?=some x→p x=false)→l.takeWhile p=l.take i
 | [],i,_,_=>by simp
 | x :: l,0,_,h=>by rw [List.takeWhile_cons,if_neg (by rw [h x rfl];simp)];rfl
 | x :: l,i+1,h1,h2=>by
  rw [List.takeWhile_cons,if_pos (h1 0 x (by omega) rfl),List.take_succ_cons,tw_take (fun j y hj hy=>h1 (j+1) y (by omega) hy) h2]
theorem take_up {α:Type} {l:List α} {i:Nat} {x:α} (h:l[i]?=some x):l.take (i+1)=l.take i++[x]:=by rw [List.take_add_one,h];rfl
theorem old_tri (b:Nat) (p:Nat→Option Pt) (l t:Nat) (c:Cf) (n:Int) (v:LV) (hv:okL v) (hn:v.1≠[]):Tri Tryz.prog N_fq_Queue_old [.lf (.ptr (some ⟨b,0⟩))] [.lf .bool] (blk b (qL c p l t n)^lst l v) (fun r=>pur (r=decide (v.2≠[])) (blk b (qL c p l t n)^lst l v)) :=
 tri_n (W:=fun n R=>W_fq_Queue_old n (some ⟨b,0⟩) R) (call_fq_Queue_old _) fun w S R h=>by
  unfold W_fq_Queue_old
  have hfew:=hv.few
  refine w_new h fun n1 w h=>w_deref (w_ld h rfl (w_call (Lists.all_tri _) h fun f w h=>?_))
  obtain ⟨m,h⟩:=h.exP
  obtain ⟨hf,h⟩:=h.purP
  rw [hf]
  have h:=(h.take (blk n1 [.bool false])).toPur (p:=∀ j y,j < 0→(allF v)[j]?=some y→y.2=true) (fun j y hj=>by omega)
  refine w_range (Lists.all_iter m l v (by omega)) (fun i=>pur (∀ j y,j < i→(allF v)[j]?=some y→y.2=true) (blk n1 [.bool false])) (fun j=>pur (j=1∧v.2≠[]) (blk n1 [.bool true])) h ?_ ?_ ?_
  ·rintro i (x:Int × Bool) hx w S R mid next jump rdy bsy hmid hnext hjump h
   refine hmid h fun w h=>?_
   have h:=h.take (pur (∀ j y,j < i→(allF v)[j]?=some y→y.2=true) (blk n1 [.bool false]))
   obtain ⟨hno,h⟩:=h.purP
   refine w_ite (fun c=>?_) fun c=>?_
   ·have c:x.2=false:=by simpa using c
    have h2:v.2≠[]:=fun e=>by
     rcases allF_fst hx with ⟨_,_,h3⟩ | ⟨_,h3,_⟩
     ·rw [c] at h3;cases h3
     ·rw [e] at h3;simp at h3
    refine w_setTo h n1 [.bool true] rfl rfl rfl fun w h=>?_
    have h:=(h.take (blk n1 [.bool true])).toPur (p:=1=1∧v.2≠[]) ⟨rfl,h2⟩
    exact hjump 1 (by decide) h
   ·have c:x.2=true:=by simpa using c
    have h:=(h.take (blk n1 [.bool false])).toPur (p:=∀ j y,j < i+1→(allF v)[j]?=some y→y.2=true) (fun j y hj hy=>by
     by_cases hji:j=i
     ·rw [hji,hx] at hy;cases hy;exact c
     ·exact hno j y (by omega) hy)
    exact hnext h
  ·intro w h
   have h:=h.take (pur (∀ j y,j < (allF v).length→(allF v)[j]?=some y→y.2=true) (blk n1 [.bool false]))
   obtain ⟨hno,h⟩:=h.purP
   have h2:v.2=[]:=by
    cases h3:v.2 with
    | nil=>rfl
    | cons x r =>
     have:=hno v.1.length (x,false) (by rw [allF_len,h3];simp) (by unfold allF;rw [h3];simp)
     cases this
   refine w_setTo h n1 [.bool false] rfl rfl rfl fun w h=>?_
   refine w_ld h rfl (w_leave h fun w h=>?_)
   exact Own.retP (by rw [h2];simp) h.fin
  ·intro j w hj h
   have h:=h.take (pur (j=1∧v.2≠[]) (blk n1 [.bool true]))
   obtain ⟨⟨hj1,h2⟩,h⟩:=h.purP
   rw [hj1]
   refine w_ld h rfl (w_leave h fun w h=>?_)
   exact Own.retP (by simp [h2]) h.fin
theorem due_tri (b:Nat) (p:Nat→Option Pt) (l t:Nat) (v:Qm) (hv:OkQ v) (now:Int):Tri Tryz.prog N_fq_Queue_due [.lf (.ptr (some ⟨b,0⟩)),.lf (.int .u64 now)] [] (blk b (qL v.c p l t v.n)^lst l v.lv^tree 8 t v.ks) (fun _=>blk b (qL v.c p l t v.n)^lst l (dueF v now).lv^tree 8 t (dueF v now).ks) :=
 tri_n (W:=fun n R=>W_fq_Queue_due n (some ⟨b,0⟩) now R) (call_fq_Queue_due _ _) fun w0 S R h=>by
  unfold W_fq_Queue_due
  have hkk:=hv.keys
  have hfew:v.ks.length≤8:=by
   have:=nodup_few 8 _ hkk.1 fun x hx=>(hkk.2 x hx).1
   simpa using this
  have hdl:(dueK v now).length≤8:=Nat.le_trans (List.takeWhile_prefix _).length_le hfew
  refine w_new h fun n1 w h=>w_new h fun n2 w h=>?_
  refine w_join h (fun _=>ex fun s:Sl=>blk n1 [.int .u64 now]^blk n2 [.sl s]^arr s KR (dueK v now)^blk b (qL v.c p l t v.n)^lst l v.lv^tree 8 t v.ks) (fun _=>True) (fun _ w _ h=>?_) ?_
  ·obtain ⟨s,h⟩:=(h.le (star_emp _)).exP
   have hs:=(h.rd (s:=s)).2
   refine w_ld h rfl ?_
   have hsplit:v.ks=dueK v now++v.ks.dropWhile (fun k=>decide (k.1≤now)):=List.takeWhile_append_dropWhile.symm
   have h:Own w0 S R w (blk n1 [.int .u64 now]^blk n2 [.sl s]^arr s KR (dueK v now)^blk b (qL v.c p l t v.n)^lst l (v.lv.1,v.lv.2++((dueK v now).take (0:Int).toNat).map Prod.snd)^tree 8 t ((dueK v now).drop (0:Int).toNat++v.ks.dropWhile (fun k=>decide (k.1≤now)))):=by
    have e:((dueK v now).drop (0:Int).toNat++v.ks.dropWhile (fun k=>decide (k.1≤now)))=v.ks:=hsplit.symm
    have e2:(v.lv.1,v.lv.2++((dueK v now).take (0:Int).toNat).map Prod.snd)=v.lv:=by simp
    rw [e,e2]
    exact h.fin
   refine w_loop (fun y:Int=>blk n1 [.int .u64 now]^blk n2 [.sl s]^arr s KR (dueK v now)^blk b (qL v.c p l t v.n)^lst l (v.lv.1,v.lv.2++((dueK v now).take y.toNat).map Prod.snd)^tree 8 t ((dueK v now).drop y.toNat++v.ks.dropWhile (fun k=>decide (k.1≤now)))) (fun y:Int=>0≤y∧y≤(dueK v now).length) (fun y:Int=>((dueK v now).length - y).toNat) h ⟨by decide,by show (0:Int)≤_;omega⟩ ?_
   ·rintro (y:Int) w hy h
    have hyw:IntKind.i64.wrap (y+1)=y+1:=wi (by omega) (by omega)
    refine w_ite (fun c=>?_) fun c=>?_
    ·have c:y < (s.len:Int):=by simpa using c
     obtain ⟨k,hk⟩:∃ k,(dueK v now)[y.toNat]?=some k:=⟨_,List.getElem?_eq_getElem (by omega)⟩
     refine w_idx (s:=s) h hy.1 (by omega) (w_ldE h s y.toNat hk rfl ?_)
     refine w_new h fun n25 w h=>w_setAll h (by rfl) fun w h=>w_drw h fun w h=>w_ldAll (b:=n25) (x:=k) h rfl ?_
     have hd:(dueK v now).drop y.toNat=k :: (dueK v now).drop (y.toNat+1):=drop_at hk
     have hdel:delK ((dueK v now).drop y.toNat++v.ks.dropWhile (fun k=>decide (k.1≤now))) k=(0,(dueK v now).drop (y.toNat+1)++v.ks.dropWhile (fun k=>decide (k.1≤now))):=by
      rw [hd]
      unfold delK
      rw [if_pos (by simp),List.cons_append,List.erase_cons_head]
     refine w_deref (w_ld h rfl (w_call (delete_tri t 8 ((dueK v now).drop y.toNat++v.ks.dropWhile (fun k=>decide (k.1≤now))) k) h fun r w h=>?_))
     obtain ⟨_,h⟩:=h.purP
     rw [hdel] at h
     have hkm:k∈v.ks:=by rw [hsplit,List.mem_append];exact .inl (List.mem_of_getElem? hk)
     have hk8:=hkk.2 k.2 (List.mem_map.2 ⟨k,hkm,rfl⟩)
     have hkw:IntKind.i64.wrap k.2=k.2:=wi (by omega) (by omega)
     refine w_drw h fun w h=>w_deref (w_ld h rfl (w_ld h rfl ?_))
     rw [hkw]
     have hpl:((dueK v now).take y.toNat).length≤8:=by rw [List.length_take];omega
     have hvf:=hv.lv.few
     refine w_call (push_tri l (v.lv.1,v.lv.2++((dueK v now).take y.toNat).map Prod.snd) k.2 false (by simp only [List.length_append,List.length_map];omega)) h fun r w h=>?_
     obtain ⟨_,h⟩:=h.purP
     have hp:(pushF (v.lv.1,v.lv.2++((dueK v now).take y.toNat).map Prod.snd) k.2 false).2=(v.lv.1,v.lv.2++((dueK v now).take (y.toNat+1)).map Prod.snd):=by
      have hnin:placeF (v.lv.1,v.lv.2++((dueK v now).take y.toNat).map Prod.snd) k.2=0:=by
       rw [placeF_0]
       intro hin
       rw [← List.append_assoc,List.mem_append] at hin
       rcases hin with hin | hin
       ·exact hk8.2 hin
       ·have hnd:=hkk.1
        rw [hsplit,List.map_append,List.nodup_append] at hnd
        have hnd:=hnd.1
        rw [← List.take_append_drop y.toNat (dueK v now),List.map_append,List.nodup_append,hd] at hnd
        exact hnd.2.2 _ hin _ (by simp) rfl
      rw [pushF,if_neg (by omega),if_neg (by rw [hnin];simp),if_neg (by simp),take_up hk]
      simp
     rw [hp] at h
     have e:(y+1).toNat=y.toNat+1:=by omega
     rw [hyw,e]
     exact ⟨⟨by omega,h.fin⟩,by omega⟩
    ·have c:¬ y < (s.len:Int):=by simpa using c
     have e1:(dueK v now).take y.toNat=dueK v now:=List.take_of_length_le (by omega)
     have e2:(dueK v now).drop y.toNat=[]:=List.drop_of_length_le (by omega)
     rw [e1,e2,List.nil_append] at h
     refine w_leave h fun w h=>?_
     exact h.fin
  ·refine w_deref (w_ld h rfl (w_call (TreeF.all_tri _) h fun f w h=>?_))
   obtain ⟨m,h⟩:=h.exP
   obtain ⟨hf,h⟩:=h.purP
   rw [hf]
   have h:=(h.nil KR).arrEq (s:=⟨none,0,0⟩) (K:=KR) (ys:=v.ks.take 0) rfl
   have h0:∀ j x,j < 0→v.ks[j]?=some x→decide (x.1≤now)=true:=fun j x hj=>by omega
   have h:=(h.take (blk n1 [.int .u64 now]^blk n2 [.sl ⟨none,0,0⟩]^arr ⟨none,0,0⟩ KR (v.ks.take 0)))
   have h:=h.inq (f:=fun s:Sl=>blk n1 [.int .u64 now]^blk n2 [.sl s]^arr s KR (v.ks.take 0)) (φ:=fun _=>∀ j x,j < 0→v.ks[j]?=some x→decide (x.1≤now)=true) ⟨none,0,0⟩ h0
   refine w_range (TreeF.all_iter m t 8 v.ks) (fun i=>exq (fun _:Sl=>∀ j x,j < i→v.ks[j]?=some x→decide (x.1≤now)=true) (fun s:Sl=>blk n1 [.int .u64 now]^blk n2 [.sl s]^arr s KR (v.ks.take i))) (fun j=>exq (fun _:Sl=>j=2) (fun s:Sl=>blk n1 [.int .u64 now]^blk n2 [.sl s]^arr s KR (dueK v now))) h ?_ ?_ ?_
   ·rintro i (x:Key) hx w S R mid next jump rdy bsy hmid hnext hjump h
    have hi:i < v.ks.length:=(List.getElem?_eq_some_iff.1 hx).1
    refine w_new h fun n12 w h=>w_setAll h (by rfl) fun w h=>hmid h fun w h=>?_
    have h:=h.take (exq (fun _:Sl=>∀ j x,j < i→v.ks[j]?=some x→decide (x.1≤now)=true) (fun s:Sl=>blk n1 [.int .u64 now]^blk n2 [.sl s]^arr s KR (v.ks.take i)))
    obtain ⟨s,hno,h⟩:=h.outq
    refine w_ld h rfl (w_ld h rfl (w_ite (fun c=>?_) fun c=>?_))
    ·have c:x.1 > now:=by simpa using c
     have e:dueK v now=v.ks.take i:=tw_take hno fun y hy=>by rw [hx] at hy;cases hy;simp;omega
     rw [← e] at h
     have h:=h.inq (f:=fun s:Sl=>blk n1 [.int .u64 now]^blk n2 [.sl s]^arr s KR (dueK v now)) (φ:=fun _=>2=2) s rfl
     exact hjump 2 (by decide) h
    ·have c:¬ x.1 > now:=by simpa using c
     refine w_ld h rfl (w_ldAll (b:=n12) (x:=x) h rfl (w_new h fun n17 w h=>?_))
     have h:=h.blkArr n17 KR [x] rfl (by simp)
     refine w_app (s:=s) (x:=⟨some ⟨n17,0⟩,1,1⟩) (ys:=[x]) h rfl (by rw [List.length_take];simp;omega) fun s18 w _ h=>?_
     refine w_setTo h n2 [.sl s18] rfl rfl rfl fun w h=>?_
     have h:=h.arrEq (s:=s18) (K:=KR) (ys:=v.ks.take (i+1)) (take_up hx).symm
     have h:=h.inq (f:=fun s:Sl=>blk n1 [.int .u64 now]^blk n2 [.sl s]^arr s KR (v.ks.take (i+1))) (φ:=fun _=>∀ j x,j < i+1→v.ks[j]?=some x→decide (x.1≤now)=true) s18 (fun j y hj hy=>by
      by_cases hji:j=i
      ·rw [hji,hx] at hy;cases hy;simp;omega
      ·exact hno j y (by omega) hy)
     exact hnext h
   ·intro w h
    have h:=h.take (exq (fun _:Sl=>∀ j x,j < v.ks.length→v.ks[j]?=some x→decide (x.1≤now)=true) (fun s:Sl=>blk n1 [.int .u64 now]^blk n2 [.sl s]^arr s KR (v.ks.take v.ks.length)))
    obtain ⟨s,hno,h⟩:=h.outq
    have e:dueK v now=v.ks.take v.ks.length:=tw_take hno fun y hy=>by simp at hy
    rw [← e] at h
    exact ⟨trivial,Own.retE s h.fin⟩
   ·intro j w hj h
    have h:=h.take (exq (fun _:Sl=>j=2) (fun s:Sl=>blk n1 [.int .u64 now]^blk n2 [.sl s]^arr s KR (dueK v now)))
    obtain ⟨s,hj1,h⟩:=h.outq
    rw [hj1]
    exact ⟨trivial,Own.retE s h.fin⟩
theorem split_head {v:LV} (hv:okL v) (hh:(headF v).2.2=true):(∃ a,v.1=(headF v).1 :: a∧(headF v).2.1=true∧(backF v).2=(a,v.2++[(headF v).1])∧(dropF v).2=(a,v.2)) ∨
  ∃ c,v.1=[]∧v.2=(headF v).1 :: c∧(headF v).2.1=false∧(backF v).2=([],c++[(headF v).1])∧(dropF v).2=([],c):=by
 obtain ⟨a,c⟩:=v
 have hf:∀ (x:Int) (l:List Int),x ∉ l→l.filter (fun y=>decide (y≠x))=l:=fun x l hx=>by
  rw [List.filter_eq_self]
  intro y hy
  have:y≠x:=fun e=>hx (e ▸ hy)
  simpa using this
 have hf2:∀ (x:Int) (l:List Int),x ∉ l→(x :: l).filter (fun y=>decide (y≠x))=l:=fun x l hx=>by
  rw [List.filter_cons,if_neg (by simp),hf x l hx]
 cases a with
 | cons x a =>
  left
  have hn:x ∉ a++c:=(List.nodup_cons.1 hv.1).1
  rw [List.mem_append] at hn
  refine ⟨a,rfl,rfl,?_,?_⟩
  ·unfold backF outF;rw [if_pos hh]
   show (((x :: a).filter (fun y=>decide (y≠x))),c.filter (fun y=>decide (y≠x))++[x])=(a,c++[x])
   rw [hf2 x a fun e=>hn (.inl e),hf x c fun e=>hn (.inr e)]
  ·unfold dropF outF;rw [if_pos hh]
   show (((x :: a).filter (fun y=>decide (y≠x))),c.filter (fun y=>decide (y≠x)))=(a,c)
   rw [hf2 x a fun e=>hn (.inl e),hf x c fun e=>hn (.inr e)]
 | nil=>cases c with
  | nil=>cases hh
  | cons x c =>
   right
   have hn:x ∉ c:=(List.nodup_cons.1 hv.1).1
   refine ⟨c,rfl,rfl,rfl,?_,?_⟩
   ·unfold backF outF;rw [if_pos hh]
    show (([]:List Int).filter (fun y=>decide (y≠x)),(x :: c).filter (fun y=>decide (y≠x))++[x])=([],c++[x])
    rw [hf2 x c hn];rfl
   ·unfold dropF outF;rw [if_pos hh]
    show (([]:List Int).filter (fun y=>decide (y≠x)),(x :: c).filter (fun y=>decide (y≠x)))=([],c)
    rw [hf2 x c hn];rfl
abbrev wt (fl:Nat→Option Fl) (L:List Int):Nat:=(L.map fun x=>crw (fl x.toNat)+1).sum
theorem wt_cons (fl:Nat→Option Fl) (x:Int) (L:List Int):wt fl (x :: L)=crw (fl x.toNat)+1+wt fl L:=by simp [wt]
theorem wt_app (fl:Nat→Option Fl) (L M:List Int):wt fl (L++M)=wt fl L+wt fl M:=by simp [wt]
theorem wt_up (fl:Nat→Option Fl) {i:Nat} (x:Option Fl) {L:List Int} (h:(i:Int) ∉ L) (h0:∀ y∈L,0≤y):wt (upF fl i x) L=wt fl L:=by
 unfold wt
 congr 1
 refine List.map_congr_left fun y hy=>?_
 have:y≠(i:Int):=fun e=>h (e ▸ hy)
 have:=h0 y hy
 rw [upF_ne _ _ (show y.toNat≠i by omega)]
theorem mu_eq (v:Qm):mu v=wt v.fl (v.lv.1++v.lv.2)+v.lv.1.length:=rfl
section
variable {v : Qm} {i : Nat} {f : Fl}
theorem at_parts (h:AtH v i f):(∃ a,v.lv.1=(i:Int) :: a∧(headF v.lv).2.1=true∧(backF v.lv).2=(a,v.lv.2++[(i:Int)])∧(dropF v.lv).2=(a,v.lv.2)∧(i:Int) ∉ a++v.lv.2∧∀ y∈a++v.lv.2,0≤y) ∨
  ∃ c,v.lv.1=[]∧v.lv.2=(i:Int) :: c∧(headF v.lv).2.1=false∧(backF v.lv).2=([],c++[(i:Int)])∧(dropF v.lv).2=([],c)∧(i:Int) ∉ c∧∀ y∈c,0≤y:=by
 have hs:=split_head h.ok.lv h.is
 rw [h.hd] at hs
 obtain ⟨hd,hr⟩:=h.ok.lv
 rcases hs with ⟨a,h1,h2,h3,h4⟩ | ⟨c,h1,h2,h3,h4,h5⟩
 ·rw [h1] at hd hr
  exact .inl ⟨a,h1,h2,h3,h4,(List.nodup_cons.1 hd).1,fun y hy=>(hr y (List.mem_cons_of_mem _ hy)).1⟩
 ·rw [h1,h2] at hd hr
  exact .inr ⟨c,h1,h2,h3,h4,h5,(List.nodup_cons.1 hd).1,fun y hy=>(hr y (List.mem_cons_of_mem _ hy)).1⟩
theorem at_mu_credit (h:AtH v i f) (hc:f.cr≤0):mu { v with fl:=upF v.fl i (some { f with cr:=f.cr+cQ v.c }),lv:=(backF v.lv).2 } < mu v:=by
 have hq:=h.ok.cf.q
 have e1:crw (v.fl i)=(1 - f.cr).toNat:=by rw [h.fl];rfl
 have e2:crw (upF v.fl i (some { f with cr:=f.cr+cQ v.c }) i)=(1 - (f.cr+cQ v.c)).toNat:=by rw [upF_same];rfl
 rw [mu_eq,mu_eq]
 dsimp only
 rcases at_parts h with ⟨a,h1,_,h3,_,h5,h6⟩ | ⟨c,h1,h2,_,h3,_,h5,h6⟩
 ·rw [h3,h1,← List.append_assoc,List.cons_append,wt_cons,wt_app,wt_up _ _ h5 h6,wt_cons,Int.toNat_natCast,e1,e2]
  simp only [List.length_cons,wt,List.map_nil,List.sum_nil]
  omega
 ·rw [h3,h1,h2,List.nil_append,List.nil_append,wt_app,wt_up _ _ h5 h6,wt_cons,wt_cons,Int.toNat_natCast,e1,e2]
  simp only [wt,List.map_nil,List.sum_nil,List.length_nil]
  omega
theorem at_mu_back (h:AtH v i f) (ht:(headF v.lv).2.1=true):mu { v with lv:=(backF v.lv).2 } < mu v:=by
 rw [mu_eq,mu_eq]
 dsimp only
 rcases at_parts h with ⟨a,h1,_,h3,_⟩ | ⟨c,_,_,h4,_⟩
 ·rw [h3,h1,← List.append_assoc,List.cons_append,wt_cons,wt_app,wt_cons]
  simp only [List.length_cons,wt,List.map_nil,List.sum_nil]
  omega
 ·rw [h4] at ht;cases ht
theorem at_mu_drop (h:AtH v i f) (x:Option Fl) (ks:List Key):mu { v with fl:=upF v.fl i x,lv:=(dropF v.lv).2,ks:=ks } < mu v:=by
 rw [mu_eq,mu_eq]
 dsimp only
 rcases at_parts h with ⟨a,h1,_,_,h3,h5,h6⟩ | ⟨c,h1,h2,_,_,h3,h5,h6⟩
 ·rw [h3,h1,List.cons_append,wt_cons,wt_up _ _ h5 h6]
  simp only [List.length_cons]
  omega
 ·rw [h3,h1,h2,List.nil_append,List.nil_append,wt_up _ _ h5 h6,wt_cons]
  simp only [List.length_nil]
  omega
theorem upF_id {x:Option Fl} (h:v.fl i=x):upF v.fl i x=v.fl:=by
 funext j
 by_cases e:j=i
 ·rw [e,upF_same,h]
 ·exact upF_ne _ _ e
theorem heads_at (h:AtH v i f) (now:Int) (rates:List Int) (k:Nat):heads now rates (k+1) v =
  if f.cr≤0 then heads now rates k { v with fl:=upF v.fl i (some { f with cr:=f.cr+cQ v.c }),lv:=(backF v.lv).2 }
   else match f.sg with
    | []=>if (headF v.lv).2.1=true∧v.lv.2≠[] then heads now rates k { v with lv:=(backF v.lv).2 }
     else heads now rates k { v with lv:=(dropF v.lv).2,fl:=upF v.fl i (some { f with si:=now }) }
    | s :: _=>if timeF f > now then heads now rates k { v with lv:=(dropF v.lv).2,ks:=putK v.ks (timeF f,(i:Int)) }
     else (some s,sentF v i f s now (rateA rates i)):=by
 have hm:=headF_mem h.is
 cases e:v.lv.1++v.lv.2 with
 | nil=>rw [e] at hm;cases hm
 | cons x l =>
  have e2:v.fl (headF v.lv).1.toNat=some f:=by rw [h.hd,Int.toNat_natCast];exact h.fl
  rw [heads,e,e2]
  simp only [h.hd,Int.toNat_natCast]
  rfl
end
theorem heads_no {v:Qm} (h:(headF v.lv).2.2=false) (now:Int) (rates:List Int) (k:Nat):heads now rates (k+1) v=(none,v):=by
 have e:=head_no h
 rw [heads,e];rfl
abbrev noS:Sg:=(0,0,0,0,false)
abbrev zS:List Lf:=[.int .i64 0,.int .u64 0,.int .i64 0,.int .u64 0,.bool false]
def outS:Option Sg→Sg × Bool
 | none=>(noS,false)
 | some s=>(s,true)
theorem U_rateA {rates:List Int} (hr:∀ x∈rates,U x) (i:Nat):U (rateA rates i):=by
 unfold rateA
 split
 ·rename_i h;exact hr _ (List.mem_of_getElem? h)
 ·exact ⟨by decide,by decide⟩
theorem deq_tri (b:Nat) (v:Qm) (hv:OkQ v) (now:Int) (hn:U now) (s:Sl) (rates:List Int) (hr:∀ x∈rates,U x):Tri Tryz.prog N_fq_Queue_Dequeue [.lf (.ptr (some ⟨b,0⟩)),.lf (.int .u64 now),.lf (.sl s)] [.agg KS,.lf .bool]
  (que b v^rarr s KU rates) (fun r=>pur (r=outS (deqF v now rates).1) (que b (deqF v now rates).2)) :=
 tri_0 (call_fq_Queue_Dequeue (some ⟨b,0⟩) now s) fun w0 S R h=>by
  unfold W_fq_Queue_Dequeue
  obtain ⟨p,l,t,h⟩:=h.que b
  refine w_new h fun n1 w h=>w_ite (fun c=>(by simp at c)) fun _=>?_
  refine w_call (due_tri b p l t v hv now) h fun _ w h=>?_
  have h:Own w0 S R w (blk n1 zS^rarr s KU rates^blk b (qL ((dueF v now)).c p l t ((dueF v now)).n)^lst l ((dueF v now)).lv^tree 8 t ((dueF v now)).ks^All8 p ((dueF v now)).fl):=h.fin
  refine w_loopE (fun (_:Unit) (u:Qm)=>blk n1 zS^rarr s KU rates^blk b (qL u.c p l t u.n)^lst l u.lv^tree 8 t u.ks^All8 p u.fl) (fun _ u=>OkQ u∧∃ k,mu u < k∧heads now rates k u=deqF v now rates) (fun _ u=>mu u) (dueF v now) h ⟨hv.due now,_,Nat.lt_succ_self _,rfl⟩ ?_
  rintro K (y:Unit) u w ⟨hu,k,hk,hR⟩ h next
  have hslen:=(h.rd (s:=s)).2
  have hl:=hu.lv.few
  cases k with
  | zero=>omega
  | succ k =>
  refine w_deref (w_ld h rfl (w_call (Lists.head_tri l u.lv (by omega)) h fun r w h=>?_))
  obtain ⟨hr2,h⟩:=h.purP;rw [hr2]
  cases hh:(headF u.lv).2.2 with
  | false =>
   rw [heads_no hh] at hR
   refine w_ite (fun _=>?_) fun c=>(by simp at c)
   refine w_setAll h (by rfl) fun w h=>w_ldAll (b:=n1) (x:=noS) h rfl ?_
   rw [← hR]
   exact Own.retP rfl (h.mkQue b p l t u).fin
  | true =>
   refine w_ite (fun c=>(by simp at c)) fun _=>?_
   have hm:=headF_mem hh
   have hx:=hu.lv.2 _ hm
   obtain ⟨i,hi⟩:∃ i:Nat,(headF u.lv).1=(i:Int):=⟨(headF u.lv).1.toNat,by omega⟩
   obtain ⟨f,hf⟩:=hu.th i (by rw [hi] at hm;exact hm)
   have hA:AtH u i f:=⟨hu,hi,hh,hf⟩
   have hi8:=hA.lt
   have hF:=(hu.fl i f hf).2
   have hcr:=hF.cr
   have hq:=hu.cf.q
   rw [heads_at hA] at hR
   have hit:((i:Nat):Int).toNat=i:=Int.toNat_natCast i
   rw [hi]
   refine w_deref ⟨by omega,?_⟩
   rw [hit]
   refine w_ld h (qL_at _ _ _ _ _ i hi8) ?_
   obtain ⟨a,hp,h⟩:=h.outF p u.fl hi8 hf
   rw [hp]
   obtain ⟨sl,h⟩:=h.flow a
   have hsl:=(h.rd (s:=sl)).2
   refine w_deref (w_ld h rfl (w_ite (fun c=>?_) fun c=>?_))
   ·have c:f.cr≤0:=by simpa using c
    rw [if_pos c] at hR
    have hcw:IntKind.i64.wrap (f.cr+cQ u.c)=f.cr+cQ u.c:=wi (by omega) (by omega)
    refine w_drw h fun w h=>w_deref (w_deref (w_ld h rfl (w_ld h rfl (w_deref ?_))))
    refine w_setTo h a [.int .i64 (f.cr+cQ u.c),.int .u64 f.nx,.int .u64 f.si,.sl sl] rfl rfl (by rw [show ([.int .i64 (f.cr+cQ u.c),.int .u64 f.nx,.int .u64 f.si,.sl sl]:List Lf)=[.int .i64 (IntKind.i64.wrap (f.cr+cQ u.c)),.int .u64 f.nx,.int .u64 f.si,.sl sl] by rw [hcw]];rfl) fun w h=>?_
    refine w_deref (w_ld h rfl (w_call (back_tri l u.lv hu.lv) h fun r w h=>?_))
    obtain ⟨_,h⟩:=h.purP
    have h:=h.mkFl a sl (f.cr+cQ u.c) f.nx f.si f.sg { f with cr:=f.cr+cQ u.c } rfl
    have h:=h.inF p u.fl hi8 p (upF u.fl i (some { f with cr:=f.cr+cQ u.c })) a { f with cr:=f.cr+cQ u.c } (fun _ _=>rfl) (fun j e=>upF_ne _ _ e) hp (upF_same _ _ _)
    have hmu:=at_mu_credit hA c
    exact next () { u with fl:=upF u.fl i (some { f with cr:=f.cr+cQ u.c }),lv:=(backF u.lv).2 } w ⟨hA.credit c,k,by omega,hR⟩ h.fin hmu
   have c:¬ f.cr≤0:=by simpa using c
   rw [if_neg c] at hR
   refine w_join h (fun _=>blk n1 zS^rarr s KU rates^blk b (qL u.c p l t u.n)^lst l u.lv^tree 8 t u.ks^But8 p u.fl i^blk a [.int .i64 f.cr,.int .u64 f.nx,.int .u64 f.si,.sl sl]^arr sl KS f.sg) (fun y:Bool=>y=true↔f.sg=[]∧((headF u.lv).2.1=true∧u.lv.2≠[])) (fun (y:Bool) w hy h=>?_) ?_
   ·refine w_ite (fun c2=>?_) fun c2=>?_
    ·obtain ⟨e1,e2⟩:=hy.1 c2
     rw [e1] at hR
     simp only at hR
     rw [if_pos e2] at hR
     refine w_deref (w_ld h rfl (w_call (back_tri l u.lv hu.lv) h fun r w h=>?_))
     obtain ⟨_,h⟩:=h.purP
     have h:=h.mkFlow a sl f
     have h:=h.inF p u.fl hi8 p u.fl a f (fun _ _=>rfl) (fun _ _=>rfl) hp hf
     have hmu:=at_mu_back hA e2.1
     exact next () { u with lv:=(backF u.lv).2 } w ⟨hA.back,k,by omega,hR⟩ h.fin hmu
    have c2:¬ (f.sg=[]∧((headF u.lv).2.1=true∧u.lv.2≠[])):=fun x=>by have:=hy.2 x;rw [c2] at this;cases this
    refine w_deref (w_ld h rfl (w_ite (fun c3=>?_) fun c3=>?_))
    ·have c3:sl.len=0:=by
      have c3:(sl.len:Int)=0:=by simpa using c3
      omega
     have e1:f.sg=[]:=List.eq_nil_of_length_eq_zero (by omega)
     rw [e1] at hR
     simp only at hR
     rw [if_neg (fun x=>c2 ⟨e1,x⟩)] at hR
     refine w_deref (w_ld h rfl (w_call (Lists.drop_tri l u.lv (by omega)) h fun r w h=>?_))
     obtain ⟨_,h⟩:=h.purP
     refine w_deref (w_setTo h a [.int .i64 f.cr,.int .u64 f.nx,.int .u64 now,.sl sl] rfl rfl rfl fun w h=>?_)
     have h:=h.mkFl a sl f.cr f.nx now f.sg { f with si:=now } rfl
     have h:=h.inF p u.fl hi8 p (upF u.fl i (some { f with si:=now })) a { f with si:=now } (fun _ _=>rfl) (fun j e=>upF_ne _ _ e) hp (upF_same _ _ _)
     have hmu:=at_mu_drop hA (some { f with si:=now }) u.ks
     exact next () { u with lv:=(dropF u.lv).2,fl:=upF u.fl i (some { f with si:=now }) } w ⟨hA.nowhere e1 hn,k,by omega,by rw [e1];exact hR⟩ h.fin hmu
    have c3:sl.len≠0:=by
     have c3:¬ (sl.len:Int)=0:=by simpa using c3
     omega
    have e1:f.sg≠[]:=fun e=>by rw [e] at hsl;exact c3 (by simpa using hsl)
    cases hss:f.sg with
    | nil=>exact absurd hss e1
    | cons s0 ss =>
    rw [hss] at hR
    simp only at hR
    have h:=h.mkFlow a sl f
    refine w_call (time_tri a f e1) h fun r w h=>?_
    obtain ⟨hr3,h⟩:=h.purP;rw [hr3]
    refine w_ite (fun c4=>?_) fun c4=>?_
    ·have c4:timeF f > now:=by simpa using c4
     rw [if_pos c4] at hR
     obtain ⟨hOk,hnin,hlt⟩:=hA.wait e1
     refine w_deref (w_ld h rfl (w_call (Lists.drop_tri l u.lv (by omega)) h fun r w h=>?_))
     obtain ⟨_,h⟩:=h.purP
     refine w_drw h fun w h=>w_deref (w_ld h rfl (w_call (key_tri a f e1 i (by omega)) h fun r w h=>?_))
     obtain ⟨hr4,h⟩:=h.purP;rw [hr4]
     refine w_chk h rfl (w_call (insert_tri t 8 u.ks (timeF f,(i:Int))) h fun r w h=>?_)
     obtain ⟨_,h⟩:=h.purP
     have ei:insK 8 u.ks (timeF f,(i:Int))=(0,putK u.ks (timeF f,(i:Int))):=by
      unfold insK;rw [if_neg hnin,if_neg (by omega)]
     rw [ei] at h
     have h:=h.inF p u.fl hi8 p u.fl a f (fun _ _=>rfl) (fun _ _=>rfl) hp hf
     have hmu:=at_mu_drop hA (some f) (putK u.ks (timeF f,(i:Int)))
     rw [upF_id hf] at hmu
     exact next () { u with lv:=(dropF u.lv).2,ks:=putK u.ks (timeF f,(i:Int)) } w ⟨hOk,k,by omega,hR⟩ h.fin hmu
    have c4:¬ timeF f > now:=by simpa using c4
    rw [if_neg c4] at hR
    have hlen:=hu.len hf
    have hlen1:1≤f.sg.length:=by rw [hss];simp
    have hle:=hu.le
    have hUr:=U_rateA hr i
    have hsent:=hA.sent hss (by omega) hn (U_delay (by have:=(hF.sg s0 (by rw [hss];simp)).2.ln;omega) (U_less hUr hu.cf.r))
    refine w_join h (fun _=>blk n1 zS^rarr s KU rates^blk b (qL u.c p l t u.n)^lst l u.lv^tree 8 t u.ks^But8 p u.fl i^FqC.flow a f) (fun y:Int=>y=rateA rates i) (fun (y:Int) w hy h=>?_) ?_
    ·rw [hy]
     refine w_call (send_tri b p l t u hu.cf (by omega) a f i hF s0 ss hss (by omega) now (rateA rates i) hn hUr) h fun r w h=>?_
     obtain ⟨hr5,h⟩:=h.purP;rw [hr5]
     refine w_setAll h (by rfl) fun w h=>w_ldAll (b:=n1) (x:=s0) h rfl ?_
     have h:=h.inF p u.fl hi8 p (sentF u i f s0 now (rateA rates i)).fl a { f with cr:=f.cr - sLn s0,nx:=addI now (delayI (sLn s0) (lessI (rateA rates i) (cR u.c))),sg:=f.sg.tail } (fun _ _=>rfl) (fun j e=>upF_ne _ _ e) hp (upF_same _ _ _)
     rw [← hR]
     exact Own.retP rfl (h.mkQue b p l t (sentF u i f s0 now (rateA rates i))).fin
    ·refine w_ite (fun c5=>?_) fun c5=>?_
     ·have c5:(i:Int) < s.len:=by simpa using c5
      obtain ⟨x,hx⟩:∃ x,rates[i]?=some x:=⟨_,List.getElem?_eq_getElem (by omega)⟩
      refine w_idx (s:=s) h (by omega) (by omega) ?_
      refine w_ldE h s i (y:=x) hx (by rw [hit];rfl) ?_
      refine ⟨?_,h.fin⟩
      show x=rateA rates i
      unfold rateA;rw [hx]
     ·have c5:¬ (i:Int) < s.len:=by simpa using c5
      refine ⟨?_,h.fin⟩
      show (18446744073709551615:Int)=rateA rates i
      unfold rateA;rw [List.getElem?_eq_none (by omega)]
   ·refine w_deref (w_ld h rfl (w_ite (fun c2=>?_) fun c2=>?_))
    ·simp only [Bool.and_eq_true,beq_iff_eq] at c2
     obtain ⟨c2,c3⟩:=c2
     have c2:sl.len=0:=by have c2:(sl.len:Int)=0:=c2;omega
     have e1:f.sg=[]:=List.eq_nil_of_length_eq_zero (by omega)
     have hne:u.lv.1≠[]:=by
      rcases at_parts hA with ⟨a',h1,_⟩ | ⟨c',_,_,h4,_⟩
      ·rw [h1];simp
      ·rw [c3] at h4;cases h4
     refine w_call (old_tri b p l t u.c u.n u.lv hu.lv hne) h fun r w h=>?_
     obtain ⟨hr3,h⟩:=h.purP;rw [hr3]
     refine ⟨?_,h.fin⟩
     show decide (u.lv.2≠[])=true↔_
     rw [decide_eq_true_eq]
     exact ⟨fun x=>⟨e1,c3,x⟩,fun x=>x.2.2⟩
    ·refine ⟨?_,h.fin⟩
     refine ⟨fun e=>(by cases e),fun ⟨e1,e2,_⟩=>?_⟩
     rw [e1] at hsl
     have:sl.len=0:=by simpa using hsl
     rw [e2,this] at c2
     cases c2
end FqG

namespace FqH
open Arith ArithC Lists _root_.Go.X.Tree TreeC TreeD TreeE TreeF FqM FqC FqD FqE FqG
abbrev plainC:Cf:=(3000,15000,100,50,10000000000,0,false,100000,1000)
theorem plain_tri:Tri Tryz.prog N_canterref20_Plain [] [.agg KC] emp (fun r=>pur (r=plainC) emp) :=
 tri_0 call_canterref20_Plain fun w0 S R h=>by
  unfold W_canterref20_Plain
  refine w_new h fun n1 w h=>w_setAll h (by rfl) fun w h=>w_ldAll (b:=n1) (x:=plainC) h rfl ?_
  exact Own.retP rfl h.emp'
end FqH

namespace FqI
open Arith ArithC Lists _root_.Go.X.Tree TreeC TreeD TreeE TreeF FqM FqC FqD FqE FqG FqH
def configF (d:Cf):Cf:=((if 100≤cQ d∧cQ d≤65536 then cQ d else 3000),(if 100≤cF d∧cF d≤65536 then cF d else 15000),(if 1≤cL d∧cL d≤512 then cL d else 100),(if 1≤cW d∧cW d≤512 then cW d else 50),(if cH d≤4611686018427387904 then cH d else 10000000000),(cR d),(cD d),(if 1≤cCap d∧cCap d≤1073741824 then cCap d else 100000),(if 100≤cMss d∧cMss d≤9000 then cMss d else 1000))
abbrev zC:List Lf:=[.int .i64 0,.int .i64 0,.int .i64 0,.int .i64 0,.int .u64 0,.int .u64 0,.bool false,.int .i64 0,.int .i64 0]
theorem config_tri (d:Cf):Tri Tryz.prog N_canterplay_Config [.agg (Ks.mk KC d)] [.agg KC] emp (fun r=>pur (r=configF d) emp) :=
 tri_0 (call_canterplay_Config d) fun w0 S R h=>by
  unfold W_canterplay_Config
  refine w_new h fun n1 w h=>w_new h fun n2 w h=>w_call plain_tri h fun r w h=>?_
  obtain ⟨hr,h⟩:=h.purP;rw [hr]
  refine w_new h fun n4 w h=>w_setAll h (by rfl) fun w h=>?_
  have h:=h.blkEq (b:=n4) (L':=[.int .i64 3000,.int .i64 15000,.int .i64 100,.int .i64 50,.int .u64 10000000000,.int .u64 0,.bool false,.int .i64 100000,.int .i64 1000]) rfl
  have h:=h.blkEq (b:=n4) (L':=[.int .i64 3000,.int .i64 15000,.int .i64 100,.int .i64 50,.int .u64 10000000000,.int .u64 0,.bool false,.int .i64 100000,.int .i64 1000]) rfl
  have h:Own w0 S R w (blk n1 (Ks.mk KC d)^blk n2 zC^blk n4 [.int .i64 3000,.int .i64 15000,.int .i64 100,.int .i64 50,.int .u64 10000000000,.int .u64 0,.bool false,.int .i64 100000,.int .i64 1000]):=h.fin
  refine w_join h (fun _:Unit=>blk n1 (Ks.mk KC d)^blk n2 zC^blk n4 [.int .i64 (if 100≤cQ d∧cQ d≤65536 then cQ d else 3000),.int .i64 15000,.int .i64 100,.int .i64 50,.int .u64 10000000000,.int .u64 0,.bool false,.int .i64 100000,.int .i64 1000]) (fun _=>True) ?_ ?_
  rotate_left
  ·refine w_join h (fun _:Bool=>blk n1 (Ks.mk KC d)^blk n2 zC^blk n4 [.int .i64 3000,.int .i64 15000,.int .i64 100,.int .i64 50,.int .u64 10000000000,.int .u64 0,.bool false,.int .i64 100000,.int .i64 1000]) (fun y:Bool=>y=decide (100≤cQ d∧cQ d≤65536)) (fun y w hy h=>?_) ?_
   ·rw [hy]
    refine w_ite (fun c=>?_) fun c=>?_
    ·have c:=of_decide_eq_true c
     refine w_ld h rfl (w_setTo h n4 [.int .i64 (if 100≤cQ d∧cQ d≤65536 then cQ d else 3000),.int .i64 15000,.int .i64 100,.int .i64 50,.int .u64 10000000000,.int .u64 0,.bool false,.int .i64 100000,.int .i64 1000] rfl rfl (by rw [if_pos c];rfl) fun w h=>⟨trivial,h.fin⟩)
    ·have c:=of_decide_eq_false c
     have h:=h.blkEq (b:=n4) (L':=[.int .i64 (if 100≤cQ d∧cQ d≤65536 then cQ d else 3000),.int .i64 15000,.int .i64 100,.int .i64 50,.int .u64 10000000000,.int .u64 0,.bool false,.int .i64 100000,.int .i64 1000]) (by rw [if_neg c])
     exact ⟨trivial,h.fin⟩
   ·refine w_ld h rfl (w_ite (fun c=>w_ld h rfl ⟨?_,h.fin⟩) fun c=>⟨?_,h.fin⟩)
    ·have c:cQ d ≥ 100:=by simpa using c
     show decide (cQ d≤65536)=_
     rw [decide_eq_decide];exact ⟨fun x=>⟨c,x⟩,fun x=>x.2⟩
    ·have c:¬ cQ d ≥ 100:=by simpa using c
     exact (decide_eq_false fun x=>c x.1).symm
  rintro - w - h
  refine w_join h (fun _:Unit=>blk n1 (Ks.mk KC d)^blk n2 zC^blk n4 [.int .i64 (if 100≤cQ d∧cQ d≤65536 then cQ d else 3000),.int .i64 (if 100≤cF d∧cF d≤65536 then cF d else 15000),.int .i64 100,.int .i64 50,.int .u64 10000000000,.int .u64 0,.bool false,.int .i64 100000,.int .i64 1000]) (fun _=>True) ?_ ?_
  rotate_left
  ·refine w_join h (fun _:Bool=>blk n1 (Ks.mk KC d)^blk n2 zC^blk n4 [.int .i64 (if 100≤cQ d∧cQ d≤65536 then cQ d else 3000),.int .i64 15000,.int .i64 100,.int .i64 50,.int .u64 10000000000,.int .u64 0,.bool false,.int .i64 100000,.int .i64 1000]) (fun y:Bool=>y=decide (100≤cF d∧cF d≤65536)) (fun y w hy h=>?_) ?_
   ·rw [hy]
    refine w_ite (fun c=>?_) fun c=>?_
    ·have c:=of_decide_eq_true c
     refine w_ld h rfl (w_setTo h n4 [.int .i64 (if 100≤cQ d∧cQ d≤65536 then cQ d else 3000),.int .i64 (if 100≤cF d∧cF d≤65536 then cF d else 15000),.int .i64 100,.int .i64 50,.int .u64 10000000000,.int .u64 0,.bool false,.int .i64 100000,.int .i64 1000] rfl rfl (by rw [if_pos c];rfl) fun w h=>⟨trivial,h.fin⟩)
    ·have c:=of_decide_eq_false c
     have h:=h.blkEq (b:=n4) (L':=[.int .i64 (if 100≤cQ d∧cQ d≤65536 then cQ d else 3000),.int .i64 (if 100≤cF d∧cF d≤65536 then cF d else 15000),.int .i64 100,.int .i64 50,.int .u64 10000000000,.int .u64 0,.bool false,.int .i64 100000,.int .i64 1000]) (by rw [if_neg c])
     exact ⟨trivial,h.fin⟩
   ·refine w_ld h rfl (w_ite (fun c=>w_ld h rfl ⟨?_,h.fin⟩) fun c=>⟨?_,h.fin⟩)
    ·have c:cF d ≥ 100:=by simpa using c
     show decide (cF d≤65536)=_
     rw [decide_eq_decide];exact ⟨fun x=>⟨c,x⟩,fun x=>x.2⟩
    ·have c:¬ cF d ≥ 100:=by simpa using c
     exact (decide_eq_false fun x=>c x.1).symm
  rintro - w - h
  refine w_join h (fun _:Unit=>blk n1 (Ks.mk KC d)^blk n2 zC^blk n4 [.int .i64 (if 100≤cQ d∧cQ d≤65536 then cQ d else 3000),.int .i64 (if 100≤cF d∧cF d≤65536 then cF d else 15000),.int .i64 (if 1≤cL d∧cL d≤512 then cL d else 100),.int .i64 50,.int .u64 10000000000,.int .u64 0,.bool false,.int .i64 100000,.int .i64 1000]) (fun _=>True) ?_ ?_
  rotate_left
  ·refine w_join h (fun _:Bool=>blk n1 (Ks.mk KC d)^blk n2 zC^blk n4 [.int .i64 (if 100≤cQ d∧cQ d≤65536 then cQ d else 3000),.int .i64 (if 100≤cF d∧cF d≤65536 then cF d else 15000),.int .i64 100,.int .i64 50,.int .u64 10000000000,.int .u64 0,.bool false,.int .i64 100000,.int .i64 1000]) (fun y:Bool=>y=decide (1≤cL d∧cL d≤512)) (fun y w hy h=>?_) ?_
   ·rw [hy]
    refine w_ite (fun c=>?_) fun c=>?_
    ·have c:=of_decide_eq_true c
     refine w_ld h rfl (w_setTo h n4 [.int .i64 (if 100≤cQ d∧cQ d≤65536 then cQ d else 3000),.int .i64 (if 100≤cF d∧cF d≤65536 then cF d else 15000),.int .i64 (if 1≤cL d∧cL d≤512 then cL d else 100),.int .i64 50,.int .u64 10000000000,.int .u64 0,.bool false,.int .i64 100000,.int .i64 1000] rfl rfl (by rw [if_pos c];rfl) fun w h=>⟨trivial,h.fin⟩)
    ·have c:=of_decide_eq_false c
     have h:=h.blkEq (b:=n4) (L':=[.int .i64 (if 100≤cQ d∧cQ d≤65536 then cQ d else 3000),.int .i64 (if 100≤cF d∧cF d≤65536 then cF d else 15000),.int .i64 (if 1≤cL d∧cL d≤512 then cL d else 100),.int .i64 50,.int .u64 10000000000,.int .u64 0,.bool false,.int .i64 100000,.int .i64 1000]) (by rw [if_neg c])
     exact ⟨trivial,h.fin⟩
   ·refine w_ld h rfl (w_ite (fun c=>w_ld h rfl ⟨?_,h.fin⟩) fun c=>⟨?_,h.fin⟩)
    ·have c:cL d ≥ 1:=by simpa using c
     show decide (cL d≤512)=_
     rw [decide_eq_decide];exact ⟨fun x=>⟨c,x⟩,fun x=>x.2⟩
    ·have c:¬ cL d ≥ 1:=by simpa using c
     exact (decide_eq_false fun x=>c x.1).symm
  rintro - w - h
  refine w_join h (fun _:Unit=>blk n1 (Ks.mk KC d)^blk n2 zC^blk n4 [.int .i64 (if 100≤cQ d∧cQ d≤65536 then cQ d else 3000),.int .i64 (if 100≤cF d∧cF d≤65536 then cF d else 15000),.int .i64 (if 1≤cL d∧cL d≤512 then cL d else 100),.int .i64 (if 1≤cW d∧cW d≤512 then cW d else 50),.int .u64 10000000000,.int .u64 0,.bool false,.int .i64 100000,.int .i64 1000]) (fun _=>True) ?_ ?_
  rotate_left
  ·refine w_join h (fun _:Bool=>blk n1 (Ks.mk KC d)^blk n2 zC^blk n4 [.int .i64 (if 100≤cQ d∧cQ d≤65536 then cQ d else 3000),.int .i64 (if 100≤cF d∧cF d≤65536 then cF d else 15000),.int .i64 (if 1≤cL d∧cL d≤512 then cL d else 100),.int .i64 50,.int .u64 10000000000,.int .u64 0,.bool false,.int .i64 100000,.int .i64 1000]) (fun y:Bool=>y=decide (1≤cW d∧cW d≤512)) (fun y w hy h=>?_) ?_
   ·rw [hy]
    refine w_ite (fun c=>?_) fun c=>?_
    ·have c:=of_decide_eq_true c
     refine w_ld h rfl (w_setTo h n4 [.int .i64 (if 100≤cQ d∧cQ d≤65536 then cQ d else 3000),.int .i64 (if 100≤cF d∧cF d≤65536 then cF d else 15000),.int .i64 (if 1≤cL d∧cL d≤512 then cL d else 100),.int .i64 (if 1≤cW d∧cW d≤512 then cW d else 50),.int .u64 10000000000,.int .u64 0,.bool false,.int .i64 100000,.int .i64 1000] rfl rfl (by rw [if_pos c];rfl) fun w h=>⟨trivial,h.fin⟩)
    ·have c:=of_decide_eq_false c
     have h:=h.blkEq (b:=n4) (L':=[.int .i64 (if 100≤cQ d∧cQ d≤65536 then cQ d else 3000),.int .i64 (if 100≤cF d∧cF d≤65536 then cF d else 15000),.int .i64 (if 1≤cL d∧cL d≤512 then cL d else 100),.int .i64 (if 1≤cW d∧cW d≤512 then cW d else 50),.int .u64 10000000000,.int .u64 0,.bool false,.int .i64 100000,.int .i64 1000]) (by rw [if_neg c])
     exact ⟨trivial,h.fin⟩
   ·refine w_ld h rfl (w_ite (fun c=>w_ld h rfl ⟨?_,h.fin⟩) fun c=>⟨?_,h.fin⟩)
    ·have c:cW d ≥ 1:=by simpa using c
     show decide (cW d≤512)=_
     rw [decide_eq_decide];exact ⟨fun x=>⟨c,x⟩,fun x=>x.2⟩
    ·have c:¬ cW d ≥ 1:=by simpa using c
     exact (decide_eq_false fun x=>c x.1).symm
  rintro - w - h
  refine w_join h (fun _:Unit=>blk n1 (Ks.mk KC d)^blk n2 zC^blk n4 [.int .i64 (if 100≤cQ d∧cQ d≤65536 then cQ d else 3000),.int .i64 (if 100≤cF d∧cF d≤65536 then cF d else 15000),.int .i64 (if 1≤cL d∧cL d≤512 then cL d else 100),.int .i64 (if 1≤cW d∧cW d≤512 then cW d else 50),.int .u64 (if cH d≤4611686018427387904 then cH d else 10000000000),.int .u64 0,.bool false,.int .i64 100000,.int .i64 1000]) (fun _=>True) ?_ ?_
  rotate_left
  ·refine w_ld h rfl (w_ite (fun c=>?_) fun c=>?_)
   ·have c:cH d≤4611686018427387904:=by simpa using c
    refine w_ld h rfl (w_setTo h n4 [.int .i64 (if 100≤cQ d∧cQ d≤65536 then cQ d else 3000),.int .i64 (if 100≤cF d∧cF d≤65536 then cF d else 15000),.int .i64 (if 1≤cL d∧cL d≤512 then cL d else 100),.int .i64 (if 1≤cW d∧cW d≤512 then cW d else 50),.int .u64 (if cH d≤4611686018427387904 then cH d else 10000000000),.int .u64 0,.bool false,.int .i64 100000,.int .i64 1000] rfl rfl (by rw [if_pos c];rfl) fun w h=>⟨trivial,h.fin⟩)
   ·have c:¬ cH d≤4611686018427387904:=by simpa using c
    have h:=h.blkEq (b:=n4) (L':=[.int .i64 (if 100≤cQ d∧cQ d≤65536 then cQ d else 3000),.int .i64 (if 100≤cF d∧cF d≤65536 then cF d else 15000),.int .i64 (if 1≤cL d∧cL d≤512 then cL d else 100),.int .i64 (if 1≤cW d∧cW d≤512 then cW d else 50),.int .u64 (if cH d≤4611686018427387904 then cH d else 10000000000),.int .u64 0,.bool false,.int .i64 100000,.int .i64 1000]) (by rw [if_neg c])
    exact ⟨trivial,h.fin⟩
  rintro - w - h
  refine w_join h (fun _:Unit=>blk n1 (Ks.mk KC d)^blk n2 zC^blk n4 [.int .i64 (if 100≤cQ d∧cQ d≤65536 then cQ d else 3000),.int .i64 (if 100≤cF d∧cF d≤65536 then cF d else 15000),.int .i64 (if 1≤cL d∧cL d≤512 then cL d else 100),.int .i64 (if 1≤cW d∧cW d≤512 then cW d else 50),.int .u64 (if cH d≤4611686018427387904 then cH d else 10000000000),.int .u64 0,.bool false,.int .i64 (if 1≤cCap d∧cCap d≤1073741824 then cCap d else 100000),.int .i64 1000]) (fun _=>True) ?_ ?_
  rotate_left
  ·refine w_join h (fun _:Bool=>blk n1 (Ks.mk KC d)^blk n2 zC^blk n4 [.int .i64 (if 100≤cQ d∧cQ d≤65536 then cQ d else 3000),.int .i64 (if 100≤cF d∧cF d≤65536 then cF d else 15000),.int .i64 (if 1≤cL d∧cL d≤512 then cL d else 100),.int .i64 (if 1≤cW d∧cW d≤512 then cW d else 50),.int .u64 (if cH d≤4611686018427387904 then cH d else 10000000000),.int .u64 0,.bool false,.int .i64 100000,.int .i64 1000]) (fun y:Bool=>y=decide (1≤cCap d∧cCap d≤1073741824)) (fun y w hy h=>?_) ?_
   ·rw [hy]
    refine w_ite (fun c=>?_) fun c=>?_
    ·have c:=of_decide_eq_true c
     refine w_ld h rfl (w_setTo h n4 [.int .i64 (if 100≤cQ d∧cQ d≤65536 then cQ d else 3000),.int .i64 (if 100≤cF d∧cF d≤65536 then cF d else 15000),.int .i64 (if 1≤cL d∧cL d≤512 then cL d else 100),.int .i64 (if 1≤cW d∧cW d≤512 then cW d else 50),.int .u64 (if cH d≤4611686018427387904 then cH d else 10000000000),.int .u64 0,.bool false,.int .i64 (if 1≤cCap d∧cCap d≤1073741824 then cCap d else 100000),.int .i64 1000] rfl rfl (by rw [if_pos c];rfl) fun w h=>⟨trivial,h.fin⟩)
    ·have c:=of_decide_eq_false c
     have h:=h.blkEq (b:=n4) (L':=[.int .i64 (if 100≤cQ d∧cQ d≤65536 then cQ d else 3000),.int .i64 (if 100≤cF d∧cF d≤65536 then cF d else 15000),.int .i64 (if 1≤cL d∧cL d≤512 then cL d else 100),.int .i64 (if 1≤cW d∧cW d≤512 then cW d else 50),.int .u64 (if cH d≤4611686018427387904 then cH d else 10000000000),.int .u64 0,.bool false,.int .i64 (if 1≤cCap d∧cCap d≤1073741824 then cCap d else 100000),.int .i64 1000]) (by rw [if_neg c])
     exact ⟨trivial,h.fin⟩
   ·refine w_ld h rfl (w_ite (fun c=>w_ld h rfl ⟨?_,h.fin⟩) fun c=>⟨?_,h.fin⟩)
    ·have c:cCap d ≥ 1:=by simpa using c
     show decide (cCap d≤1073741824)=_
     rw [decide_eq_decide];exact ⟨fun x=>⟨c,x⟩,fun x=>x.2⟩
    ·have c:¬ cCap d ≥ 1:=by simpa using c
     exact (decide_eq_false fun x=>c x.1).symm
  rintro - w - h
  refine w_join h (fun _:Unit=>blk n1 (Ks.mk KC d)^blk n2 zC^blk n4 [.int .i64 (if 100≤cQ d∧cQ d≤65536 then cQ d else 3000),.int .i64 (if 100≤cF d∧cF d≤65536 then cF d else 15000),.int .i64 (if 1≤cL d∧cL d≤512 then cL d else 100),.int .i64 (if 1≤cW d∧cW d≤512 then cW d else 50),.int .u64 (if cH d≤4611686018427387904 then cH d else 10000000000),.int .u64 0,.bool false,.int .i64 (if 1≤cCap d∧cCap d≤1073741824 then cCap d else 100000),.int .i64 (if 100≤cMss d∧cMss d≤9000 then cMss d else 1000)]) (fun _=>True) ?_ ?_
  rotate_left
  ·refine w_join h (fun _:Bool=>blk n1 (Ks.mk KC d)^blk n2 zC^blk n4 [.int .i64 (if 100≤cQ d∧cQ d≤65536 then cQ d else 3000),.int .i64 (if 100≤cF d∧cF d≤65536 then cF d else 15000),.int .i64 (if 1≤cL d∧cL d≤512 then cL d else 100),.int .i64 (if 1≤cW d∧cW d≤512 then cW d else 50),.int .u64 (if cH d≤4611686018427387904 then cH d else 10000000000),.int .u64 0,.bool false,.int .i64 (if 1≤cCap d∧cCap d≤1073741824 then cCap d else 100000),.int .i64 1000]) (fun y:Bool=>y=decide (100≤cMss d∧cMss d≤9000)) (fun y w hy h=>?_) ?_
   ·rw [hy]
    refine w_ite (fun c=>?_) fun c=>?_
    ·have c:=of_decide_eq_true c
     refine w_ld h rfl (w_setTo h n4 [.int .i64 (if 100≤cQ d∧cQ d≤65536 then cQ d else 3000),.int .i64 (if 100≤cF d∧cF d≤65536 then cF d else 15000),.int .i64 (if 1≤cL d∧cL d≤512 then cL d else 100),.int .i64 (if 1≤cW d∧cW d≤512 then cW d else 50),.int .u64 (if cH d≤4611686018427387904 then cH d else 10000000000),.int .u64 0,.bool false,.int .i64 (if 1≤cCap d∧cCap d≤1073741824 then cCap d else 100000),.int .i64 (if 100≤cMss d∧cMss d≤9000 then cMss d else 1000)] rfl rfl (by rw [if_pos c];rfl) fun w h=>⟨trivial,h.fin⟩)
    ·have c:=of_decide_eq_false c
     have h:=h.blkEq (b:=n4) (L':=[.int .i64 (if 100≤cQ d∧cQ d≤65536 then cQ d else 3000),.int .i64 (if 100≤cF d∧cF d≤65536 then cF d else 15000),.int .i64 (if 1≤cL d∧cL d≤512 then cL d else 100),.int .i64 (if 1≤cW d∧cW d≤512 then cW d else 50),.int .u64 (if cH d≤4611686018427387904 then cH d else 10000000000),.int .u64 0,.bool false,.int .i64 (if 1≤cCap d∧cCap d≤1073741824 then cCap d else 100000),.int .i64 (if 100≤cMss d∧cMss d≤9000 then cMss d else 1000)]) (by rw [if_neg c])
     exact ⟨trivial,h.fin⟩
   ·refine w_ld h rfl (w_ite (fun c=>w_ld h rfl ⟨?_,h.fin⟩) fun c=>⟨?_,h.fin⟩)
    ·have c:cMss d ≥ 100:=by simpa using c
     show decide (cMss d≤9000)=_
     rw [decide_eq_decide];exact ⟨fun x=>⟨c,x⟩,fun x=>x.2⟩
    ·have c:¬ cMss d ≥ 100:=by simpa using c
     exact (decide_eq_false fun x=>c x.1).symm
  rintro - w - h
  refine w_drw h fun w h=>w_ld h rfl (w_ld h rfl (w_setTo h n4 [.int .i64 (if 100≤cQ d∧cQ d≤65536 then cQ d else 3000),.int .i64 (if 100≤cF d∧cF d≤65536 then cF d else 15000),.int .i64 (if 1≤cL d∧cL d≤512 then cL d else 100),.int .i64 (if 1≤cW d∧cW d≤512 then cW d else 50),.int .u64 (if cH d≤4611686018427387904 then cH d else 10000000000),.int .u64 (cR d),.bool false,.int .i64 (if 1≤cCap d∧cCap d≤1073741824 then cCap d else 100000),.int .i64 (if 100≤cMss d∧cMss d≤9000 then cMss d else 1000)] rfl rfl rfl fun w h=>w_chk h rfl (w_setTo h n4 [.int .i64 (if 100≤cQ d∧cQ d≤65536 then cQ d else 3000),.int .i64 (if 100≤cF d∧cF d≤65536 then cF d else 15000),.int .i64 (if 1≤cL d∧cL d≤512 then cL d else 100),.int .i64 (if 1≤cW d∧cW d≤512 then cW d else 50),.int .u64 (if cH d≤4611686018427387904 then cH d else 10000000000),.int .u64 (cR d),.bool (cD d),.int .i64 (if 1≤cCap d∧cCap d≤1073741824 then cCap d else 100000),.int .i64 (if 100≤cMss d∧cMss d≤9000 then cMss d else 1000)] rfl rfl rfl fun w h=>?_)))
  refine w_ldAll (b:=n4) (x:=configF d) h rfl (w_setAll h (by rfl) fun w h=>w_ldAll (b:=n2) (x:=configF d) h rfl ?_)
  exact Own.retP rfl h.emp'
theorem config_may (d:Cf):may (configF d)=true:=by
 unfold may configF
 simp only [Bool.and_eq_true,decide_eq_true_eq]
 refine ⟨?_,?_,?_,?_,?_,?_,?_⟩<;>dsimp only [cQ,cF,cL,cW,cH,cCap,cMss]<;>split<;>omega
theorem config_ok {d:Cf} (h0:0≤cH d) (hr:U (cR d)):OkC (configF d):=may_ok (config_may d) (by unfold configF;dsimp only [cH];split<;>(try assumption);omega) hr
theorem wf_u {n:Int} (h:(Lit.int .u64 n).wf=true):U n:=by
 have h:IntKind.u64.min≤n∧n≤IntKind.u64.max:=by simpa [Lit.wf] using h
 have e1:IntKind.u64.min=0:=by decide
 have e2:IntKind.u64.max=18446744073709551615:=by decide
 unfold U
 omega
theorem okC_of {d:Cf} (h:∀ k n,Lf.int k n∈Ks.mk KC d→(Lit.int k n).wf=true):0≤cH d∧U (cR d) :=
 ⟨(wf_u (h .u64 (cH d) (List.mem_of_getElem? (i:=4) rfl))).1,wf_u (h .u64 (cR d) (List.mem_of_getElem? (i:=5) rfl))⟩
end FqI

namespace FqK
open Arith ArithC Lists _root_.Go.X.Tree TreeC TreeD TreeE TreeF FqM FqC FqD FqE FqG FqH FqI
def one (c:Cf) (i:Nat) (f:Fl) (lv:LV) (ks:List Key):Qm:=⟨c,upF (fun _=>none) i (some f),lv,ks,f.sg.length⟩
def deqH (now:Int) (rates:List Int) (u:Qm):Option Sg × Qm:=heads now rates (mu u+1) u
theorem deq_eq (v:Qm) (now:Int) (rates:List Int):deqF v now rates=deqH now rates (dueF v now):=rfl
end FqK

namespace FqN
open Arith ArithC Lists _root_.Go.X.Tree TreeC TreeD TreeE TreeF FqM FqC FqD FqE FqG FqH FqI FqK
abbrev sgL (n:Int):Sg:=(0,0,n,0,false)
abbrev l0:LV:=([((0:Nat):Int)],[])
theorem deq_ok {v:Qm} (hv:OkQ v) {now:Int} (hn:U now) {rates:List Int} (hr:∀ x∈rates,U x):OkQ (deqF v now rates).2:=by
 rw [deq_eq]
 unfold deqH
 suffices ∀ k u,OkQ u→OkQ (heads now rates k u).2 from this _ _ (hv.due now)
 intro k
 induction k with
 | zero=>intro u hu;exact hu
 | succ k ih =>
  intro u hu
  cases hh:(headF u.lv).2.2 with
  | false=>rw [heads_no hh];exact hu
  | true =>
   have hmm:=headF_mem hh
   have hx:=hu.lv.2 _ hmm
   obtain ⟨i,hi⟩:∃ i:Nat,(headF u.lv).1=(i:Int):=⟨(headF u.lv).1.toNat,by omega⟩
   obtain ⟨f,hf⟩:=hu.th i (by rw [hi] at hmm;exact hmm)
   have hA:AtH u i f:=⟨hu,hi,hh,hf⟩
   rw [heads_at hA]
   by_cases c:f.cr≤0
   ·rw [if_pos c]
    exact ih _ (hA.credit c)
   ·rw [if_neg c]
    cases hs:f.sg with
    | nil =>
     simp only
     split
     ·exact ih _ hA.back
     ·rw [← hs]
      exact ih _ (hA.nowhere hs hn)
    | cons s l =>
     simp only
     split
     ·exact ih _ (hA.wait (by rw [hs];simp)).1
     ·have hF:=(hu.fl i f hf).2
      exact hA.sent hs (by omega) hn (U_delay (by have:=(hF.sg s (by rw [hs];simp)).2.ln;omega) (U_less (U_rateA hr i) hu.cf.r))
end FqN

namespace FqQ
open Arith ArithC Lists _root_.Go.X.Tree TreeC TreeD TreeE TreeF FqM FqC FqD FqE FqG FqH FqI FqK FqN
def Same (u v:Qm):Prop:=∀ i,(v.fl i).map (fun f=>(f.nx,f.sg))=(u.fl i).map fun f=>(f.nx,f.sg)
end FqQ

namespace FqR
open Arith ArithC Lists _root_.Go.X.Tree TreeC TreeD TreeE TreeF FqM FqC FqD FqE FqG FqH FqI FqK FqN FqQ
abbrev KD:Ks:=[.int .i64,.int .u64,.int .i64,.int .u64,.int .i64,.int .u64,.bool,.sl,.int .i64,.int .i64,.int .i64,.int .i64,.int .u64,.int .u64,.bool,.int .i64,.int .i64,.bool]
abbrev DD:=Ks.T KD
abbrev dG (d:DD):Int:=d.2.1
abbrev dS (d:DD):Sg:=(d.2.2.1,d.2.2.2.1,d.2.2.2.2.1,d.2.2.2.2.2.1,d.2.2.2.2.2.2.1)
abbrev dR (d:DD):Sl:=d.2.2.2.2.2.2.2.1
abbrev dC (d:DD):Cf:=(d.2.2.2.2.2.2.2.2.1,d.2.2.2.2.2.2.2.2.2.1,d.2.2.2.2.2.2.2.2.2.2.1,d.2.2.2.2.2.2.2.2.2.2.2.1,d.2.2.2.2.2.2.2.2.2.2.2.2.1,d.2.2.2.2.2.2.2.2.2.2.2.2.2.1,d.2.2.2.2.2.2.2.2.2.2.2.2.2.2.1,d.2.2.2.2.2.2.2.2.2.2.2.2.2.2.2.1,d.2.2.2.2.2.2.2.2.2.2.2.2.2.2.2.2.1)
abbrev OpD:=DD × List Int
structure OkD (p:OpD):Prop where
 g:U (dG p.1)
 s:U (sFr (dS p.1))∧U (sSt (dS p.1))
 c:0≤cH (dC p.1)∧U (cR (dC p.1))
 r:∀ y∈p.2,U y
end FqR

namespace FqT
open Arith ArithC Lists _root_.Go.X.Tree TreeC TreeD TreeE TreeF FqM FqC FqD FqE FqG FqH FqI FqK FqN FqQ FqR
def upL (g:Nat→List Int) (i:Nat) (x:List Int):Nat→List Int:=fun j=>if j=i then x else g j
abbrev sL (s:Nat→Sl):List Lf:=[.sl (s 0),.sl (s 1),.sl (s 2),.sl (s 3),.sl (s 4),.sl (s 5),.sl (s 6),.sl (s 7)]
section
variable {w0 w : World} {S0 R0 : Nat → Prop} {F G : SP}
end
end FqT

end Go.X
