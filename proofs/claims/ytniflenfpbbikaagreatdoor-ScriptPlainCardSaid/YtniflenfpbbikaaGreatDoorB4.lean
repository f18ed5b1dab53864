/- Contracts and plain facts: FqG FqH FqK FqN FqQ FqR FqT Board Target BbrP. -/
import Derived.Test.YtniflenfpbbikaaGreatDoorB0
import Derived.Test.YtniflenfpbbikaaGreatDoorB1
import Derived.Test.YtniflenfpbbikaaGreatDoorB2
import Derived.Test.YtniflenfpbbikaaGreatDoorB3
import Derived.Test.YtniflenfpbbikaaGreatDoorK
import Derived.Test.YtniflenfpbbikaaGreatDoorF0
import Derived.Test.YtniflenfpbbikaaGreatDoorF1
import Derived.Test.YtniflenfpbbikaaGreatDoorF2
set_option linter.unusedVariables false
set_option linter.unusedSimpArgs false
set_option linter.unusedSectionVars false
namespace Go.X
open Go.Proofs
namespace FqG
open Arith ArithC Lists _root_.Go.X.Tree TreeC TreeD TreeE TreeF FqM FqC FqD FqE
theorem tw_take {α:Type} {p:α→Bool}:∀ {l:List α} {i:Nat},(∀ j x,j < i→l[j]?=some x→p x=true)→(∀ x,l[i]?=some x→p x=false)→l.takeWhile p=l.take i
 | [],i,_,_=>by simp
 | x :: l,0,_,h=>by rw [List.takeWhile_cons,if_neg (by rw [h x rfl];simp)];rfl
 | x :: l,i+1,h1,h2=>by
  rw [List.takeWhile_cons,if_pos (h1 0 x (by omega) rfl),List.take_succ_cons,tw_take (fun j y hj hy=>h1 (j+1) y (by omega) hy) h2]
theorem take_up {α:Type} {l:List α} {i:Nat} {x:α} (h:l[i]?=some x):l.take (i+1)=l.take i++[x]:=by rw [List.take_add_one,h];rfl
theorem old_tri (b:Nat) (p:Nat→Option Pt) (l t:Nat) (c:Cf) (n:Int) (v:LV) (hv:okL v) (hn:v.1≠[]):Tri Tryz.prog N_fq_Queue_old [.lf (.ptr (some ⟨b,0⟩))] [.lf .bool] (blk b (qL c p l t n)^lst l v) (fun r=>pur (r=decide (v.2≠[])) (blk b (qL c p l t n)^lst l v)) :=
 tri_n (W:=fun n R=>W_fq_Queue_old n (some ⟨b,0⟩) R) (call_fq_Queue_old _) fun w S R h=>by
  unfold W_fq_Queue_old
  have hfew:=hv.few
  refine w_new h fun n1 w h=>w_deref (w_ld h rfl (w_call (Lists.all_tri _) h fun f w h=>?_))
  obtain ⟨m,h⟩:=h.exP
  obtain ⟨hf,h⟩:=h.purP
  rw [hf]
  have h:=(h.take (blk n1 [.bool false])).toPur (p:=∀ j y,j < 0→(allF v)[j]?=some y→y.2=true) (fun j y hj=>by omega)
  refine w_range (Lists.all_iter m l v (by omega)) (fun i=>pur (∀ j y,j < i→(allF v)[j]?=some y→y.2=true) (blk n1 [.bool false])) (fun j=>pur (j=1∧v.2≠[]) (blk n1 [.bool true])) h ?_ ?_ ?_
  ·rintro i (x:Int × Bool) hx w S R mid next jump rdy bsy hmid hnext hjump h
   refine hmid h fun w h=>?_
   have h:=h.take (pur (∀ j y,j < i→(allF v)[j]?=some y→y.2=true) (blk n1 [.bool false]))
   obtain ⟨hno,h⟩:=h.purP
   refine w_ite (fun c=>?_) fun c=>?_
   ·have c:x.2=false:=by simpa using c
    have h2:v.2≠[]:=fun e=>by
     rcases allF_fst hx with ⟨_,_,h3⟩ | ⟨_,h3,_⟩
     ·rw [c] at h3;cases h3
     ·rw [e] at h3;simp at h3
    refine w_setTo h n1 [.bool true] rfl rfl rfl fun w h=>?_
    have h:=(h.take (blk n1 [.bool true])).toPur (p:=1=1∧v.2≠[]) ⟨rfl,h2⟩
    exact hjump 1 (by decide) h
   ·have c:x.2=true:=by simpa using c
    have h:=(h.take (blk n1 [.bool false])).toPur (p:=∀ j y,j < i+1→(allF v)[j]?=some y→y.2=true) (fun j y hj hy=>by
     by_cases hji:j=i
     ·rw [hji,hx] at hy;cases hy;exact c
     ·exact hno j y (by omega) hy)
    exact hnext h
  ·intro w h
   have h:=h.take (pur (∀ j y,j < (allF v).length→(allF v)[j]?=some y→y.2=true) (blk n1 [.bool false]))
   obtain ⟨hno,h⟩:=h.purP
   have h2:v.2=[]:=by
    cases h3:v.2 with
    | nil=>rfl
    | cons x r =>
     have:=hno v.1.length (x,false) (by rw [allF_len,h3];simp) (by unfold allF;rw [h3];simp)
     cases this
   refine w_setTo h n1 [.bool false] rfl rfl rfl fun w h=>?_
   refine w_ld h rfl (w_leave h fun w h=>?_)
   exact Own.retP (by rw [h2];simp) h.fin
  ·intro j w hj h
   have h:=h.take (pur (j=1∧v.2≠[]) (blk n1 [.bool true]))
   obtain ⟨⟨hj1,h2⟩,h⟩:=h.purP
   rw [hj1]
   refine w_ld h rfl (w_leave h fun w h=>?_)
   exact Own.retP (by simp [h2]) h.fin
theorem due_tri (b:Nat) (p:Nat→Option Pt) (l t:Nat) (v:Qm) (hv:OkQ v) (now:Int):Tri Tryz.prog N_fq_Queue_due [.lf (.ptr (some ⟨b,0⟩)),.lf (.int .u64 now)] [] (blk b (qL v.c p l t v.n)^lst l v.lv^tree 8 t v.ks) (fun _=>blk b (qL v.c p l t v.n)^lst l (dueF v now).lv^tree 8 t (dueF v now).ks) :=
 tri_n (W:=fun n R=>W_fq_Queue_due n (some ⟨b,0⟩) now R) (call_fq_Queue_due _ _) fun w0 S R h=>by
  unfold W_fq_Queue_due
  have hkk:=hv.keys
  have hfew:v.ks.length≤8:=by
   have:=nodup_few 8 _ hkk.1 fun x hx=>(hkk.2 x hx).1
   simpa using this
  have hdl:(dueK v now).length≤8:=Nat.le_trans (List.takeWhile_prefix _).length_le hfew
  refine w_new h fun n1 w h=>w_new h fun n2 w h=>?_
  refine w_join h (fun _=>ex fun s:Sl=>blk n1 [.int .u64 now]^blk n2 [.sl s]^arr s KR (dueK v now)^blk b (qL v.c p l t v.n)^lst l v.lv^tree 8 t v.ks) (fun _=>True) (fun _ w _ h=>?_) ?_
  ·obtain ⟨s,h⟩:=(h.le (star_emp _)).exP
   have hs:=(h.rd (s:=s)).2
   refine w_ld h rfl ?_
   have hsplit:v.ks=dueK v now++v.ks.dropWhile (fun k=>decide (k.1≤now)):=List.takeWhile_append_dropWhile.symm
   have h:Own w0 S R w (blk n1 [.int .u64 now]^blk n2 [.sl s]^arr s KR (dueK v now)^blk b (qL v.c p l t v.n)^lst l (v.lv.1,v.lv.2++((dueK v now).take (0:Int).toNat).map Prod.snd)^tree 8 t ((dueK v now).drop (0:Int).toNat++v.ks.dropWhile (fun k=>decide (k.1≤now)))):=by
    have e:((dueK v now).drop (0:Int).toNat++v.ks.dropWhile (fun k=>decide (k.1≤now)))=v.ks:=hsplit.symm
    have e2:(v.lv.1,v.lv.2++((dueK v now).take (0:Int).toNat).map Prod.snd)=v.lv:=by simp
    rw [e,e2]
    exact h.fin
   refine w_loop (fun y:Int=>blk n1 [.int .u64 now]^blk n2 [.sl s]^arr s KR (dueK v now)^blk b (qL v.c p l t v.n)^lst l (v.lv.1,v.lv.2++((dueK v now).take y.toNat).map Prod.snd)^tree 8 t ((dueK v now).drop y.toNat++v.ks.dropWhile (fun k=>decide (k.1≤now)))) (fun y:Int=>0≤y∧y≤(dueK v now).length) (fun y:Int=>((dueK v now).length - y).toNat) h ⟨by decide,by show (0:Int)≤_;omega⟩ ?_
   ·rintro (y:Int) w hy h
    have hyw:IntKind.i64.wrap (y+1)=y+1:=wi (by omega) (by omega)
    refine w_ite (fun c=>?_) fun c=>?_
    ·have c:y < (s.len:Int):=by simpa using c
     obtain ⟨k,hk⟩:∃ k,(dueK v now)[y.toNat]?=some k:=⟨_,List.getElem?_eq_getElem (by omega)⟩
     refine w_idx (s:=s) h hy.1 (by omega) (w_ldE h s y.toNat hk rfl ?_)
     refine w_new h fun n25 w h=>w_setAll h (by rfl) fun w h=>w_drw h fun w h=>w_ldAll (b:=n25) (x:=k) h rfl ?_
     have hd:(dueK v now).drop y.toNat=k :: (dueK v now).drop (y.toNat+1):=drop_at hk
     have hdel:delK ((dueK v now).drop y.toNat++v.ks.dropWhile (fun k=>decide (k.1≤now))) k=(0,(dueK v now).drop (y.toNat+1)++v.ks.dropWhile (fun k=>decide (k.1≤now))):=by
      rw [hd]
      unfold delK
      rw [if_pos (by simp),List.cons_append,List.erase_cons_head]
     refine w_deref (w_ld h rfl (w_call (delete_tri t 8 ((dueK v now).drop y.toNat++v.ks.dropWhile (fun k=>decide (k.1≤now))) k) h fun r w h=>?_))
     obtain ⟨_,h⟩:=h.purP
     rw [hdel] at h
     have hkm:k∈v.ks:=by rw [hsplit,List.mem_append];exact .inl (List.mem_of_getElem? hk)
     have hk8:=hkk.2 k.2 (List.mem_map.2 ⟨k,hkm,rfl⟩)
     have hkw:IntKind.i64.wrap k.2=k.2:=wi (by omega) (by omega)
     refine w_drw h fun w h=>w_deref (w_ld h rfl (w_ld h rfl ?_))
     rw [hkw]
     have hpl:((dueK v now).take y.toNat).length≤8:=by rw [List.length_take];omega
     have hvf:=hv.lv.few
     refine w_call (push_tri l (v.lv.1,v.lv.2++((dueK v now).take y.toNat).map Prod.snd) k.2 false (by simp only [List.length_append,List.length_map];omega)) h fun r w h=>?_
     obtain ⟨_,h⟩:=h.purP
     have hp:(pushF (v.lv.1,v.lv.2++((dueK v now).take y.toNat).map Prod.snd) k.2 false).2=(v.lv.1,v.lv.2++((dueK v now).take (y.toNat+1)).map Prod.snd):=by
      have hnin:placeF (v.lv.1,v.lv.2++((dueK v now).take y.toNat).map Prod.snd) k.2=0:=by
       rw [placeF_0]
       intro hin
       rw [← List.append_assoc,List.mem_append] at hin
       rcases hin with hin | hin
       ·exact hk8.2 hin
       ·have hnd:=hkk.1
        rw [hsplit,List.map_append,List.nodup_append] at hnd
        have hnd:=hnd.1
        rw [← List.take_append_drop y.toNat (dueK v now),List.map_append,List.nodup_append,hd] at hnd
        exact hnd.2.2 _ hin _ (by simp) rfl
      rw [pushF,if_neg (by omega),if_neg (by rw [hnin];simp),if_neg (by simp),take_up hk]
      simp
     rw [hp] at h
     have e:(y+1).toNat=y.toNat+1:=by omega
     rw [hyw,e]
     exact ⟨⟨by omega,h.fin⟩,by omega⟩
    ·have c:¬ y < (s.len:Int):=by simpa using c
     have e1:(dueK v now).take y.toNat=dueK v now:=List.take_of_length_le (by omega)
     have e2:(dueK v now).drop y.toNat=[]:=List.drop_of_length_le (by omega)
     rw [e1,e2,List.nil_append] at h
     refine w_leave h fun w h=>?_
     exact h.fin
  ·refine w_deref (w_ld h rfl (w_call (TreeF.all_tri _) h fun f w h=>?_))
   obtain ⟨m,h⟩:=h.exP
   obtain ⟨hf,h⟩:=h.purP
   rw [hf]
   have h:=(h.nil KR).arrEq (s:=⟨none,0,0⟩) (K:=KR) (ys:=v.ks.take 0) rfl
   have h0:∀ j x,j < 0→v.ks[j]?=some x→decide (x.1≤now)=true:=fun j x hj=>by omega
   have h:=(h.take (blk n1 [.int .u64 now]^blk n2 [.sl ⟨none,0,0⟩]^arr ⟨none,0,0⟩ KR (v.ks.take 0)))
   have h:=h.inq (f:=fun s:Sl=>blk n1 [.int .u64 now]^blk n2 [.sl s]^arr s KR (v.ks.take 0)) (φ:=fun _=>∀ j x,j < 0→v.ks[j]?=some x→decide (x.1≤now)=true) ⟨none,0,0⟩ h0
   refine w_range (TreeF.all_iter m t 8 v.ks) (fun i=>exq (fun _:Sl=>∀ j x,j < i→v.ks[j]?=some x→decide (x.1≤now)=true) (fun s:Sl=>blk n1 [.int .u64 now]^blk n2 [.sl s]^arr s KR (v.ks.take i))) (fun j=>exq (fun _:Sl=>j=2) (fun s:Sl=>blk n1 [.int .u64 now]^blk n2 [.sl s]^arr s KR (dueK v now))) h ?_ ?_ ?_
   ·rintro i (x:Key) hx w S R mid next jump rdy bsy hmid hnext hjump h
    have hi:i < v.ks.length:=(List.getElem?_eq_some_iff.1 hx).1
    refine w_new h fun n12 w h=>w_setAll h (by rfl) fun w h=>hmid h fun w h=>?_
    have h:=h.take (exq (fun _:Sl=>∀ j x,j < i→v.ks[j]?=some x→decide (x.1≤now)=true) (fun s:Sl=>blk n1 [.int .u64 now]^blk n2 [.sl s]^arr s KR (v.ks.take i)))
    obtain ⟨s,hno,h⟩:=h.outq
    refine w_ld h rfl (w_ld h rfl (w_ite (fun c=>?_) fun c=>?_))
    ·have c:x.1 > now:=by simpa using c
     have e:dueK v now=v.ks.take i:=tw_take hno fun y hy=>by rw [hx] at hy;cases hy;simp;omega
     rw [← e] at h
     have h:=h.inq (f:=fun s:Sl=>blk n1 [.int .u64 now]^blk n2 [.sl s]^arr s KR (dueK v now)) (φ:=fun _=>2=2) s rfl
     exact hjump 2 (by decide) h
    ·have c:¬ x.1 > now:=by simpa using c
     refine w_ld h rfl (w_ldAll (b:=n12) (x:=x) h rfl (w_new h fun n17 w h=>?_))
     have h:=h.blkArr n17 KR [x] rfl (by simp)
     refine w_app (s:=s) (x:=⟨some ⟨n17,0⟩,1,1⟩) (ys:=[x]) h rfl (by rw [List.length_take];simp;omega) fun s18 w _ h=>?_
     refine w_setTo h n2 [.sl s18] rfl rfl rfl fun w h=>?_
     have h:=h.arrEq (s:=s18) (K:=KR) (ys:=v.ks.take (i+1)) (take_up hx).symm
     have h:=h.inq (f:=fun s:Sl=>blk n1 [.int .u64 now]^blk n2 [.sl s]^arr s KR (v.ks.take (i+1))) (φ:=fun _=>∀ j x,j < i+1→v.ks[j]?=some x→decide (x.1≤now)=true) s18 (fun j y hj hy=>by
      by_cases hji:j=i
      ·rw [hji,hx] at hy;cases hy;simp;omega
      ·exact hno j y (by omega) hy)
     exact hnext h
   ·intro w h
    have h:=h.take (exq (fun _:Sl=>∀ j x,j < v.ks.length→v.ks[j]?=some x→decide (x.1≤now)=true) (fun s:Sl=>blk n1 [.int .u64 now]^blk n2 [.sl s]^arr s KR (v.ks.take v.ks.length)))
    obtain ⟨s,hno,h⟩:=h.outq
    have e:dueK v now=v.ks.take v.ks.length:=tw_take hno fun y hy=>by simp at hy
    rw [← e] at h
    exact ⟨trivial,Own.retE s h.fin⟩
   ·intro j w hj h
    have h:=h.take (exq (fun _:Sl=>j=2) (fun s:Sl=>blk n1 [.int .u64 now]^blk n2 [.sl s]^arr s KR (dueK v now)))
    obtain ⟨s,hj1,h⟩:=h.outq
    rw [hj1]
    exact ⟨trivial,Own.retE s h.fin⟩
theorem split_head {v:LV} (hv:okL v) (hh:(headF v).2.2=true):(∃ a,v.1=(headF v).1 :: a∧(headF v).2.1=true∧(backF v).2=(a,v.2++[(headF v).1])∧(dropF v).2=(a,v.2)) ∨
  ∃ c,v.1=[]∧v.2=(headF v).1 :: c∧(headF v).2.1=false∧(backF v).2=([],c++[(headF v).1])∧(dropF v).2=([],c):=by
 obtain ⟨a,c⟩:=v
 have hf:∀ (x:Int) (l:List Int),x ∉ l→l.filter (fun y=>decide (y≠x))=l:=fun x l hx=>by
  rw [List.filter_eq_self]
  intro y hy
  have:y≠x:=fun e=>hx (e ▸ hy)
  simpa using this
 have hf2:∀ (x:Int) (l:List Int),x ∉ l→(x :: l).filter (fun y=>decide (y≠x))=l:=fun x l hx=>by
  rw [List.filter_cons,if_neg (by simp),hf x l hx]
 cases a with
 | cons x a =>
  left
  have hn:x ∉ a++c:=(List.nodup_cons.1 hv.1).1
  rw [List.mem_append] at hn
  refine ⟨a,rfl,rfl,?_,?_⟩
  ·unfold backF outF;rw [if_pos hh]
   show (((x :: a).filter (fun y=>decide (y≠x))),c.filter (fun y=>decide (y≠x))++[x])=(a,c++[x])
   rw [hf2 x a fun e=>hn (.inl e),hf x c fun e=>hn (.inr e)]
  ·unfold dropF outF;rw [if_pos hh]
   show (((x :: a).filter (fun y=>decide (y≠x))),c.filter (fun y=>decide (y≠x)))=(a,c)
   rw [hf2 x a fun e=>hn (.inl e),hf x c fun e=>hn (.inr e)]
 | nil=>cases c with
  | nil=>cases hh
  | cons x c =>
   right
   have hn:x ∉ c:=(List.nodup_cons.1 hv.1).1
   refine ⟨c,rfl,rfl,rfl,?_,?_⟩
   ·unfold backF outF;rw [if_pos hh]
    show (([]:List Int).filter (fun y=>decide (y≠x)),(x :: c).filter (fun y=>decide (y≠x))++[x])=([],c++[x])
    rw [hf2 x c hn];rfl
   ·unfold dropF outF;rw [if_pos hh]
    show (([]:List Int).filter (fun y=>decide (y≠x)),(x :: c).filter (fun y=>decide (y≠x)))=([],c)
    rw [hf2 x c hn];rfl
abbrev wt (fl:Nat→Option Fl) (L:List Int):Nat:=(L.map fun x=>crw (fl x.toNat)+1).sum
theorem wt_cons (fl:Nat→Option Fl) (x:Int) (L:List Int):wt fl (x :: L)=crw (fl x.toNat)+1+wt fl L:=by simp [wt]
theorem wt_app (fl:Nat→Option Fl) (L M:List Int):wt fl (L++M)=wt fl L+wt fl M:=by simp [wt]
theorem wt_up (fl:Nat→Option Fl) {i:Nat} (x:Option Fl) {L:List Int} (h:(i:Int) ∉ L) (h0:∀ y∈L,0≤y):wt (upF fl i x) L=wt fl L:=by
 unfold wt
 congr 1
 refine List.map_congr_left fun y hy=>?_
 have:y≠(i:Int):=fun e=>h (e ▸ hy)
 have:=h0 y hy
 rw [upF_ne _ _ (show y.toNat≠i by omega)]
theorem mu_eq (v:Qm):mu v=wt v.fl (v.lv.1++v.lv.2)+v.lv.1.length:=rfl
section
variable {v : Qm} {i : Nat} {f : Fl}
theorem at_parts (h:AtH v i f):(∃ a,v.lv.1=(i:Int) :: a∧(headF v.lv).2.1=true∧(backF v.lv).2=(a,v.lv.2++[(i:Int)])∧(dropF v.lv).2=(a,v.lv.2)∧(i:Int) ∉ a++v.lv.2∧∀ y∈a++v.lv.2,0≤y) ∨
  ∃ c,v.lv.1=[]∧v.lv.2=(i:Int) :: c∧(headF v.lv).2.1=false∧(backF v.lv).2=([],c++[(i:Int)])∧(dropF v.lv).2=([],c)∧(i:Int) ∉ c∧∀ y∈c,0≤y:=by
 have hs:=split_head h.ok.lv h.is
 rw [h.hd] at hs
 obtain ⟨hd,hr⟩:=h.ok.lv
 rcases hs with ⟨a,h1,h2,h3,h4⟩ | ⟨c,h1,h2,h3,h4,h5⟩
 ·rw [h1] at hd hr
  exact .inl ⟨a,h1,h2,h3,h4,(List.nodup_cons.1 hd).1,fun y hy=>(hr y (List.mem_cons_of_mem _ hy)).1⟩
 ·rw [h1,h2] at hd hr
  exact .inr ⟨c,h1,h2,h3,h4,h5,(List.nodup_cons.1 hd).1,fun y hy=>(hr y (List.mem_cons_of_mem _ hy)).1⟩
theorem at_mu_credit (h:AtH v i f) (hc:f.cr≤0):mu { v with fl:=upF v.fl i (some { f with cr:=f.cr+cQ v.c }),lv:=(backF v.lv).2 } < mu v:=by
 have hq:=h.ok.cf.q
 have e1:crw (v.fl i)=(1 - f.cr).toNat:=by rw [h.fl];rfl
 have e2:crw (upF v.fl i (some { f with cr:=f.cr+cQ v.c }) i)=(1 - (f.cr+cQ v.c)).toNat:=by rw [upF_same];rfl
 rw [mu_eq,mu_eq]
 dsimp only
 rcases at_parts h with ⟨a,h1,_,h3,_,h5,h6⟩ | ⟨c,h1,h2,_,h3,_,h5,h6⟩
 ·rw [h3,h1,← List.append_assoc,List.cons_append,wt_cons,wt_app,wt_up _ _ h5 h6,wt_cons,Int.toNat_natCast,e1,e2]
  simp only [List.length_cons,wt,List.map_nil,List.sum_nil]
  omega
 ·rw [h3,h1,h2,List.nil_append,List.nil_append,wt_app,wt_up _ _ h5 h6,wt_cons,wt_cons,Int.toNat_natCast,e1,e2]
  simp only [wt,List.map_nil,List.sum_nil,List.length_nil]
  omega
theorem at_mu_back (h:AtH v i f) (ht:(headF v.lv).2.1=true):mu { v with lv:=(backF v.lv).2 } < mu v:=by
 rw [mu_eq,mu_eq]
 dsimp only
 rcases at_parts h with ⟨a,h1,_,h3,_⟩ | ⟨c,_,_,h4,_⟩
 ·rw [h3,h1,← List.append_assoc,List.cons_append,wt_cons,wt_app,wt_cons]
  simp only [List.length_cons,wt,List.map_nil,List.sum_nil]
  omega
 ·rw [h4] at ht;cases ht
theorem at_mu_drop (h:AtH v i f) (x:Option Fl) (ks:List Key):mu { v with fl:=upF v.fl i x,lv:=(dropF v.lv).2,ks:=ks } < mu v:=by
 rw [mu_eq,mu_eq]
 dsimp only
 rcases at_parts h with ⟨a,h1,_,_,h3,h5,h6⟩ | ⟨c,h1,h2,_,_,h3,h5,h6⟩
 ·rw [h3,h1,List.cons_append,wt_cons,wt_up _ _ h5 h6]
  simp only [List.length_cons]
  omega
 ·rw [h3,h1,h2,List.nil_append,List.nil_append,wt_up _ _ h5 h6,wt_cons]
  simp only [List.length_nil]
  omega
theorem upF_id {x:Option Fl} (h:v.fl i=x):upF v.fl i x=v.fl:=by
 funext j
 by_cases e:j=i
 ·rw [e,upF_same,h]
 ·exact upF_ne _ _ e
theorem heads_at (h:AtH v i f) (now:Int) (rates:List Int) (k:Nat):heads now rates (k+1) v =
  if f.cr≤0 then heads now rates k { v with fl:=upF v.fl i (some { f with cr:=f.cr+cQ v.c }),lv:=(backF v.lv).2 }
   else match f.sg with
    | []=>if (headF v.lv).2.1=true∧v.lv.2≠[] then heads now rates k { v with lv:=(backF v.lv).2 }
     else heads now rates k { v with lv:=(dropF v.lv).2,fl:=upF v.fl i (some { f with si:=now }) }
    | s :: _=>if timeF f > now then heads now rates k { v with lv:=(dropF v.lv).2,ks:=putK v.ks (timeF f,(i:Int)) }
     else (some s,sentF v i f s now (rateA rates i)):=by
 have hm:=headF_mem h.is
 cases e:v.lv.1++v.lv.2 with
 | nil=>rw [e] at hm;cases hm
 | cons x l =>
  have e2:v.fl (headF v.lv).1.toNat=some f:=by rw [h.hd,Int.toNat_natCast];exact h.fl
  rw [heads,e,e2]
  simp only [h.hd,Int.toNat_natCast]
  rfl
end
theorem heads_no {v:Qm} (h:(headF v.lv).2.2=false) (now:Int) (rates:List Int) (k:Nat):heads now rates (k+1) v=(none,v):=by
 have e:=head_no h
 rw [heads,e];rfl
abbrev noS:Sg:=(0,0,0,0,false)
abbrev zS:List Lf:=[.int .i64 0,.int .u64 0,.int .i64 0,.int .u64 0,.bool false]
def outS:Option Sg→Sg × Bool
 | none=>(noS,false)
 | some s=>(s,true)
theorem U_rateA {rates:List Int} (hr:∀ x∈rates,U x) (i:Nat):U (rateA rates i):=by
 unfold rateA
 split
 ·rename_i h;exact hr _ (List.mem_of_getElem? h)
 ·exact ⟨by decide,by decide⟩
theorem deq_tri (b:Nat) (v:Qm) (hv:OkQ v) (now:Int) (hn:U now) (s:Sl) (rates:List Int) (hr:∀ x∈rates,U x):Tri Tryz.prog N_fq_Queue_Dequeue [.lf (.ptr (some ⟨b,0⟩)),.lf (.int .u64 now),.lf (.sl s)] [.agg KS,.lf .bool]
  (que b v^rarr s KU rates) (fun r=>pur (r=outS (deqF v now rates).1) (que b (deqF v now rates).2)) :=
 tri_0 (call_fq_Queue_Dequeue (some ⟨b,0⟩) now s) fun w0 S R h=>by
  unfold W_fq_Queue_Dequeue
  obtain ⟨p,l,t,h⟩:=h.que b
  refine w_new h fun n1 w h=>w_ite (fun c=>(by simp at c)) fun _=>?_
  refine w_call (due_tri b p l t v hv now) h fun _ w h=>?_
  have h:Own w0 S R w (blk n1 zS^rarr s KU rates^blk b (qL ((dueF v now)).c p l t ((dueF v now)).n)^lst l ((dueF v now)).lv^tree 8 t ((dueF v now)).ks^All8 p ((dueF v now)).fl):=h.fin
  refine w_loopE (fun (_:Unit) (u:Qm)=>blk n1 zS^rarr s KU rates^blk b (qL u.c p l t u.n)^lst l u.lv^tree 8 t u.ks^All8 p u.fl) (fun _ u=>OkQ u∧∃ k,mu u < k∧heads now rates k u=deqF v now rates) (fun _ u=>mu u) (dueF v now) h ⟨hv.due now,_,Nat.lt_succ_self _,rfl⟩ ?_
  rintro K (y:Unit) u w ⟨hu,k,hk,hR⟩ h next
  have hslen:=(h.rd (s:=s)).2
  have hl:=hu.lv.few
  cases k with
  | zero=>omega
  | succ k =>
  refine w_deref (w_ld h rfl (w_call (Lists.head_tri l u.lv (by omega)) h fun r w h=>?_))
  obtain ⟨hr2,h⟩:=h.purP;rw [hr2]
  cases hh:(headF u.lv).2.2 with
  | false =>
   rw [heads_no hh] at hR
   refine w_ite (fun _=>?_) fun c=>(by simp at c)
   refine w_setAll h (by rfl) fun w h=>w_ldAll (b:=n1) (x:=noS) h rfl ?_
   rw [← hR]
   exact Own.retP rfl (h.mkQue b p l t u).fin
  | true =>
   refine w_ite (fun c=>(by simp at c)) fun _=>?_
   have hm:=headF_mem hh
   have hx:=hu.lv.2 _ hm
   obtain ⟨i,hi⟩:∃ i:Nat,(headF u.lv).1=(i:Int):=⟨(headF u.lv).1.toNat,by omega⟩
   obtain ⟨f,hf⟩:=hu.th i (by rw [hi] at hm;exact hm)
   have hA:AtH u i f:=⟨hu,hi,hh,hf⟩
   have hi8:=hA.lt
   have hF:=(hu.fl i f hf).2
   have hcr:=hF.cr
   have hq:=hu.cf.q
   rw [heads_at hA] at hR
   have hit:((i:Nat):Int).toNat=i:=Int.toNat_natCast i
   rw [hi]
   refine w_deref ⟨by omega,?_⟩
   rw [hit]
   refine w_ld h (qL_at _ _ _ _ _ i hi8) ?_
   obtain ⟨a,hp,h⟩:=h.outF p u.fl hi8 hf
   rw [hp]
   obtain ⟨sl,h⟩:=h.flow a
   have hsl:=(h.rd (s:=sl)).2
   refine w_deref (w_ld h rfl (w_ite (fun c=>?_) fun c=>?_))
   ·have c:f.cr≤0:=by simpa using c
    rw [if_pos c] at hR
    have hcw:IntKind.i64.wrap (f.cr+cQ u.c)=f.cr+cQ u.c:=wi (by omega) (by omega)
    refine w_drw h fun w h=>w_deref (w_deref (w_ld h rfl (w_ld h rfl (w_deref ?_))))
    refine w_setTo h a [.int .i64 (f.cr+cQ u.c),.int .u64 f.nx,.int .u64 f.si,.sl sl] rfl rfl (by rw [show ([.int .i64 (f.cr+cQ u.c),.int .u64 f.nx,.int .u64 f.si,.sl sl]:List Lf)=[.int .i64 (IntKind.i64.wrap (f.cr+cQ u.c)),.int .u64 f.nx,.int .u64 f.si,.sl sl] by rw [hcw]];rfl) fun w h=>?_
    refine w_deref (w_ld h rfl (w_call (back_tri l u.lv hu.lv) h fun r w h=>?_))
    obtain ⟨_,h⟩:=h.purP
    have h:=h.mkFl a sl (f.cr+cQ u.c) f.nx f.si f.sg { f with cr:=f.cr+cQ u.c } rfl
    have h:=h.inF p u.fl hi8 p (upF u.fl i (some { f with cr:=f.cr+cQ u.c })) a { f with cr:=f.cr+cQ u.c } (fun _ _=>rfl) (fun j e=>upF_ne _ _ e) hp (upF_same _ _ _)
    have hmu:=at_mu_credit hA c
    exact next () { u with fl:=upF u.fl i (some { f with cr:=f.cr+cQ u.c }),lv:=(backF u.lv).2 } w ⟨hA.credit c,k,by omega,hR⟩ h.fin hmu
   have c:¬ f.cr≤0:=by simpa using c
   rw [if_neg c] at hR
   refine w_join h (fun _=>blk n1 zS^rarr s KU rates^blk b (qL u.c p l t u.n)^lst l u.lv^tree 8 t u.ks^But8 p u.fl i^blk a [.int .i64 f.cr,.int .u64 f.nx,.int .u64 f.si,.sl sl]^arr sl KS f.sg) (fun y:Bool=>y=true↔f.sg=[]∧((headF u.lv).2.1=true∧u.lv.2≠[])) (fun (y:Bool) w hy h=>?_) ?_
   ·refine w_ite (fun c2=>?_) fun c2=>?_
    ·obtain ⟨e1,e2⟩:=hy.1 c2
     rw [e1] at hR
     simp only at hR
     rw [if_pos e2] at hR
     refine w_deref (w_ld h rfl (w_call (back_tri l u.lv hu.lv) h fun r w h=>?_))
     obtain ⟨_,h⟩:=h.purP
     have h:=h.mkFlow a sl f
     have h:=h.inF p u.fl hi8 p u.fl a f (fun _ _=>rfl) (fun _ _=>rfl) hp hf
     have hmu:=at_mu_back hA e2.1
     exact next () { u with lv:=(backF u.lv).2 } w ⟨hA.back,k,by omega,hR⟩ h.fin hmu
    have c2:¬ (f.sg=[]∧((headF u.lv).2.1=true∧u.lv.2≠[])):=fun x=>by have:=hy.2 x;rw [c2] at this;cases this
    refine w_deref (w_ld h rfl (w_ite (fun c3=>?_) fun c3=>?_))
    ·have c3:sl.len=0:=by
      have c3:(sl.len:Int)=0:=by simpa using c3
      omega
     have e1:f.sg=[]:=List.eq_nil_of_length_eq_zero (by omega)
     rw [e1] at hR
     simp only at hR
     rw [if_neg (fun x=>c2 ⟨e1,x⟩)] at hR
     refine w_deref (w_ld h rfl (w_call (Lists.drop_tri l u.lv (by omega)) h fun r w h=>?_))
     obtain ⟨_,h⟩:=h.purP
     refine w_deref (w_setTo h a [.int .i64 f.cr,.int .u64 f.nx,.int .u64 now,.sl sl] rfl rfl rfl fun w h=>?_)
     have h:=h.mkFl a sl f.cr f.nx now f.sg { f with si:=now } rfl
     have h:=h.inF p u.fl hi8 p (upF u.fl i (some { f with si:=now })) a { f with si:=now } (fun _ _=>rfl) (fun j e=>upF_ne _ _ e) hp (upF_same _ _ _)
     have hmu:=at_mu_drop hA (some { f with si:=now }) u.ks
     exact next () { u with lv:=(dropF u.lv).2,fl:=upF u.fl i (some { f with si:=now }) } w ⟨hA.nowhere e1 hn,k,by omega,by rw [e1];exact hR⟩ h.fin hmu
    have c3:sl.len≠0:=by
     have c3:¬ (sl.len:Int)=0:=by simpa using c3
     omega
    have e1:f.sg≠[]:=fun e=>by rw [e] at hsl;exact c3 (by simpa using hsl)
    cases hss:f.sg with
    | nil=>exact absurd hss e1
    | cons s0 ss =>
    rw [hss] at hR
    simp only at hR
    have h:=h.mkFlow a sl f
    refine w_call (time_tri a f e1) h fun r w h=>?_
    obtain ⟨hr3,h⟩:=h.purP;rw [hr3]
    refine w_ite (fun c4=>?_) fun c4=>?_
    ·have c4:timeF f > now:=by simpa using c4
     rw [if_pos c4] at hR
     obtain ⟨hOk,hnin,hlt⟩:=hA.wait e1
     refine w_deref (w_ld h rfl (w_call (Lists.drop_tri l u.lv (by omega)) h fun r w h=>?_))
     obtain ⟨_,h⟩:=h.purP
     refine w_drw h fun w h=>w_deref (w_ld h rfl (w_call (key_tri a f e1 i (by omega)) h fun r w h=>?_))
     obtain ⟨hr4,h⟩:=h.purP;rw [hr4]
     refine w_chk h rfl (w_call (insert_tri t 8 u.ks (timeF f,(i:Int))) h fun r w h=>?_)
     obtain ⟨_,h⟩:=h.purP
     have ei:insK 8 u.ks (timeF f,(i:Int))=(0,putK u.ks (timeF f,(i:Int))):=by
      unfold insK;rw [if_neg hnin,if_neg (by omega)]
     rw [ei] at h
     have h:=h.inF p u.fl hi8 p u.fl a f (fun _ _=>rfl) (fun _ _=>rfl) hp hf
     have hmu:=at_mu_drop hA (some f) (putK u.ks (timeF f,(i:Int)))
     rw [upF_id hf] at hmu
     exact next () { u with lv:=(dropF u.lv).2,ks:=putK u.ks (timeF f,(i:Int)) } w ⟨hOk,k,by omega,hR⟩ h.fin hmu
    have c4:¬ timeF f > now:=by simpa using c4
    rw [if_neg c4] at hR
    have hlen:=hu.len hf
    have hlen1:1≤f.sg.length:=by rw [hss];simp
    have hle:=hu.le
    have hUr:=U_rateA hr i
    have hsent:=hA.sent hss (by omega) hn (U_delay (by have:=(hF.sg s0 (by rw [hss];simp)).2.ln;omega) (U_less hUr hu.cf.r))
    refine w_join h (fun _=>blk n1 zS^rarr s KU rates^blk b (qL u.c p l t u.n)^lst l u.lv^tree 8 t u.ks^But8 p u.fl i^FqC.flow a f) (fun y:Int=>y=rateA rates i) (fun (y:Int) w hy h=>?_) ?_
    ·rw [hy]
     refine w_call (send_tri b p l t u hu.cf (by omega) a f i hF s0 ss hss (by omega) now (rateA rates i) hn hUr) h fun r w h=>?_
     obtain ⟨hr5,h⟩:=h.purP;rw [hr5]
     refine w_setAll h (by rfl) fun w h=>w_ldAll (b:=n1) (x:=s0) h rfl ?_
     have h:=h.inF p u.fl hi8 p (sentF u i f s0 now (rateA rates i)).fl a { f with cr:=f.cr - sLn s0,nx:=addI now (delayI (sLn s0) (lessI (rateA rates i) (cR u.c))),sg:=f.sg.tail } (fun _ _=>rfl) (fun j e=>upF_ne _ _ e) hp (upF_same _ _ _)
     rw [← hR]
     exact Own.retP rfl (h.mkQue b p l t (sentF u i f s0 now (rateA rates i))).fin
    ·refine w_ite (fun c5=>?_) fun c5=>?_
     ·have c5:(i:Int) < s.len:=by simpa using c5
      obtain ⟨x,hx⟩:∃ x,rates[i]?=some x:=⟨_,List.getElem?_eq_getElem (by omega)⟩
      refine w_idx (s:=s) h (by omega) (by omega) ?_
      refine w_ldE h s i (y:=x) hx (by rw [hit];rfl) ?_
      refine ⟨?_,h.fin⟩
      show x=rateA rates i
      unfold rateA;rw [hx]
     ·have c5:¬ (i:Int) < s.len:=by simpa using c5
      refine ⟨?_,h.fin⟩
      show (18446744073709551615:Int)=rateA rates i
      unfold rateA;rw [List.getElem?_eq_none (by omega)]
   ·refine w_deref (w_ld h rfl (w_ite (fun c2=>?_) fun c2=>?_))
    ·simp only [Bool.and_eq_true,beq_iff_eq] at c2
     obtain ⟨c2,c3⟩:=c2
     have c2:sl.len=0:=by have c2:(sl.len:Int)=0:=c2;omega
     have e1:f.sg=[]:=List.eq_nil_of_length_eq_zero (by omega)
     have hne:u.lv.1≠[]:=by
      rcases at_parts hA with ⟨a',h1,_⟩ | ⟨c',_,_,h4,_⟩
      ·rw [h1];simp
      ·rw [c3] at h4;cases h4
     refine w_call (old_tri b p l t u.c u.n u.lv hu.lv hne) h fun r w h=>?_
     obtain ⟨hr3,h⟩:=h.purP;rw [hr3]
     refine ⟨?_,h.fin⟩
     show decide (u.lv.2≠[])=true↔_
     rw [decide_eq_true_eq]
     exact ⟨fun x=>⟨e1,c3,x⟩,fun x=>x.2.2⟩
    ·refine ⟨?_,h.fin⟩
     refine ⟨fun e=>(by cases e),fun ⟨e1,e2,_⟩=>?_⟩
     rw [e1] at hsl
     have:sl.len=0:=by simpa using hsl
     rw [e2,this] at c2
     cases c2
end FqG

namespace FqH
open Arith ArithC Lists _root_.Go.X.Tree TreeC TreeD TreeE TreeF FqM FqC FqD FqE FqG
abbrev plainC:Cf:=(3000,15000,100,50,10000000000,0,false,100000,1000)
theorem u0:U 0:=U_lit 0
theorem plain_may:may plainC=true:=by decide
theorem plain_ok:OkC plainC:=may_ok plain_may (by decide) u0
end FqH

namespace FqK
open Arith ArithC Lists _root_.Go.X.Tree TreeC TreeD TreeE TreeF FqM FqC FqD FqE FqG FqH
def one (c:Cf) (i:Nat) (f:Fl) (lv:LV) (ks:List Key):Qm:=⟨c,upF (fun _=>none) i (some f),lv,ks,f.sg.length⟩
def deqH (now:Int) (rates:List Int) (u:Qm):Option Sg × Qm:=heads now rates (mu u+1) u
theorem deq_eq (v:Qm) (now:Int) (rates:List Int):deqF v now rates=deqH now rates (dueF v now):=rfl
end FqK

namespace FqN
open Arith ArithC Lists _root_.Go.X.Tree TreeC TreeD TreeE TreeF FqM FqC FqD FqE FqG FqH FqK
abbrev sgL (n:Int):Sg:=(0,0,n,0,false)
abbrev l0:LV:=([((0:Nat):Int)],[])
theorem deq_ok {v:Qm} (hv:OkQ v) {now:Int} (hn:U now) {rates:List Int} (hr:∀ x∈rates,U x):OkQ (deqF v now rates).2:=by
 rw [deq_eq]
 unfold deqH
 suffices ∀ k u,OkQ u→OkQ (heads now rates k u).2 from this _ _ (hv.due now)
 intro k
 induction k with
 | zero=>intro u hu;exact hu
 | succ k ih =>
  intro u hu
  cases hh:(headF u.lv).2.2 with
  | false=>rw [heads_no hh];exact hu
  | true =>
   have hmm:=headF_mem hh
   have hx:=hu.lv.2 _ hmm
   obtain ⟨i,hi⟩:∃ i:Nat,(headF u.lv).1=(i:Int):=⟨(headF u.lv).1.toNat,by omega⟩
   obtain ⟨f,hf⟩:=hu.th i (by rw [hi] at hmm;exact hmm)
   have hA:AtH u i f:=⟨hu,hi,hh,hf⟩
   rw [heads_at hA]
   by_cases c:f.cr≤0
   ·rw [if_pos c]
    exact ih _ (hA.credit c)
   ·rw [if_neg c]
    cases hs:f.sg with
    | nil =>
     simp only
     split
     ·exact ih _ hA.back
     ·rw [← hs]
      exact ih _ (hA.nowhere hs hn)
    | cons s l =>
     simp only
     split
     ·exact ih _ (hA.wait (by rw [hs];simp)).1
     ·have hF:=(hu.fl i f hf).2
      exact hA.sent hs (by omega) hn (U_delay (by have:=(hF.sg s (by rw [hs];simp)).2.ln;omega) (U_less (U_rateA hr i) hu.cf.r))
end FqN

namespace FqQ
open Arith ArithC Lists _root_.Go.X.Tree TreeC TreeD TreeE TreeF FqM FqC FqD FqE FqG FqH FqK FqN
def Same (u v:Qm):Prop:=∀ i,(v.fl i).map (fun f=>(f.nx,f.sg))=(u.fl i).map fun f=>(f.nx,f.sg)
end FqQ

namespace FqR
open Arith ArithC Lists _root_.Go.X.Tree TreeC TreeD TreeE TreeF FqM FqC FqD FqE FqG FqH FqK FqN FqQ
abbrev KD:Ks:=[.int .i64,.int .u64,.int .i64,.int .u64,.int .i64,.int .u64,.bool,.sl,.int .i64,.int .i64,.int .i64,.int .i64,.int .u64,.int .u64,.bool,.int .i64,.int .i64,.bool]
abbrev DD:=Ks.T KD
abbrev dG (d:DD):Int:=d.2.1
abbrev dS (d:DD):Sg:=(d.2.2.1,d.2.2.2.1,d.2.2.2.2.1,d.2.2.2.2.2.1,d.2.2.2.2.2.2.1)
abbrev dR (d:DD):Sl:=d.2.2.2.2.2.2.2.1
abbrev dC (d:DD):Cf:=(d.2.2.2.2.2.2.2.2.1,d.2.2.2.2.2.2.2.2.2.1,d.2.2.2.2.2.2.2.2.2.2.1,d.2.2.2.2.2.2.2.2.2.2.2.1,d.2.2.2.2.2.2.2.2.2.2.2.2.1,d.2.2.2.2.2.2.2.2.2.2.2.2.2.1,d.2.2.2.2.2.2.2.2.2.2.2.2.2.2.1,d.2.2.2.2.2.2.2.2.2.2.2.2.2.2.2.1,d.2.2.2.2.2.2.2.2.2.2.2.2.2.2.2.2.1)
abbrev OpD:=DD × List Int
structure OkD (p:OpD):Prop where
 g:U (dG p.1)
 s:U (sFr (dS p.1))∧U (sSt (dS p.1))
 c:0≤cH (dC p.1)∧U (cR (dC p.1))
 r:∀ y∈p.2,U y
end FqR

namespace FqT
open Arith ArithC Lists _root_.Go.X.Tree TreeC TreeD TreeE TreeF FqM FqC FqD FqE FqG FqH FqK FqN FqQ FqR
def upL (g:Nat→List Int) (i:Nat) (x:List Int):Nat→List Int:=fun j=>if j=i then x else g j
abbrev sL (s:Nat→Sl):List Lf:=[.sl (s 0),.sl (s 1),.sl (s 2),.sl (s 3),.sl (s 4),.sl (s 5),.sl (s 6),.sl (s 7)]
section
variable {w0 w : World} {S0 R0 : Nat → Prop} {F G : SP}
end
end FqT

namespace Board
abbrev Pc:=Ks.T K_u6b3
def brd (b:Nat) (v:List Pc × Int):SP:=ex fun s=>blk b [.sl s,.int .u64 v.2]^arr s K_u6b3 v.1
abbrev Snt:=Ks.T K_u4b
def mkPc (f t:Int) (s:Snt):Pc:=(f,t,s.1,s.2.1,s.2.2.1,s.2.2.2.1,s.2.2.2.2,false,false)
def sentF (v:List Pc × Int) (f t:Int) (s:Snt):Int × (List Pc × Int) :=
 if f≠v.2∨t≤f then (1,v) else if 4096≤v.1.length then (5,v) else (0,(v.1++[mkPc f t s],t))
instance (b:Nat) (v:List Pc × Int):NoR (brd b v):=by unfold brd;infer_instance
theorem _root_.Go.X.Own.brd {w0 w:World} {S0 R0:Nat→Prop} {F G:SP} {v:List Pc × Int} (h:Own w0 S0 R0 w F) (b:Nat) [t:TakeK Board.brd b F v G]:∃ s,Own w0 S0 R0 w (blk b [.sl s,.int .u64 v.2]^arr s K_u6b3 v.1^G):=by
 obtain ⟨s,h⟩:=(h.le t.le).exP
 exact ⟨s,h.le (star_assoc _ _ _)⟩
theorem _root_.Go.X.Own.mkBrd {w0 w:World} {S0 R0:Nat→Prop} {F G:SP} (h:Own w0 S0 R0 w F) (b:Nat) (s:Sl) (l:List Pc) (e:Int) [t:Take (blk b [.sl s,.int .u64 e]^arr s K_u6b3 l) F G]:Own w0 S0 R0 w (Board.brd b (l,e)^G) :=
 (h.le t.le).toEx (f:=fun s=>blk b [.sl s,.int .u64 e]^arr s K_u6b3 l) s
theorem new_tri:Tri Tryz.prog N_board_New [] [.lf .ptr] emp (fun r=>ex fun b=>pur (r=some ⟨b,0⟩) (brd b ([],0))) :=
 tri_0 call_board_New fun w S R h=>by
  unfold W_board_New
  refine w_new h fun n1 w h=>?_
  exact Own.retE n1 (Own.retP rfl ((h.nil K_u6b3).mkBrd n1 ⟨none,0,0⟩ [] 0).keep)
theorem sent_tri (b:Nat) (f t:Int) (s:Snt) (v:List Pc × Int) :
  Tri Tryz.prog N_board_Board_Sent [.lf (.ptr (some ⟨b,0⟩)),.lf (.int .u64 f),.lf (.int .u64 t),.agg (Ks.mk K_u4b s)] [.lf (.int .i64)] (brd b v)
   (fun r=>pur (r=(sentF v f t s).1) (brd b (sentF v f t s).2)) :=
 tri_0 (call_board_Board_Sent _ _ _ _) fun w S R h=>by
  unfold W_board_Board_Sent
  refine w_new h fun n1 w h=>?_
  refine w_ite (by simp) fun _=>?_
  obtain ⟨sl,h⟩:=h.brd b
  have hlen:=(h.rd (s:=sl)).2
  refine w_deref (w_ld h rfl ?_)
  refine w_ite (fun hc=>?_) fun hc=>?_
  ·have e1:sentF v f t s=(1,v):=by simp at hc;simp [sentF,hc]
   rw [e1]
   exact Own.retP rfl (h.mkBrd b sl v.1 v.2).keep
  ·refine w_deref (w_ld h rfl ?_)
   refine w_ite (fun hc2=>?_) fun hc2=>?_
   ·have e1:sentF v f t s=(5,v):=by
     simp at hc hc2
     rw [sentF,if_neg (by omega),if_pos (by omega)]
    rw [e1]
    exact Own.retP rfl (h.mkBrd b sl v.1 v.2).keep
   ·have e1:sentF v f t s=(0,(v.1++[mkPc f t s],t)):=by
     simp at hc hc2
     rw [sentF,if_neg (by omega),if_neg (by omega)]
    rw [e1]
    refine w_drw h fun w h=>?_
    refine w_ld h rfl ?_
    refine w_deref (w_ld h rfl ?_)
    refine w_new h fun n9 w h=>?_
    refine w_chk h rfl ?_
    have h:=h.blkArr n9 K_u6b3 [mkPc f t s] rfl (by simp)
    refine w_app h rfl (by simp at hc2 ⊢;omega) fun s10 w hl h=>?_
    refine w_deref (w_set h rfl fun w h=>?_)
    dsimp only [upd,over] at h
    refine w_deref (w_set h rfl fun w h=>?_)
    dsimp only [upd,over] at h
    exact Own.retP rfl (h.mkBrd b s10 (v.1++[mkPc f t s]) t).keep
theorem rg_index_tri (s:Sl) (f:Fv) (C:SP) (xs:List (Ks.T KR)) (p:Ks.T KR→Bool) (hl:xs.length≤4294967296) (hf:∀ x∈xs,TriV Tryz.prog f [.agg (Ks.mk KR x)] [.lf .bool] C (fun r=>pur (r=p x) C)) :
  Tri Tryz.prog N_slices_IndexFunc_sapiRangeapiRange [.lf (.sl s),.lf (.fn f)] [.lf (.int .i64)] (C^rarr s KR xs) (fun r=>pur (r=fI p xs) C) :=
 tri_0 (call_slices_IndexFunc_sapiRangeapiRange _ _) fun w S R h=>by
  unfold W_slices_IndexFunc_sapiRangeapiRange
  have hsl:=(h.rd (s:=s)).2
  refine w_loop (fun _=>C^rarr s KR xs) (fun (y:Int)=>0≤y∧y.toNat≤xs.length∧∀ j y',j < y.toNat→xs[j]?=some y'→p y'=false) (fun (y:Int)=>xs.length - y.toNat) h ⟨Int.le_refl 0,by simp,fun j _ hj=>by simp at hj⟩ ?_
  rintro (y:Int) w ⟨h0,h1,h2⟩ h
  refine w_ite (fun c=>?_) fun c=>?_
  ·have hy:y.toNat < xs.length:=by simp at c;omega
   refine w_idx h h0 hy ?_
   refine w_ldA h s y.toNat 0 _ (at_some hy) rfl (by decide) (un_mk (ks:=KR)) ?_
   refine w_callv (hf _ (List.getElem_mem hy)) h fun r w h=>?_
   obtain ⟨hr,h⟩:=h.purP
   have hw:IntKind.i64.wrap (y+1)=y+1:=wi (by omega) (by omega)
   refine w_ite (fun c=>?_) fun c=>?_
   ·refine Own.retP ?_ h.fin
    rw [fI_at (at_some hy) (by rw [← hr];exact c) h2];exact (Int.toNat_of_nonneg h0).symm
   ·rw [hw]
    refine ⟨⟨⟨(by show (0:Int)≤y+1;omega),(by show (y+1).toNat≤_;omega),fun j y' hj hy'=>?_⟩,h⟩,(by show _ - (y+1).toNat < _;omega)⟩
    have hj:j < (y+1).toNat:=hj
    by_cases hjy:j=y.toNat
    ·subst hjy
     rw [at_some hy] at hy'
     cases hy'
     rw [← hr];exact c
    ·exact h2 j y' (by omega) hy'
  ·refine Own.retP ?_ h.fin
   rw [fI_none]
   intro x hx
   obtain ⟨j,hj,rfl⟩:=List.mem_iff_getElem.1 hx
   refine h2 j _ ?_ (at_some hj)
   simp at c;omega
theorem rg_contains_tri (s:Sl) (f:Fv) (C:SP) (xs:List (Ks.T KR)) (p:Ks.T KR→Bool) (hl:xs.length≤4294967296) (hf:∀ x∈xs,TriV Tryz.prog f [.agg (Ks.mk KR x)] [.lf .bool] C (fun r=>pur (r=p x) C)) :
  Tri Tryz.prog N_slices_ContainsFunc_sapiRangeapiRange [.lf (.sl s),.lf (.fn f)] [.lf .bool] (C^rarr s KR xs) (fun r=>pur (r=xs.any p) C) :=
 tri_0 (call_slices_ContainsFunc_sapiRangeapiRange _ _) fun w S R h=>by
  unfold W_slices_ContainsFunc_sapiRangeapiRange
  refine w_call (rg_index_tri s f C xs p hl hf) h fun r w h=>?_
  obtain ⟨hr,h⟩:=h.purP
  rw [hr]
  exact Own.retP (fI_any p xs) h.keep
def mkAll (n:Nat):Fv:=.mk (.func N_board_Board_All_c1) [] [V1.enc (.lf (.ptr (some ⟨n,0⟩)))]
theorem all_tri (b:Nat):Tri Tryz.prog N_board_Board_All [.lf (.ptr (some ⟨b,0⟩))] [.lf .fn] emp (fun f=>ex fun n=>pur (f=mkAll n) (blk n [.ptr (some ⟨b,0⟩)])) :=
 tri_0 (call_board_Board_All _) fun w S R h=>by
  unfold W_board_Board_All
  refine w_new h fun n1 w h=>?_
  exact Own.retE n1 (Own.retP rfl h.keep)
theorem all_iter (n b:Nat) (v:List Pc × Int) (hl:v.1.length≤4294967296):Iter Tryz.prog (mkAll n) (blk n [.ptr (some ⟨b,0⟩)]^brd b v) [.agg K_u6b3] v.1:=by
 intro y I D hy
 refine Tri.g (f:=N_board_Board_All_c1) (args:=[.lf (.fn y)]) (caps:=[.lf (.ptr (some ⟨n,0⟩))]) (tri_0 (call_board_Board_All_c1 y ⟨n,0⟩) fun w S R h=>?_)
 unfold W_board_Board_All_c1
 refine w_ld h rfl ?_
 refine w_ite (fun c=>(by cases c)) fun c=>?_
 refine w_ld h rfl ?_
 obtain ⟨s,h⟩:=h.brd b
 have hs:=(h.rd (s:=s)).2
 refine w_deref (w_ld h rfl ?_)
 have h:Own _ _ _ _ (blk b [.sl s,.int .u64 v.2]^arr s K_u6b3 v.1^blk n [.ptr (some ⟨b,0⟩)]^I 0):=h.fin
 refine w_loop (fun (y:Int)=>blk b [.sl s,.int .u64 v.2]^arr s K_u6b3 v.1^blk n [.ptr (some ⟨b,0⟩)]^I y.toNat) (fun (y:Int)=>0≤y∧y.toNat≤v.1.length) (fun (y:Int)=>v.1.length - y.toNat) h ⟨Int.le_refl 0,by simp⟩ ?_
 rintro (i:Int) w ⟨h0,h1⟩ h
 refine w_ite (fun c=>?_) fun c=>?_
 ·have hi:i.toNat < v.1.length:=by simp at c;omega
  refine w_idx h h0 hi ?_
  refine w_ldE h s i.toNat (at_some hi) rfl ?_
  refine w_new h fun n9 w h=>?_
  refine w_setAll h (by rfl) fun w h=>?_
  refine w_ldAll h rfl ?_
  refine w_callv (hy i.toNat _ (at_some hi)) h fun r w h=>?_
  refine w_ite (fun c=>?_) fun c=>?_
  ·have hr:r=false:=by simpa using c
   rw [hr] at h
   have h:Own _ _ _ _ (D^_):=h
   have h:=(h.eitherR (I v.1.length)).mkBrd b s v.1 v.2
   exact h.fin
  ·have hr:r=true:=by simpa using c
   rw [hr] at h
   have h:Own _ _ _ _ (I (i.toNat+1)^_):=h
   rw [wi (by omega) (by omega)]
   have e:(i+1).toNat=i.toNat+1:=by omega
   refine ⟨⟨⟨(by show (0:Int)≤i+1;omega),(by show (i+1).toNat≤_;omega)⟩,?_⟩,(by show _ - (i+1).toNat < _;omega)⟩
   show Own _ _ _ _ (blk b [.sl s,.int .u64 v.2]^arr s K_u6b3 v.1^blk n [.ptr (some ⟨b,0⟩)]^I (i+1).toNat)
   rw [e]
   exact h.fin
 ·have hi:i.toNat=v.1.length:=by simp at c;omega
  rw [hi] at h
  have h:=h.take (I v.1.length)
  have h:=(h.eitherL D).mkBrd b s v.1 v.2
  exact h.fin
abbrev pFrom (p:Pc):Int:=p.1
abbrev pTo (p:Pc):Int:=p.2.1
abbrev pSk (p:Pc):Bool:=p.2.2.2.2.2.2.2.1
abbrev pLo (p:Pc):Bool:=p.2.2.2.2.2.2.2.2
def flyP (p:Pc):Bool:=!pSk p && !pLo p
theorem flying_tri (p:Pc):Tri Tryz.prog N_board_flying [.agg (Ks.mk K_u6b3 p)] [.lf .bool] emp (fun r=>pur (r=flyP p) emp) :=
 tri_0 (call_board_flying p) fun w S R h=>by
  unfold W_board_flying
  refine w_new h fun n1 w h=>?_
  refine w_ld h rfl ?_
  refine w_ite (fun c=>?_) fun c=>?_
  ·refine w_ld h rfl ?_
   refine Own.retP ?_ h.fin
   show (!pLo p)=flyP p
   have c:(!pSk p)=true:=c
   simp [flyP,c]
  ·refine Own.retP ?_ h.fin
   have c:(!pSk p)=false:=c
   simp [flyP,c]
def addF (n:Int) (p:Pc):Int:=if flyP p then IntKind.u64.wrap (n+IntKind.u64.wrap (pTo p - pFrom p)) else n
def flightF (l:List Pc):Int:=l.foldl addF 0
theorem flight_take {l:List Pc} {i:Nat} {x:Pc} (h:l[i]?=some x):flightF (l.take (i+1))=addF (flightF (l.take i)) x:=by
 rw [List.take_add_one,h];simp [flightF]
theorem flight_tri (b:Nat) (v:List Pc × Int) (hl:v.1.length≤4294967296):Tri Tryz.prog N_board_Board_Flight [.lf (.ptr (some ⟨b,0⟩))] [.lf (.int .u64)] (brd b v) (fun r=>pur (r=flightF v.1) (brd b v)) :=
 tri_n (W:=fun n R=>W_board_Board_Flight n (some ⟨b,0⟩) R) (call_board_Board_Flight _) fun w S R h=>by
  unfold W_board_Board_Flight
  refine w_new h fun n1 w h=>?_
  refine w_set h rfl fun w h=>?_
  dsimp only [upd,over] at h
  refine w_call (all_tri b) (h.le (star_emp _)) fun f w h=>?_
  obtain ⟨n,h⟩:=h.exP
  obtain ⟨hf,h⟩:=h.purP
  rw [hf]
  have h:=h.take (blk n1 [.int .u64 0])
  have h:Own _ _ _ _ (blk n1 [.int .u64 (flightF (v.1.take 0))]^_):=h
  refine w_range (all_iter n b v hl) (fun i=>blk n1 [.int .u64 (flightF (v.1.take i))]) (fun _=>pur False emp) h ?_ ?_ ?_
  ·intro i x hx w S R mid next jump rdy bsy hmid hnext hjump h
   refine w_new h fun n7 w h=>?_
   refine w_setAll h (by rfl) fun w h=>?_
   refine hmid h fun w h=>?_
   refine w_ldAll h rfl ?_
   refine w_call (flying_tri x) h fun r w h=>?_
   obtain ⟨hr,h⟩:=h.purP
   refine w_ite (fun c=>?_) fun c=>?_
   ·refine w_ld h rfl ?_
    refine w_ld h rfl ?_
    refine w_ld h rfl ?_
    refine w_set h rfl fun w h=>?_
    dsimp only [upd,over] at h
    have e:flightF (v.1.take (i+1))=IntKind.u64.wrap (flightF (v.1.take i)+IntKind.u64.wrap (pTo x - pFrom x)):=by
     rw [flight_take hx,addF,if_pos (by rw [← hr];exact c)]
    rw [← e] at h
    exact hnext h
   ·have e:flightF (v.1.take (i+1))=flightF (v.1.take i):=by
     rw [flight_take hx,addF,if_neg (by rw [← hr,c];simp)]
    rw [← e] at h
    exact hnext h
  ·intro w h
   have h:=h.take (blk n1 [.int .u64 (flightF (v.1.take v.1.length))])
   refine w_ld h rfl ?_
   refine w_leave h fun w h=>?_
   rw [List.take_length]
   exact Own.retP rfl h.fin
  ·intro j w hj h
   exact (h.take (pur False emp)).purP.1.elim
def outF (e:Int) (r:Int × Int):Bool:=decide (r.2 > e) || decide (r.1 ≥ r.2)
theorem mayc_tri (r:Int × Int) (n b:Nat) (v:List Pc × Int):Tri Tryz.prog N_board_Board_may_c1 [.agg (Ks.mk KR r),.lf (.ptr (some ⟨n,0⟩))] [.lf .bool] (blk n [.ptr (some ⟨b,0⟩)]^brd b v) (fun x=>pur (x=outF v.2 r) (blk n [.ptr (some ⟨b,0⟩)]^brd b v)) :=
 tri_0 (call_board_Board_may_c1 r ⟨n,0⟩) fun w S R h=>by
  unfold W_board_Board_may_c1
  refine w_new h fun n1 w h=>?_
  refine w_drw h fun w h=>?_
  refine w_ld h rfl ?_
  refine w_ld h rfl ?_
  obtain ⟨s,h⟩:=h.brd b
  refine w_deref (w_ld h rfl ?_)
  have h:=h.mkBrd b s v.1 v.2
  refine w_ite (fun c=>?_) fun c=>?_
  ·refine Own.retP ?_ h.fin
   simp at c;simp [outF,c]
  ·refine w_ld h rfl ?_
   refine w_ld h rfl ?_
   refine Own.retP ?_ h.fin
   simp at c;simp [outF];intro;omega
def mayF (v:List Pc × Int) (upto:Int) (xs:List (Int × Int)):Bool:=decide (upto≤v.2) && !xs.any (outF v.2)
theorem may_tri (b:Nat) (v:List Pc × Int) (upto:Int) (s:Sl) (xs:List (Ks.T KR)) (hl:xs.length≤4294967296) :
  Tri Tryz.prog N_board_Board_may [.lf (.ptr (some ⟨b,0⟩)),.lf (.int .u64 upto),.lf (.sl s)] [.lf .bool] (brd b v^rarr s KR xs) (fun x=>pur (x=mayF v upto xs) (brd b v)) :=
 tri_0 (call_board_Board_may _ _ _) fun w S R h=>by
  unfold W_board_Board_may
  refine w_new h fun n1 w h=>?_
  refine w_ld h rfl ?_
  obtain ⟨s',h⟩:=h.brd b
  refine w_deref (w_ld h rfl ?_)
  have h:=h.mkBrd b s' v.1 v.2
  refine w_ite (fun c=>?_) fun c=>?_
  ·refine w_call (rg_contains_tri s _ (blk n1 [.ptr (some ⟨b,0⟩)]^brd b v) xs (outF v.2) hl (fun x _=>(Tri.g (f:=N_board_Board_may_c1) (args:=[.agg (Ks.mk KR x)]) (caps:=[.lf (.ptr (some ⟨n1,0⟩))]) (mayc_tri x n1 b v)).v)) h fun r w h=>?_
   obtain ⟨hr,h⟩:=h.purP
   refine Own.retP ?_ h.fin
   simp at c;simp [mayF,c,hr]
  ·refine Own.retP ?_ h.fin
   simp at c;simp [mayF];intro;omega
def inF (p:Pc) (r:Int × Int):Bool:=decide (r.1≤p.1) && decide (r.2 ≥ p.2.1)
theorem holdsc_tri (r:Int × Int) (n:Nat) (p:Pc):Tri Tryz.prog N_board_holds_c1 [.agg (Ks.mk KR r),.lf (.ptr (some ⟨n,0⟩))] [.lf .bool] (blk n (Ks.mk K_u6b3 p)) (fun x=>pur (x=inF p r) (blk n (Ks.mk K_u6b3 p))) :=
 tri_0 (call_board_holds_c1 r ⟨n,0⟩) fun w S R h=>by
  unfold W_board_holds_c1
  refine w_new h fun n1 w h=>?_
  refine w_ld h rfl ?_
  refine w_ld h rfl ?_
  refine w_ite (fun c=>?_) fun c=>?_
  ·refine w_ld h rfl ?_
   refine w_ld h rfl ?_
   refine Own.retP ?_ h.fin
   simp at c;simp [inF,c]
  ·refine Own.retP ?_ h.fin
   simp at c;simp [inF];intro;omega
theorem holds_tri (p:Pc) (s:Sl) (xs:List (Ks.T KR)) (hl:xs.length≤4294967296) :
  Tri Tryz.prog N_board_holds [.lf (.sl s),.agg (Ks.mk K_u6b3 p)] [.lf .bool] (emp^rarr s KR xs) (fun x=>pur (x=xs.any (inF p)) emp) :=
 tri_0 (call_board_holds _ _) fun w S R h=>by
  unfold W_board_holds
  refine w_new h fun n1 w h=>?_
  refine w_call (rg_contains_tri s _ (blk n1 (Ks.mk K_u6b3 p)) xs (inF p) hl (fun x _=>(Tri.g (f:=N_board_holds_c1) (args:=[.agg (Ks.mk KR x)]) (caps:=[.lf (.ptr (some ⟨n1,0⟩))]) (holdsc_tri x n1 p)).v)) h fun r w h=>?_
  obtain ⟨hr,h⟩:=h.purP
  exact Own.retP hr h.fin
def setLo (p:Pc) (x:Bool):Pc:=(p.1,p.2.1,p.2.2.1,p.2.2.2.1,p.2.2.2.2.1,p.2.2.2.2.2.1,p.2.2.2.2.2.2.1,p.2.2.2.2.2.2.2.1,x)
def abvF (p:Pc) (a:Int):Int:=if pSk p then IntKind.i64.wrap (a+1) else a
def hitF (p:Pc) (a:Int):Bool:=flyP p && decide (abvF p a ≥ 3)
def passF:List Pc→List Pc × Int × Int
 | []=>([],0,0)
 | p :: l=>let r:=passF l
  (if hitF p r.2.2 then setLo p true :: r.1 else p :: r.1,if hitF p r.2.2 then IntKind.u64.wrap (r.2.1+IntKind.u64.wrap (p.2.1 - p.1)) else r.2.1,abvF p r.2.2)
theorem pass_len:∀ l:List Pc,(passF l).1.length=l.length
 | []=>rfl
 | p :: l=>by simp only [passF];split<;>simp [pass_len l]
theorem passed_tri (b:Nat) (v:List Pc × Int) (hl:v.1.length≤4294967296) :
  Tri Tryz.prog N_board_Board_passed [.lf (.ptr (some ⟨b,0⟩))] [.lf (.int .u64)] (brd b v) (fun x=>pur (x=(passF v.1).2.1) (brd b ((passF v.1).1,v.2))) :=
 tri_0 (call_board_Board_passed _) fun w S R h=>by
  unfold W_board_Board_passed
  obtain ⟨s,h⟩:=(h.le (star_emp _)).brd b
  have hs:=(h.rd (s:=s)).2
  refine w_deref (w_ld h rfl ?_)
  rw [wi (n:=((s.len:Nat):Int) - 1) (by omega) (by omega)]
  have e0:v.1.take (((s.len:Nat):Int) - 1+1).toNat++(passF (v.1.drop (((s.len:Nat):Int) - 1+1).toNat)).1=v.1:=by
   have e:(((s.len:Nat):Int) - 1+1).toNat=v.1.length:=by omega
   rw [e];simp [passF]
  have e1:passF (v.1.drop (((s.len:Nat):Int) - 1+1).toNat)=([],0,0):=by
   have e:(((s.len:Nat):Int) - 1+1).toNat=v.1.length:=by omega
   rw [e];simp [passF]
  have h:=h.take (blk b [.sl s,.int .u64 v.2]^arr s K_u6b3 v.1)
  have h:=h.keep
  refine w_loop (fun (y:Int × Int × Int)=>blk b [.sl s,.int .u64 v.2]^arr s K_u6b3 (v.1.take (y.2.2+1).toNat++(passF (v.1.drop (y.2.2+1).toNat)).1))
   (fun (y:Int × Int × Int)=>(-1≤y.2.2∧y.2.2 < v.1.length)∧y.1=(passF (v.1.drop (y.2.2+1).toNat)).2.1∧y.2.1=(passF (v.1.drop (y.2.2+1).toNat)).2.2) (fun (y:Int × Int × Int)=>(y.2.2+1).toNat) (by rw [e0];exact h) ⟨⟨by show (-1:Int)≤_ - 1;omega,by show ((s.len:Nat):Int) - 1 < _;omega⟩,by rw [e1],by rw [e1]⟩ ?_
  rintro (⟨lost,above,i⟩:Int × Int × Int) w ⟨⟨h0,h1⟩,h2,h3⟩ h
  dsimp only at h0 h1 h2 h3 h ⊢
  refine w_ite (fun c=>?_) fun c=>?_
  ·have c:0≤i:=by simpa using c
   obtain ⟨k,hk⟩:∃ k:Nat,i=k:=⟨i.toNat,by omega⟩
   have hk1:(i+1).toNat=k+1:=by omega
   have hk0:i.toNat=k:=by omega
   have hkl:k < v.1.length:=by omega
   rw [hk1] at h2 h3 h
   obtain ⟨p,hp⟩:∃ p,v.1[k]?=some p:=⟨_,at_some hkl⟩
   have hd:=drop_at hp
   obtain ⟨xs,hxs⟩:∃ xs,xs=v.1.take (k+1)++(passF (v.1.drop (k+1))).1:=⟨_,rfl⟩
   have hxk:xs[i.toNat]?=some p:=by
    rw [hk0,hxs,List.getElem?_append_left (by rw [List.length_take];omega),List.getElem?_take,if_pos (by omega),hp]
   have hxl:i.toNat < xs.length:=(List.getElem?_eq_some_iff.1 hxk).1
   rw [← hxs] at h
   have hpass:passF (v.1.drop k)=(if hitF p above then setLo p true :: (passF (v.1.drop (k+1))).1 else p :: (passF (v.1.drop (k+1))).1,if hitF p above then IntKind.u64.wrap (lost+IntKind.u64.wrap (p.2.1 - p.1)) else lost,abvF p above):=by
    rw [hd,passF,h2,h3]
   refine w_deref (w_ld h rfl ?_)
   refine w_idx h c hxl ?_
   refine w_join h (fun _=>blk b [.sl s,.int .u64 v.2]^arr s K_u6b3 xs) (fun (y:Int)=>y=abvF p above) (fun (y:Int) w hy h=>?_) ?_
   ·refine w_deref (w_ldE h s i.toNat hxk rfl ?_)
    refine w_call (flying_tri p) h fun r w h=>?_
    obtain ⟨hr,h⟩:=h.purP
    have hw:IntKind.i64.wrap (i - 1)=i - 1:=wi (by omega) (by omega)
    have hhit:(r && decide (y ≥ 3))=hitF p above:=by rw [hr,hy];rfl
    have hk2:(i - 1+1).toNat=k:=by omega
    have ht:v.1.take (k+1)=v.1.take k++[p]:=by rw [List.take_add_one,hp];rfl
    have hlt:(v.1.take k).length=k:=by rw [List.length_take];omega
    refine w_ite (fun c2=>?_) fun c2=>?_
    ·rw [hhit] at c2
     rw [c2] at hpass
     simp only [if_true] at hpass
     refine w_deref (w_stA h s i.toNat 8 p (setLo p true) hxk rfl (by decide) (by simp) rfl fun w h=>?_)
     have hset:xs.set i.toNat (setLo p true)=v.1.take k++(passF (v.1.drop k)).1:=by
      rw [hpass,hxs,hk0,ht,List.append_assoc,List.set_append_right _ _ (by omega),hlt]
      simp
     have hx2:(xs.set i.toNat (setLo p true))[i.toNat]?=some (setLo p true):=by rw [List.getElem?_set_self hxl]
     refine w_drw h fun w h=>?_
     refine w_deref (w_deref ?_)
     refine w_ldA h s i.toNat 1 _ hx2 rfl (by decide) rfl ?_
     refine w_ldA h s i.toNat 0 _ hx2 rfl (by decide) rfl ?_
     rw [hw]
     refine ⟨⟨⟨⟨by show (-1:Int)≤i - 1;omega,by show i - 1 < _;omega⟩,?_,?_⟩,?_⟩,by show (i - 1+1).toNat < (i+1).toNat;omega⟩
     ·show _=(passF (v.1.drop (i - 1+1).toNat)).2.1
      rw [hk2,hpass];rfl
     ·show y=(passF (v.1.drop (i - 1+1).toNat)).2.2
      rw [hk2,hpass];exact hy
     ·show Own _ _ _ _ (blk b [.sl s,.int .u64 v.2]^arr s K_u6b3 (v.1.take (i - 1+1).toNat++(passF (v.1.drop (i - 1+1).toNat)).1))
      rw [hk2,← hset]
      exact h.fin
    ·rw [hhit] at c2
     rw [c2] at hpass
     simp only [Bool.false_eq_true,if_false] at hpass
     rw [hw]
     have hsame:xs=v.1.take k++(passF (v.1.drop k)).1:=by rw [hpass,hxs,ht];simp
     refine ⟨⟨⟨⟨by show (-1:Int)≤i - 1;omega,by show i - 1 < _;omega⟩,?_,?_⟩,?_⟩,by show (i - 1+1).toNat < (i+1).toNat;omega⟩
     ·show _=(passF (v.1.drop (i - 1+1).toNat)).2.1
      rw [hk2,hpass]
     ·show y=(passF (v.1.drop (i - 1+1).toNat)).2.2
      rw [hk2,hpass];exact hy
     ·show Own _ _ _ _ (blk b [.sl s,.int .u64 v.2]^arr s K_u6b3 (v.1.take (i - 1+1).toNat++(passF (v.1.drop (i - 1+1).toNat)).1))
      rw [hk2,← hsame]
      exact h.fin
   ·refine w_deref (w_ldA h s i.toNat 7 p hxk rfl (by decide) rfl ?_)
    refine w_ite (fun c2=>?_) fun c2=>?_
    ·exact ⟨by have c2:pSk p=true:=c2;simp [abvF,c2],h⟩
    ·exact ⟨by have c2:pSk p=false:=c2;simp [abvF,c2],h⟩
  ·have c:i=-1:=by simp at c;omega
   rw [c] at h2 h3 h
   simp only [show ((-1:Int)+1).toNat=0 from rfl,List.drop_zero,List.take_zero,List.nil_append] at h2 h
   refine Own.retP h2 ?_
   exact (h.mkBrd b s (passF v.1).1 v.2).fin
def setSk (p:Pc):Pc:=(p.1,p.2.1,p.2.2.1,p.2.2.2.1,p.2.2.2.2.1,p.2.2.2.2.2.1,p.2.2.2.2.2.2.1,true,false)
def toldP (upto:Int) (xs:List (Int × Int)) (p:Pc):Bool:=!pSk p && (decide (p.2.1≤upto) || xs.any (inF p))
def markP (upto:Int) (xs:List (Int × Int)) (p:Pc):Pc:=if toldP upto xs p then setSk p else p
def toldL (upto:Int) (xs:List (Int × Int)) (l:List Pc):List Pc:=l.filter (toldP upto xs)
def restL (upto:Int) (xs:List (Int × Int)) (l:List Pc):List Pc:=(l.filter (fun p=>!decide (p.2.1≤upto))).map (markP upto xs)
theorem toldL_take {upto:Int} {xs:List (Int × Int)} {l:List Pc} {k:Nat} {p:Pc} (h:l[k]?=some p):toldL upto xs (l.take (k+1))=toldL upto xs (l.take k)++(if toldP upto xs p then [p] else []):=by
 rw [List.take_add_one,h,toldL,List.filter_append,toldL];congr 1
 simp [List.filter_cons]
theorem restL_take {upto:Int} {xs:List (Int × Int)} {l:List Pc} {k:Nat} {p:Pc} (h:l[k]?=some p):restL upto xs (l.take (k+1))=restL upto xs (l.take k)++(if p.2.1≤upto then [] else [markP upto xs p]):=by
 rw [List.take_add_one,h,restL,List.filter_append,List.map_append,restL];congr 1
 by_cases hc:p.2.1≤upto<;>simp [hc]
theorem toldL_len (upto:Int) (xs:List (Int × Int)) (l:List Pc) (k:Nat):(toldL upto xs (l.take k)).length≤k:=Nat.le_trans (List.length_filter_le _ _) (by rw [List.length_take];omega)
theorem restL_len (upto:Int) (xs:List (Int × Int)) (l:List Pc) (k:Nat):(restL upto xs (l.take k)).length≤k:=by rw [restL,List.length_map];exact Nat.le_trans (List.length_filter_le _ _) (by rw [List.length_take];omega)
theorem ack_no2_tri (b:Nat) (v:List Pc × Int) (upto:Int) (s:Sl) (xs:List (Ks.T KR)) (hx:xs.length≤4294967296) (hm:mayF v upto xs=false) :
  Tri Tryz.prog N_board_Board_Ack [.lf (.ptr (some ⟨b,0⟩)),.lf (.int .u64 upto),.lf (.sl s)] [.lf .sl,.lf (.int .u64),.lf (.int .i64)] (brd b v^rarr s KR xs) (fun r=>pur (r.1=⟨none,0,0⟩∧r.2.1=0∧r.2.2=11) (brd b v)) :=
 tri_0 (call_board_Board_Ack _ _ _) fun w S R h=>by
  unfold W_board_Board_Ack
  refine w_ite (fun c=>(by cases c)) fun c=>?_
  refine w_callL (may_tri b v upto s xs hx) h fun r w h=>?_
  obtain ⟨hr,h⟩:=h.purP
  refine w_ite (fun c=>?_) fun c=>?_
  ·exact Own.retP ⟨rfl,rfl,rfl⟩ h.fin
  ·rw [hr,hm] at c;cases c
theorem ack_tri (b:Nat) (v:List Pc × Int) (upto:Int) (a:Sl) (xs:List (Ks.T KR)) (hl:v.1.length≤4294967295) (hx:xs.length≤4294967296) (hm:mayF v upto xs=true) :
  Tri Tryz.prog N_board_Board_Ack [.lf (.ptr (some ⟨b,0⟩)),.lf (.int .u64 upto),.lf (.sl a)] [.lf .sl,.lf (.int .u64),.lf (.int .i64)] (brd b v^rarr a KR xs)
   (fun r=>pur (r.2.1=(passF (restL upto xs v.1)).2.1∧r.2.2=0) (arr r.1 K_u6b3 (toldL upto xs v.1)^brd b ((passF (restL upto xs v.1)).1,v.2))) :=
 tri_0 (call_board_Board_Ack _ _ _) fun w S R h=>by
  unfold W_board_Board_Ack
  refine w_ite (fun c=>(by cases c)) fun c=>?_
  refine w_callL (Q:=rarr a KR xs) (may_tri b v upto a xs hx) h fun r w h=>?_
  obtain ⟨hr,h⟩:=h.purP
  refine w_ite (fun c=>by rw [hr,hm] at c;cases c) fun c=>?_
  obtain ⟨s,h⟩:=h.brd b
  have hs:=(h.rd (s:=s)).2
  refine w_deref (w_ld h rfl ?_)
  have h:=(h.nil K_u6b3)
  have h:=(h.nil K_u6b3)
  have h:=(h.take (blk b [.sl s,.int .u64 v.2]^arr s K_u6b3 v.1^arr ⟨none,0,0⟩ K_u6b3 []^arr ⟨none,0,0⟩ K_u6b3 []^rarr a KR xs)).keep
  refine w_loop (fun (y:Sl × Sl × Int)=>blk b [.sl s,.int .u64 v.2]^arr s K_u6b3 v.1^arr y.1 K_u6b3 (toldL upto xs (v.1.take y.2.2.toNat))^arr y.2.1 K_u6b3 (restL upto xs (v.1.take y.2.2.toNat))^rarr a KR xs)
   (fun (y:Sl × Sl × Int)=>0≤y.2.2∧y.2.2.toNat≤v.1.length) (fun (y:Sl × Sl × Int)=>v.1.length - y.2.2.toNat) h ⟨Int.le_refl 0,Nat.zero_le _⟩ ?_
  rintro (⟨ts,rs,i⟩:Sl × Sl × Int) w ⟨h0,h1⟩ h
  dsimp only at h0 h1 h ⊢
  refine w_ite (fun c=>?_) fun c=>?_
  ·have hi:i.toNat < v.1.length:=by simp at c;omega
   obtain ⟨p,hp⟩:∃ p,v.1[i.toNat]?=some p:=⟨_,at_some hi⟩
   have ht:=toldL_take (upto:=upto) (xs:=xs) hp
   have hrt:=restL_take (upto:=upto) (xs:=xs) hp
   have hw:IntKind.i64.wrap (i+1)=i+1:=wi (by omega) (by omega)
   have hi1:(i+1).toNat=i.toNat+1:=by omega
   refine w_idx h h0 hi ?_
   refine w_ldE h s i.toNat hp rfl ?_
   refine w_new h fun n8 w h=>?_
   refine w_setAll h (by rfl) fun w h=>?_
   refine w_ld h rfl ?_
   refine w_join h (fun (y:Sl)=>blk n8 (Ks.mk K_u6b3 (markP upto xs p))^blk b [.sl s,.int .u64 v.2]^arr s K_u6b3 v.1^arr y K_u6b3 (toldL upto xs (v.1.take (i.toNat+1)))^arr rs K_u6b3 (restL upto xs (v.1.take i.toNat))^rarr a KR xs) (fun _=>True) (fun (y:Sl) w _ h=>?_) ?_
   ·refine w_ite (fun c2=>?_) fun c2=>?_
    ·have c2:p.2.1≤upto:=by simpa using c2
     rw [hw]
     rw [if_pos c2,List.append_nil] at hrt
     refine ⟨⟨⟨by show (0:Int)≤i+1;omega,by show (i+1).toNat≤_;omega⟩,?_⟩,by show _ - (i+1).toNat < _;omega⟩
     show Own _ _ _ _ (blk b [.sl s,.int .u64 v.2]^arr s K_u6b3 v.1^arr y K_u6b3 (toldL upto xs (v.1.take (i+1).toNat))^arr rs K_u6b3 (restL upto xs (v.1.take (i+1).toNat))^rarr a KR xs)
     rw [hi1,hrt]
     exact h.fin
    ·have c2:¬ p.2.1≤upto:=by simpa using c2
     rw [if_neg c2] at hrt
     refine w_ldAll h rfl ?_
     refine w_new h fun n21 w h=>?_
     have h:=h.blkArr n21 K_u6b3 [markP upto xs p] rfl (by simp)
     have hlr:=restL_len upto xs v.1 i.toNat
     refine w_app (K:=K_u6b3) h rfl (by simp;omega) fun s22 w hl2 h=>?_
     rw [hw]
     refine ⟨⟨⟨by show (0:Int)≤i+1;omega,by show (i+1).toNat≤_;omega⟩,?_⟩,by show _ - (i+1).toNat < _;omega⟩
     show Own _ _ _ _ (blk b [.sl s,.int .u64 v.2]^arr s K_u6b3 v.1^arr y K_u6b3 (toldL upto xs (v.1.take (i+1).toNat))^arr s22 K_u6b3 (restL upto xs (v.1.take (i+1).toNat))^rarr a KR xs)
     rw [hi1,hrt]
     exact h.fin
   ·refine w_join h (fun _=>blk n8 (Ks.mk K_u6b3 p)^blk b [.sl s,.int .u64 v.2]^arr s K_u6b3 v.1^arr ts K_u6b3 (toldL upto xs (v.1.take i.toNat))^arr rs K_u6b3 (restL upto xs (v.1.take i.toNat))^rarr a KR xs) (fun (y:Bool)=>y=toldP upto xs p) (fun (y:Bool) w hy h=>?_) ?_
    ·refine w_ite (fun c2=>?_) fun c2=>?_
     ·rw [c2] at hy
      rw [← hy,if_pos rfl] at ht
      have hmk:markP upto xs p=setSk p:=by rw [markP,← hy];rfl
      refine w_ldAll h rfl ?_
      refine w_new h fun n18 w h=>?_
      have h:=h.blkArr n18 K_u6b3 [p] rfl (by simp)
      have hlr:=toldL_len upto xs v.1 i.toNat
      refine w_app (K:=K_u6b3) h rfl (by simp;omega) fun s19 w hl2 h=>?_
      refine w_set h rfl fun w h=>?_
      refine w_set h rfl fun w h=>?_
      refine ⟨trivial,?_⟩
      rw [ht,hmk]
      have h:Own _ _ _ _ (blk n8 (Ks.mk K_u6b3 (setSk p))^_):=h
      exact h.fin
     ·rw [c2] at hy
      rw [← hy] at ht
      have hmk:markP upto xs p=p:=by rw [markP,← hy];rfl
      refine ⟨trivial,?_⟩
      rw [ht,hmk]
      simp only [Bool.false_eq_true,if_false,List.append_nil]
      exact h.fin
    ·refine w_ld h rfl ?_
     refine w_ite (fun c2=>?_) fun c2=>?_
     ·have c2:(!pSk p)=true:=c2
      refine w_ite (fun c3=>?_) fun c3=>?_
      ·exact ⟨by have c3:decide (p.2.1≤upto)=true:=c3;simp [toldP,c2,c3],h.fin⟩
      ·refine w_ldAll h rfl ?_
       refine w_callL (A:=emp) (Q:=rarr a KR xs) (holds_tri p a xs hx) h fun r w h=>?_
       obtain ⟨hr2,h⟩:=h.purP
       exact ⟨by have c3:decide (p.2.1≤upto)=false:=c3;rw [hr2,toldP,c2,c3];simp,h.fin⟩
     ·exact ⟨by have c2:(!pSk p)=false:=c2;simp [toldP,c2],h.fin⟩
  ·have hi:i.toNat=v.1.length:=by simp at c;omega
   rw [hi,List.take_length] at h
   refine w_deref (w_set h rfl fun w h=>?_)
   dsimp only [upd,over] at h
   have h:=h.mkBrd b rs (restL upto xs v.1) v.2
   have hrl:(restL upto xs v.1).length≤4294967296:=by
    have:=restL_len upto xs v.1 v.1.length
    rw [List.take_length] at this;omega
   refine w_call (passed_tri b (restL upto xs v.1,v.2) hrl) h fun r w h=>?_
   obtain ⟨hr2,h⟩:=h.purP
   exact Own.retP ⟨hr2,rfl⟩ h.fin
abbrev s0:Snt:=(0,0,0,0,false)
def pK (z:Int) (k:Nat):Pc:=mkPc ((k:Int) * z) (((k:Int)+1) * z) ((k:Int),0,0,0,false)
def c1 (z y:Int):List (Int × Int):=[(z+1,2 * z+y),(2 * z+1,3 * z)]
def c2 (z y:Int):List (Int × Int):=[(z,2 * z+y)]
abbrev q1 (z:Int):Pc:=setSk (pK z 1)
def loseP (p:Pc):Pc:=if flyP p then setLo p true else p
theorem lose_tri (b:Nat) (v:List Pc × Int) (hl:v.1.length≤4294967296):Tri Tryz.prog N_board_Board_Lose [.lf (.ptr (some ⟨b,0⟩))] [.lf (.int .u64)] (brd b v) (fun r=>pur (r=flightF v.1) (brd b (v.1.map loseP,v.2))) :=
 tri_0 (call_board_Board_Lose _) fun w S R h=>by
  unfold W_board_Board_Lose
  refine w_ite (fun c=>(by cases c)) fun c=>?_
  obtain ⟨s,h⟩:=h.brd b
  have hs:=(h.rd (s:=s)).2
  refine w_deref (w_ld h rfl ?_)
  have h:=(h.take (blk b [.sl s,.int .u64 v.2]^arr s K_u6b3 v.1)).keep
  refine w_loop (fun (y:Int × Int)=>blk b [.sl s,.int .u64 v.2]^arr s K_u6b3 ((v.1.take y.2.toNat).map loseP++v.1.drop y.2.toNat)) (fun (y:Int × Int)=>(0≤y.2∧y.2.toNat≤v.1.length)∧y.1=flightF (v.1.take y.2.toNat)) (fun (y:Int × Int)=>v.1.length - y.2.toNat) h ⟨⟨Int.le_refl 0,Nat.zero_le _⟩,rfl⟩ ?_
  rintro (⟨t,i⟩:Int × Int) w ⟨⟨h0,h1⟩,h2⟩ h
  dsimp only at h0 h1 h2 h ⊢
  obtain ⟨xs,hxs⟩:∃ xs,xs=(v.1.take i.toNat).map loseP++v.1.drop i.toNat:=⟨_,rfl⟩
  rw [← hxs] at h
  have hxl:xs.length=v.1.length:=by rw [hxs];simp;omega
  refine w_ite (fun c=>?_) fun c=>?_
  ·have hi:i.toNat < v.1.length:=by simp at c;omega
   obtain ⟨p,hp⟩:∃ p,v.1[i.toNat]?=some p:=⟨_,at_some hi⟩
   have hml:((v.1.take i.toNat).map loseP).length=i.toNat:=by simp;omega
   have hxp:xs[i.toNat]?=some p:=by
    rw [hxs,List.getElem?_append_right (by omega),hml,drop_at hp];simp
   have hw:IntKind.i64.wrap (i+1)=i+1:=wi (by omega) (by omega)
   have hi1:(i+1).toNat=i.toNat+1:=by omega
   have hset:(v.1.take (i.toNat+1)).map loseP++v.1.drop (i.toNat+1)=xs.set i.toNat (loseP p):=by
    rw [hxs,List.set_append_right _ _ (by omega),hml,drop_at hp,List.take_add_one,hp];simp
   have hft:=flight_take hp
   refine w_idx h h0 (by omega) ?_
   refine w_ldE h s i.toNat hxp rfl ?_
   refine w_new h fun n7 w h=>?_
   refine w_setAll h (by rfl) fun w h=>?_
   refine w_ldAll h rfl ?_
   refine w_call (flying_tri p) h fun r w h=>?_
   obtain ⟨hr,h⟩:=h.purP
   refine w_ite (fun c2=>?_) fun c2=>?_
   ·have hf:flyP p=true:=by rw [← hr];exact c2
    refine w_deref (w_ld h rfl ?_)
    refine w_idx h h0 (by omega) ?_
    refine w_stA h s i.toNat 8 p (setLo p true) hxp rfl (by decide) (by simp) rfl fun w h=>?_
    refine w_ld h rfl ?_
    refine w_ld h rfl ?_
    rw [hw]
    have hlp:loseP p=setLo p true:=by rw [loseP,if_pos hf]
    refine ⟨⟨⟨⟨by show (0:Int)≤i+1;omega,by show (i+1).toNat≤_;omega⟩,?_⟩,?_⟩,by show _ - (i+1).toNat < _;omega⟩
    ·show _=flightF (v.1.take (i+1).toNat)
     rw [hi1,hft,addF,if_pos hf,h2]
    ·show Own _ _ _ _ (blk b [.sl s,.int .u64 v.2]^arr s K_u6b3 ((v.1.take (i+1).toNat).map loseP++v.1.drop (i+1).toNat))
     rw [hi1,hset,hlp]
     exact h.fin
   ·have hf:flyP p=false:=by rw [← hr];exact c2
    rw [hw]
    have hlp:loseP p=p:=by rw [loseP,if_neg (by rw [hf];simp)]
    refine ⟨⟨⟨⟨by show (0:Int)≤i+1;omega,by show (i+1).toNat≤_;omega⟩,?_⟩,?_⟩,by show _ - (i+1).toNat < _;omega⟩
    ·show t=flightF (v.1.take (i+1).toNat)
     rw [hi1,hft,addF,if_neg (by rw [hf];simp),h2]
    ·show Own _ _ _ _ (blk b [.sl s,.int .u64 v.2]^arr s K_u6b3 ((v.1.take (i+1).toNat).map loseP++v.1.drop (i+1).toNat))
     have hself:xs.set i.toNat p=xs:=by
      obtain ⟨hl2,he⟩:=List.getElem?_eq_some_iff.1 hxp
      rw [← he];exact List.set_getElem_self hl2
     rw [hi1,hset,hlp,hself]
     exact h.fin
  ·have hi:i.toNat=v.1.length:=by simp at c;omega
   rw [hi] at h2 hxs
   simp at hxs h2
   rw [hxs] at h
   exact Own.retP h2 (h.mkBrd b s (v.1.map loseP) v.2).fin
theorem lost_tri (b:Nat) (v:List Pc × Int) (hl:v.1.length≤4294967296):Tri Tryz.prog N_board_Board_lost [.lf (.ptr (some ⟨b,0⟩))] [.lf (.int .i64)] (brd b v) (fun r=>pur (r=fI pLo v.1) (brd b v)) :=
 tri_n (W:=fun n R=>W_board_Board_lost n (some ⟨b,0⟩) R) (call_board_Board_lost _) fun w S R h=>by
  unfold W_board_Board_lost
  refine w_new h fun n1 w h=>?_
  refine w_new h fun n2 w h=>?_
  refine w_set h rfl fun w h=>?_
  dsimp only [upd,over] at h
  refine w_call (all_tri b) (h.le (star_emp _)) fun f w h=>?_
  obtain ⟨n,h⟩:=h.exP
  obtain ⟨hf,h⟩:=h.purP
  rw [hf]
  have h:=(h.take (blk n1 [.int .i64 0]^blk n2 [.int .i64 ((0:Nat):Int)])).toPur (p:=∀ j y,j < 0→v.1[j]?=some y→pLo y=false) (fun j y hj=>by omega)
  refine w_range (all_iter n b v hl) (fun i=>pur (∀ j y,j < i→v.1[j]?=some y→pLo y=false) (blk n1 [.int .i64 0]^blk n2 [.int .i64 (i:Int)])) (fun j=>pur (j=1) (blk n1 [.int .i64 (fI pLo v.1)])) h ?_ ?_ ?_
  ·intro i x hx w S R mid next jump rdy bsy hmid hnext hjump h
   have hi:i < v.1.length:=(List.getElem?_eq_some_iff.1 hx).1
   refine w_new h fun n8 w h=>?_
   refine w_setAll h (by rfl) fun w h=>?_
   refine hmid h fun w h=>?_
   have h:=h.take (pur (∀ j y,j < i→v.1[j]?=some y→pLo y=false) (blk n1 [.int .i64 0]^blk n2 [.int .i64 (i:Int)]))
   obtain ⟨hno,h⟩:=h.purP
   refine w_ld h rfl ?_
   refine w_ite (fun c=>?_) fun c=>?_
   ·refine w_ld h rfl ?_
    refine w_set h rfl fun w h=>?_
    dsimp only [upd,over] at h
    have e:fI pLo v.1=(i:Int):=fI_at hx c hno
    rw [← e] at h
    have h:=(h.take (blk n1 [.int .i64 (fI pLo v.1)])).toPur (p:=1=1) rfl
    exact hjump 1 (by decide) h
   ·refine w_ld h rfl ?_
    refine w_set h rfl fun w h=>?_
    dsimp only [upd,over] at h
    rw [wi (by omega) (by omega)] at h
    have h:Own _ _ _ _ (blk n2 [.int .i64 ((i+1:Nat):Int)]^_):=h
    have h:=(h.take (blk n1 [.int .i64 0]^blk n2 [.int .i64 ((i+1:Nat):Int)])).toPur (p:=∀ j y,j < i+1→v.1[j]?=some y→pLo y=false) (fun j y hj hy=>by
     by_cases hji:j=i
     ·rw [hji,hx] at hy;cases hy;exact c
     ·exact hno j y (by omega) hy)
    exact hnext h
  ·intro w h
   have h:=h.take (pur (∀ j y,j < v.1.length→v.1[j]?=some y→pLo y=false) (blk n1 [.int .i64 0]^blk n2 [.int .i64 (v.1.length:Int)]))
   obtain ⟨hno,h⟩:=h.purP
   refine w_set h rfl fun w h=>?_
   dsimp only [upd,over] at h
   refine w_ld h rfl ?_
   refine w_leave h fun w h=>?_
   refine Own.retP ?_ h.fin
   rw [fI_none]
   intro y hy
   obtain ⟨j,hj,rfl⟩:=List.mem_iff_getElem.1 hy
   exact hno j _ hj (at_some hj)
  ·intro j w hj h
   have h:=h.take (pur (j=1) (blk n1 [.int .i64 (fI pLo v.1)]))
   obtain ⟨hj1,h⟩:=h.purP
   rw [hj1]
   refine w_ld h rfl ?_
   refine w_leave h fun w h=>?_
   exact Own.retP rfl h.fin
theorem fI_some {α:Type} {p:α→Bool} {xs:List α} (h:0≤fI p xs):∃ x,xs[(fI p xs).toNat]?=some x∧p x=true∧(fI p xs).toNat < xs.length∧((fI p xs).toNat:Int)=fI p xs:=by
 unfold fI at h ⊢
 cases hf:xs.findIdx? p with
 | none=>rw [hf] at h;simp at h
 | some i =>
  obtain ⟨hl,hp,_⟩:=List.findIdx?_eq_some_iff_getElem.1 hf
  exact ⟨xs[i],by simp [hl],hp,by simpa using hl,by simp⟩
def lostF (l:List Pc):(Int × Int) × Bool:=match l[(fI pLo l).toNat]? with
 | some p=>if fI pLo l < 0 then ((0,0),false) else ((p.1,p.2.1),true)
 | none=>((0,0),false)
theorem lostF_no {l:List Pc} (h:fI pLo l < 0):lostF l=((0,0),false):=by
 unfold lostF
 split
 ·rw [if_pos h]
 ·rfl
theorem lostF_yes {l:List Pc} {p:Pc} (h:0≤fI pLo l) (hp:l[(fI pLo l).toNat]?=some p):lostF l=((p.1,p.2.1),true):=by
 unfold lostF
 rw [hp]
 simp only
 rw [if_neg (by omega)]
theorem Lost_tri (b:Nat) (v:List Pc × Int) (hl:v.1.length≤4294967296):Tri Tryz.prog N_board_Board_Lost [.lf (.ptr (some ⟨b,0⟩))] [.agg KR,.lf .bool] (brd b v) (fun r=>pur (r=lostF v.1) (brd b v)) :=
 tri_0 (call_board_Board_Lost _) fun w S R h=>by
  unfold W_board_Board_Lost
  refine w_new h fun n1 w h=>?_
  refine w_call (lost_tri b v hl) h fun r w h=>?_
  obtain ⟨hr,h⟩:=h.purP
  rw [hr]
  refine w_ite (fun c=>?_) fun c=>?_
  ·refine w_set h rfl fun w h=>?_
   dsimp only [upd,over] at h
   refine w_ldAll (x:=(0,0)) h rfl ?_
   exact Own.retP (lostF_no (by simpa using c)).symm h.fin
  ·have c:0≤fI pLo v.1:=by simpa using c
   obtain ⟨p,hp,hpl,hlt,_⟩:=fI_some c
   refine w_drw h fun w h=>?_
   obtain ⟨s,h⟩:=h.brd b
   refine w_deref (w_deref (w_ld h rfl (w_ld h rfl ?_)))
   refine w_idx h c hlt ?_
   refine w_idx h c hlt ?_
   refine w_ldA h s _ 0 p hp rfl (by decide) rfl ?_
   refine w_ldA h s _ 1 p hp rfl (by decide) rfl ?_
   refine w_set h rfl fun w h=>?_
   dsimp only [upd,over] at h
   refine w_ldAll (x:=(p.1,p.2.1)) h rfl ?_
   exact Own.retP (lostF_yes c hp).symm (h.mkBrd b s v.1 v.2).fin
theorem all_iterS (n b:Nat) (s:Sl) (v:List Pc × Int) (hl:v.1.length≤4294967296):Iter Tryz.prog (mkAll n) (blk n [.ptr (some ⟨b,0⟩)]^blk b [.sl s,.int .u64 v.2]^arr s K_u6b3 v.1) [.agg K_u6b3] v.1:=by
 intro y I D hy
 refine Tri.g (f:=N_board_Board_All_c1) (args:=[.lf (.fn y)]) (caps:=[.lf (.ptr (some ⟨n,0⟩))]) (tri_0 (call_board_Board_All_c1 y ⟨n,0⟩) fun w S R h=>?_)
 unfold W_board_Board_All_c1
 refine w_ld h rfl ?_
 refine w_ite (fun c=>(by cases c)) fun c=>?_
 refine w_ld h rfl ?_
 have hs:=(h.rd (s:=s)).2
 refine w_deref (w_ld h rfl ?_)
 have h:Own _ _ _ _ (blk b [.sl s,.int .u64 v.2]^arr s K_u6b3 v.1^blk n [.ptr (some ⟨b,0⟩)]^I 0):=h.fin
 refine w_loop (fun (y:Int)=>blk b [.sl s,.int .u64 v.2]^arr s K_u6b3 v.1^blk n [.ptr (some ⟨b,0⟩)]^I y.toNat) (fun (y:Int)=>0≤y∧y.toNat≤v.1.length) (fun (y:Int)=>v.1.length - y.toNat) h ⟨Int.le_refl 0,by simp⟩ ?_
 rintro (i:Int) w ⟨h0,h1⟩ h
 refine w_ite (fun c=>?_) fun c=>?_
 ·have hi:i.toNat < v.1.length:=by simp at c;omega
  refine w_idx h h0 hi ?_
  refine w_ldE h s i.toNat (at_some hi) rfl ?_
  refine w_new h fun n9 w h=>?_
  refine w_setAll h (by rfl) fun w h=>?_
  refine w_ldAll h rfl ?_
  refine w_callv (hy i.toNat _ (at_some hi)) h fun r w h=>?_
  refine w_ite (fun c=>?_) fun c=>?_
  ·have hr:r=false:=by simpa using c
   rw [hr] at h
   have h:Own _ _ _ _ (D^_):=h
   have h:=h.eitherR (I v.1.length)
   exact h.fin
  ·have hr:r=true:=by simpa using c
   rw [hr] at h
   have h:Own _ _ _ _ (I (i.toNat+1)^_):=h
   rw [wi (by omega) (by omega)]
   have e:(i+1).toNat=i.toNat+1:=by omega
   refine ⟨⟨⟨(by show (0:Int)≤i+1;omega),(by show (i+1).toNat≤_;omega)⟩,?_⟩,(by show _ - (i+1).toNat < _;omega)⟩
   show Own _ _ _ _ (blk b [.sl s,.int .u64 v.2]^arr s K_u6b3 v.1^blk n [.ptr (some ⟨b,0⟩)]^I (i+1).toNat)
   rw [e]
   exact h.fin
 ·have hi:i.toNat=v.1.length:=by simp at c;omega
  rw [hi] at h
  have h:=h.take (I v.1.length)
  have h:=h.eitherL D
  exact h.fin
theorem lost_triS (b:Nat) (s:Sl) (v:List Pc × Int) (hl:v.1.length≤4294967296):Tri Tryz.prog N_board_Board_lost [.lf (.ptr (some ⟨b,0⟩))] [.lf (.int .i64)] (blk b [.sl s,.int .u64 v.2]^arr s K_u6b3 v.1) (fun r=>pur (r=fI pLo v.1) (blk b [.sl s,.int .u64 v.2]^arr s K_u6b3 v.1)) :=
 tri_n (W:=fun n R=>W_board_Board_lost n (some ⟨b,0⟩) R) (call_board_Board_lost _) fun w S R h=>by
  unfold W_board_Board_lost
  refine w_new h fun n1 w h=>?_
  refine w_new h fun n2 w h=>?_
  refine w_set h rfl fun w h=>?_
  dsimp only [upd,over] at h
  refine w_call (all_tri b) (h.le (star_emp _)) fun f w h=>?_
  obtain ⟨n,h⟩:=h.exP
  obtain ⟨hf,h⟩:=h.purP
  rw [hf]
  have h:=(h.take (blk n1 [.int .i64 0]^blk n2 [.int .i64 ((0:Nat):Int)])).toPur (p:=∀ j y,j < 0→v.1[j]?=some y→pLo y=false) (fun j y hj=>by omega)
  refine w_range (all_iterS n b s v hl) (fun i=>pur (∀ j y,j < i→v.1[j]?=some y→pLo y=false) (blk n1 [.int .i64 0]^blk n2 [.int .i64 (i:Int)])) (fun j=>pur (j=1) (blk n1 [.int .i64 (fI pLo v.1)])) h ?_ ?_ ?_
  ·intro i x hx w S R mid next jump rdy bsy hmid hnext hjump h
   have hi:i < v.1.length:=(List.getElem?_eq_some_iff.1 hx).1
   refine w_new h fun n8 w h=>?_
   refine w_setAll h (by rfl) fun w h=>?_
   refine hmid h fun w h=>?_
   have h:=h.take (pur (∀ j y,j < i→v.1[j]?=some y→pLo y=false) (blk n1 [.int .i64 0]^blk n2 [.int .i64 (i:Int)]))
   obtain ⟨hno,h⟩:=h.purP
   refine w_ld h rfl ?_
   refine w_ite (fun c=>?_) fun c=>?_
   ·refine w_ld h rfl ?_
    refine w_set h rfl fun w h=>?_
    dsimp only [upd,over] at h
    have e:fI pLo v.1=(i:Int):=fI_at hx c hno
    rw [← e] at h
    have h:=(h.take (blk n1 [.int .i64 (fI pLo v.1)])).toPur (p:=1=1) rfl
    exact hjump 1 (by decide) h
   ·refine w_ld h rfl ?_
    refine w_set h rfl fun w h=>?_
    dsimp only [upd,over] at h
    rw [wi (by omega) (by omega)] at h
    have h:Own _ _ _ _ (blk n2 [.int .i64 ((i+1:Nat):Int)]^_):=h
    have h:=(h.take (blk n1 [.int .i64 0]^blk n2 [.int .i64 ((i+1:Nat):Int)])).toPur (p:=∀ j y,j < i+1→v.1[j]?=some y→pLo y=false) (fun j y hj hy=>by
     by_cases hji:j=i
     ·rw [hji,hx] at hy;cases hy;exact c
     ·exact hno j y (by omega) hy)
    exact hnext h
  ·intro w h
   have h:=h.take (pur (∀ j y,j < v.1.length→v.1[j]?=some y→pLo y=false) (blk n1 [.int .i64 0]^blk n2 [.int .i64 (v.1.length:Int)]))
   obtain ⟨hno,h⟩:=h.purP
   refine w_set h rfl fun w h=>?_
   dsimp only [upd,over] at h
   refine w_ld h rfl ?_
   refine w_leave h fun w h=>?_
   refine Own.retP ?_ h.fin
   rw [fI_none]
   intro y hy
   obtain ⟨j,hj,rfl⟩:=List.mem_iff_getElem.1 hy
   exact hno j _ hj (at_some hj)
  ·intro j w hj h
   have h:=h.take (pur (j=1) (blk n1 [.int .i64 (fI pLo v.1)]))
   obtain ⟨hj1,h⟩:=h.purP
   rw [hj1]
   refine w_ld h rfl ?_
   refine w_leave h fun w h=>?_
   exact Own.retP rfl h.fin
def againP (p:Pc) (s:Snt):Pc:=(p.1,p.2.1,s.1,s.2.1,s.2.2.1,s.2.2.2.1,s.2.2.2.2,p.2.2.2.2.2.2.2.1,false)
def againF (l:List Pc) (s:Snt):List Pc:=match l[(fI pLo l).toNat]? with
 | some p=>if fI pLo l < 0 then l else l.set (fI pLo l).toNat (againP p s)
 | none=>l
theorem Again_tri (b:Nat) (s:Snt) (v:List Pc × Int) (hl:v.1.length≤4294967296):Tri Tryz.prog N_board_Board_Again [.lf (.ptr (some ⟨b,0⟩)),.agg (Ks.mk K_u4b s)] [.agg KR,.lf .bool] (brd b v) (fun r=>pur (r=lostF v.1) (brd b (againF v.1 s,v.2))) :=
 tri_0 (call_board_Board_Again _ s) fun w S R h=>by
  unfold W_board_Board_Again
  refine w_new h fun n1 w h=>?_
  refine w_new h fun n2 w h=>?_
  refine w_call (Lost_tri b v hl) h fun r w h=>?_
  obtain ⟨hr,h⟩:=h.purP
  rw [hr]
  refine w_new h fun n4 w h=>?_
  refine w_setAll h (by rfl) fun w h=>?_
  refine w_join h (fun _=>blk n4 (Ks.mk KR (lostF v.1).1)^blk n2 [.int .u64 0,.int .u64 0]^brd b (againF v.1 s,v.2)) (fun _=>True) (fun x w _ h=>?_) ?_
  ·refine w_ldAll h rfl ?_
   refine w_setAll h (by rfl) fun w h=>?_
   refine w_ldAll h rfl ?_
   exact Own.retP rfl h.fin
  ·by_cases c:0≤fI pLo v.1
   ·obtain ⟨p,hp,hpl,hlt,_⟩:=fI_some c
    have he:=lostF_yes c hp
    have ha:againF v.1 s=v.1.set (fI pLo v.1).toNat (againP p s):=by
     unfold againF
     rw [hp]
     simp only
     rw [if_neg (by omega)]
    refine w_ite (fun c2=>?_) fun c2=>by rw [he] at c2;cases c2
    refine w_drw h fun w h=>?_
    obtain ⟨sl,h⟩:=h.brd b
    refine w_deref (w_ld h rfl ?_)
    refine w_call (lost_triS b sl v hl) h fun r9 w h=>?_
    obtain ⟨hr9,h⟩:=h.purP
    rw [hr9]
    refine w_chk h rfl ?_
    refine w_idx h c hlt ?_
    refine w_drw h fun w h=>?_
    refine w_ldAll (x:=s) h rfl ?_
    refine w_deref ?_
    refine w_stA h sl (fI pLo v.1).toNat 8 p (setLo p false) hp rfl (by decide) (by simp) rfl fun w h=>?_
    refine w_chkAll h ?_
    refine w_deref ?_
    have hp2:(v.1.set (fI pLo v.1).toNat (setLo p false))[(fI pLo v.1).toNat]?=some (setLo p false):=by rw [List.getElem?_set_self hlt]
    refine w_stA h sl (fI pLo v.1).toNat 2 (setLo p false) (againP p s) hp2 rfl (by rw [Ks.len];decide) (by simp [Ks.mk]) rfl fun w h=>?_
    rw [List.set_set] at h
    rw [ha]
    exact ⟨trivial,(h.mkBrd b sl (v.1.set (fI pLo v.1).toNat (againP p s)) v.2).fin⟩
   ·have c:fI pLo v.1 < 0:=by omega
    have he:=lostF_no c
    have ha:againF v.1 s=v.1:=by
     unfold againF
     split
     ·rw [if_pos c]
     ·rfl
    refine w_ite (fun c2=>by rw [he] at c2;cases c2) fun c2=>?_
    rw [ha]
    exact ⟨trivial,h.fin⟩
theorem flight_still:∀ (B:List Pc) (n:Int),(∀ p∈B,flyP p=false)→B.foldl addF n=n
 | [],_,_=>rfl
 | p :: B,n,h=>by
  have hp:=h p List.mem_cons_self
  rw [List.foldl_cons,addF,if_neg (by rw [hp];simp)]
  exact flight_still B n (fun q hq=>h q (List.mem_cons_of_mem _ hq))
def f1 (i:Nat) (p:Pc):Pc:=match i with | 0=>p | _=>setSk p
def f2 (_:Nat) (p:Pc):Pc:=setSk p
theorem lose_none (l:List Pc):flightF (l.map loseP)=0:=by
 rw [flightF]
 refine flight_still _ 0 fun p hp=>?_
 obtain ⟨q,_,rfl⟩:=List.mem_map.1 hp
 rw [loseP]
 split
 ·simp [flyP,pLo,setLo]
 ·rename_i h;simpa using h
end Board

namespace Target
open Arith ArithC
abbrev KP:Ks:=[.int .u64,.int .u64]
def scF:Int→List (Int × Int)→Int
 | v,[]=>v
 | v,p :: r=>if v=0 then v else scF (mdI v p.1 p.2) r
theorem sc_tri (v:Int) (s:Sl) (ps:List (Int × Int)) (hv:U v) (hp:∀ p∈ps,U p.1∧U p.2) (hl:ps.length≤1000000) :
  Tri Tryz.prog N_target_scaled [.lf (.int .u64 v),.lf (.sl s)] [.lf (.int .u64)] (arr s KP ps) (fun r=>pur (r=scF v ps) (arr s KP ps)) :=
 tri_0 (call_target_scaled v s) fun w0 S R h=>by
  unfold W_target_scaled
  have h:Own w0 S R w0 (arr s KP ps^emp):=h.le (star_emp _)
  have hs:=(h.rd (s:=s)).2
  refine w_loop (fun (_:Int × Int)=>arr s KP ps^emp) (fun (y:Int × Int)=>((0≤y.2∧y.2≤ps.length)∧U y.1)∧scF y.1 (ps.drop y.2.toNat)=scF v ps) (fun (y:Int × Int)=>ps.length - y.2.toNat) h ⟨⟨⟨by simp,by simp⟩,hv⟩,rfl⟩ ?_
  rintro (⟨n,i⟩:Int × Int) w ⟨⟨⟨h0,h1⟩,hn⟩,h2⟩ h
  dsimp only at h0 h1 h2 hn h ⊢
  refine w_ite (fun c=>?_) fun c=>?_
  ·have hi:i.toNat < ps.length:=by simp at c;omega
   obtain ⟨p,hpp⟩:∃ p,ps[i.toNat]?=some p:=⟨_,at_some hi⟩
   have hU:=hp p (List.mem_of_getElem? hpp)
   rw [drop_at hpp,scF] at h2
   refine w_idx h h0 hi (w_ldE h s i.toNat hpp rfl ?_)
   refine w_new h fun n5 w h=>?_
   refine w_setAll h (by rfl) fun w h=>?_
   refine w_ite (fun c2=>?_) fun c2=>?_
   ·have c2:n=0:=by simpa using c2
    rw [if_pos c2] at h2
    exact Own.retP h2 h.fin
   have c2:¬ n=0:=by simpa using c2
   rw [if_neg c2] at h2
   have h:Own w0 S R w (blk n5 [.int .u64 p.1,.int .u64 p.2]^arr s KP ps^emp):=h
   refine ⟨by decide,w_ld h rfl ⟨by decide,w_ld h rfl ?_⟩⟩
   refine w_call (md_tri n p.1 p.2 hn hU.1 hU.2) h fun r w h=>?_
   obtain ⟨hr,h⟩:=h.purP
   rw [hr,wi (n:=i+1) (by omega) (by omega)]
   refine ⟨⟨⟨⟨⟨by show 0≤i+1;omega,by show i+1≤_;omega⟩,U_md hn hU.1 hU.2⟩,?_⟩,h.fin⟩,by show _ - (i+1).toNat < _;omega⟩
   show scF (mdI n p.1 p.2) (ps.drop (i+1).toNat)=_
   rw [show (i+1).toNat=i.toNat+1 by omega]
   exact h2
  ·have hi:i.toNat=ps.length:=by simp at c;omega
   rw [hi,List.drop_length] at h2
   exact Own.retP h2 h.fin
theorem md0 (b c:Int):mdI 0 b c=0:=by unfold mdI;simp
theorem rate_tri (bw g:Int) (hb:U bw) (hg:U g):Tri Tryz.prog N_target_Rate [.lf (.int .u64 bw),.lf (.int .u64 g)] [.lf (.int .u64)] emp (fun r=>pur (r=rateI bw g) emp) :=
 tri_0 (call_target_Rate bw g) fun w0 S R h=>by
  unfold W_target_Rate
  refine w_new h fun n1 w h=>?_
  have h:=h.arrOf ⟨some ⟨n1,0⟩,1,1⟩ ⟨n1,0⟩ KP [(g,(256:Int))] rfl rfl (Nat.le_refl _) (by simp) (by simp) (fun i hi=>by
   have:i < 2:=hi
   match i with | 0=>rfl | 1=>rfl)
  refine w_call (sc_tri bw ⟨some ⟨n1,0⟩,1,1⟩ [(g,256)] hb (by intro p hp;rw [List.mem_singleton] at hp;rw [hp];exact ⟨hg,U_lit _⟩) (by simp)) h fun r w h=>?_
  obtain ⟨hr,h⟩:=h.purP
  refine Own.retP ?_ h.fin
  rw [hr]
  show (if bw=0 then bw else mdI bw g 256)=_
  split
  ·rename_i h;rw [h,rateI,md0]
  ·rfl
theorem bdp_tri (bw rtt g:Int) (hb:U bw) (hq:U rtt) (hg:U g):Tri Tryz.prog N_target_Bdp [.lf (.int .u64 bw),.lf (.int .u64 rtt),.lf (.int .u64 g)] [.lf (.int .u64)] emp (fun r=>pur (r=bdpI bw rtt g) emp) :=
 tri_0 (call_target_Bdp bw rtt g) fun w0 S R h=>by
  unfold W_target_Bdp
  refine w_new h fun n1 w h=>?_
  have h:=h.arrOf ⟨some ⟨n1,0⟩,2,2⟩ ⟨n1,0⟩ KP [(rtt,(1000000000:Int)),(g,(256:Int))] rfl rfl (Nat.le_refl _) (by simp) (by simp) (fun i hi=>by
   have:i < 4:=hi
   match i with | 0=>rfl | 1=>rfl | 2=>rfl | 3=>rfl)
  refine w_call (sc_tri bw ⟨some ⟨n1,0⟩,2,2⟩ [(rtt,1000000000),(g,256)] hb (by
   intro p hp
   simp only [List.mem_cons,List.not_mem_nil,or_false] at hp
   rcases hp with hp | hp<;>rw [hp]
   ·exact ⟨hq,U_lit _⟩
   ·exact ⟨hg,U_lit _⟩) (by simp)) h fun r w h=>?_
  obtain ⟨hr,h⟩:=h.purP
  refine Own.retP ?_ h.fin
  rw [hr]
  show (if bw=0 then bw else if mdI bw rtt 1000000000=0 then mdI bw rtt 1000000000 else mdI (mdI bw rtt 1000000000) g 256)=_
  unfold bdpI
  split
  ·rename_i h;rw [h,md0,md0]
  ·split
   ·rename_i h;rw [h,md0]
   ·rfl
theorem win_tri (bw rtt g tso mss:Int) (hb:U bw) (hq:U rtt) (hg:U g) (ht:U tso) (hm:U mss):Tri Tryz.prog N_target_Window [.lf (.int .u64 bw),.lf (.int .u64 rtt),.lf (.int .u64 g),.lf (.int .u64 tso),.lf (.int .u64 mss)] [.lf (.int .u64)] emp (fun r=>pur (r=winI bw rtt g tso mss) emp) :=
 tri_0 (call_target_Window bw rtt g tso mss) fun w0 S R h=>by
  unfold W_target_Window
  refine w_ite (fun c=>?_) fun c=>?_
  ·repeat' (first
    | (refine w_drw h fun w h=>?_)
    | (refine w_deref ?_)
    | (refine w_ldAll h rfl ?_)
    | (refine w_ld h rfl ?_)
    | (refine w_chkAll h ?_)
    | (refine w_chk h rfl ?_)
    | (refine w_setAll h (by rfl) fun w h=>?_)
    | (refine w_new h fun n w h=>?_)
    | (refine w_leave h fun w h=>?_)
    | (refine w_set h rfl fun w h=>?_;dsimp only [upd,over] at h)
    | (refine w_call (satmul_tri 10 mss (U_lit _) hm) h fun r w h=>?_;obtain ⟨hr,h⟩:=h.purP;(try dsimp only at hr h);try rw [hr]))
   exact Own.retP (by unfold winI;rw [if_pos (show rtt=0 by simpa using c)]) h.fin
  ·repeat' (first
    | (refine w_drw h fun w h=>?_)
    | (refine w_deref ?_)
    | (refine w_ldAll h rfl ?_)
    | (refine w_ld h rfl ?_)
    | (refine w_chkAll h ?_)
    | (refine w_chk h rfl ?_)
    | (refine w_setAll h (by rfl) fun w h=>?_)
    | (refine w_new h fun n w h=>?_)
    | (refine w_leave h fun w h=>?_)
    | (refine w_set h rfl fun w h=>?_;dsimp only [upd,over] at h)
    | (refine w_call (bdp_tri bw rtt g hb hq hg) h fun r w h=>?_;obtain ⟨hr,h⟩:=h.purP;(try dsimp only at hr h);try rw [hr])
    | (refine w_call (satmul_tri 3 tso (U_lit _) ht) h fun r w h=>?_;obtain ⟨hr,h⟩:=h.purP;(try dsimp only at hr h);try rw [hr])
    | (refine w_call (satmul_tri 4 mss (U_lit _) hm) h fun r w h=>?_;obtain ⟨hr,h⟩:=h.purP;(try dsimp only at hr h);try rw [hr])
    | (refine w_call (satadd_tri (bdpI bw rtt g) (mulI 3 tso) (U_bdp hb hq hg) (U_mul (U_lit _) ht)) h fun r w h=>?_;obtain ⟨hr,h⟩:=h.purP;(try dsimp only at hr h);try rw [hr]))
   exact Own.retP (by unfold winI;rw [if_neg (show ¬ rtt=0 by simpa using c)]) h.fin
end Target

namespace BbrP
open Arith ArithC _root_.Go.X.Target BbrM
theorem wnew_tri (w:Int):Tri Tryz.prog N_winmax_New [.lf (.int .u64 w)] [.lf .ptr] emp (fun r=>ex fun n:Nat=>pur (r=some ⟨n,0⟩) (blk n (BbrLs.lsW ((Wn.mk w 0 0 0 0 0 0 0))))) :=
 tri_0 (call_winmax_New w) fun w0 S R h=>by
  unfold W_winmax_New
  refine w_new h fun n w h=>?_
  exact Own.retE n (Own.retP rfl h.fin)
theorem best_tri (b:Nat) (v:Wn):Tri Tryz.prog N_winmax_Max_Best [.lf (.ptr (some ⟨b,0⟩))] [.lf (.int .u64)] (blk b (BbrLs.lsW v)) (fun r=>pur (r=v.v0) (blk b (BbrLs.lsW v))) :=
 tri_0 (call_winmax_Max_Best _) fun w0 S R h=>by
  unfold W_winmax_Max_Best
  refine w_ite (fun c=>(by cases c)) fun _=>?_
  refine w_deref ⟨by decide,w_ld h rfl ?_⟩
  exact Own.retP rfl h.fin
theorem near_tri (t s v w:Int) (ht:U t) (hs:U s):Tri Tryz.prog N_winmax_near [.lf (.int .u64 t),.agg (Ks.mk KP (s,v)),.lf (.int .u64 w)] [.lf .bool] emp (fun r=>pur (r=!decide (far t s w)) emp) :=
 tri_0 (call_winmax_near t (s,v) w) fun w0 S R h=>by
  unfold W_winmax_near
  refine w_new h fun n w h=>?_
  refine w_ld h rfl ?_
  rw [rsub_eq ht hs]
  exact Own.retP (by unfold far;rw [Bool.eq_iff_iff];simp) h.fin
theorem push_tri (b:Nat) (v:Wn) (t x:Int):Tri Tryz.prog N_winmax_Max_push [.lf (.ptr (some ⟨b,0⟩)),.agg (Ks.mk KP (t,x))] [] (blk b (BbrLs.lsW v)) (fun _=>blk b (BbrLs.lsW ((v.push t x)))) :=
 tri_0 (call_winmax_Max_push _ (t,x)) fun w0 S R h=>by
  unfold W_winmax_Max_push
  refine w_new h fun n w h=>?_
  refine w_drw h fun w h=>?_
  refine w_ldAll h rfl ?_
  refine w_deref (w_deref (w_deref (w_deref (w_deref ⟨by decide,by decide,w_ld h rfl (w_ld h rfl ⟨by decide,?_⟩)⟩))))
  refine w_set h rfl fun w h=>?_
  dsimp only [upd,over] at h
  refine w_chkAll h ⟨by decide,?_⟩
  refine w_set h rfl fun w h=>?_
  dsimp only [upd,over] at h
  refine w_chkAll h ⟨by decide,?_⟩
  refine w_set h rfl fun w h=>?_
  dsimp only [upd,over] at h
  exact Own.keep (A:=blk b (BbrLs.lsW ((v.push t x)))) h
def stA (v:Wn) (f t x:Int) (i:Int):Wn:={ v with
 t0:=if f=0∧0 < i then t else v.t0,v0:=if f=0∧0 < i then x else v.v0
 t1:=if f≤1∧1 < f+i then t else v.t1,v1:=if f≤1∧1 < f+i then x else v.v1
 t2:=if 2 < f+i then t else v.t2,v2:=if 2 < f+i then x else v.v2 }
theorem all_tri (b : Nat) (v : Wn) (f t x : Int) (hf : f = 0 ∨ f = 1 ∨ f = 2) : Tri Tryz.prog N_winmax_Max_all [.lf (.ptr (some ⟨b, 0⟩)), .lf (.int .i64 f), .agg (Ks.mk KP (t, x))] [] (blk b (BbrLs.lsW v))
    (fun _ => blk b (BbrLs.lsW ((if f = 0 then v.all t x else if f = 1 then v.s12 t x else v.s2 t x)))) :=
  tri_0 (call_winmax_Max_all _ f (t, x)) fun w0 S R h => by
    unfold W_winmax_Max_all
    refine w_new h fun n w h => ?_
    refine w_deref ?_
    refine ⟨⟨rfl, fun _ => by simp⟩, f.toNat, 3, 3, ?_, rfl, rfl, ⟨by omega, Nat.le_refl _, Nat.le_refl _⟩, ?_⟩
    · show f = f.toNat; omega
    have h : Own w0 S R w (blk b (BbrLs.lsW ((stA v f t x 0))) ^ blk n (Ks.mk KP (t, x)) ^ emp) := by
      have h := h.blkEq (b := b) (L' := (BbrLs.lsW ((stA v f t x 0)))) (by rcases hf with rfl | rfl | rfl <;> simp [stA])
      exact h
    have hlen : ((Sl.sub ⟨some ⟨b, 0 + 1⟩, 3, 3⟩ f.toNat 3 3 2).len : Int) = 3 - f := by
      show ((3 - f.toNat : Nat) : Int) = _; omega
    refine w_loop (fun i : Int => blk b (BbrLs.lsW ((stA v f t x i))) ^ blk n (Ks.mk KP (t, x)) ^ emp) (fun i : Int => 0 ≤ i ∧ i ≤ 3 - f) (fun i : Int => 3 - i.toNat) h ⟨Int.le_refl _, by omega⟩ ?_
    rintro (i : Int) w ⟨h0, h1⟩ h
    rw [hlen]
    refine w_ite (fun c => ?_) fun c => ?_
    · have c : i < 3 - f := by simpa using c
      refine w_drw h fun w h => w_ldAll h rfl (w_deref ?_)
      rw [wi (n := f + i) (by omega) (by omega), wi (n := i + 1) (by omega) (by omega)]
      refine ⟨by omega, ?_⟩
      have hi : (f = 0 ∧ i = 0) ∨ (f = 0 ∧ i = 1) ∨ (f = 0 ∧ i = 2) ∨ (f = 1 ∧ i = 0) ∨ (f = 1 ∧ i = 1) ∨ (f = 2 ∧ i = 0) := by omega
      refine w_setTo h b (BbrLs.lsW ((stA v f t x (i + 1)))) rfl ?_ ?_ fun w h => ?_
      · rcases hi with ⟨rfl, rfl⟩ | ⟨rfl, rfl⟩ | ⟨rfl, rfl⟩ | ⟨rfl, rfl⟩ | ⟨rfl, rfl⟩ | ⟨rfl, rfl⟩ <;> rfl
      · rcases hi with ⟨rfl, rfl⟩ | ⟨rfl, rfl⟩ | ⟨rfl, rfl⟩ | ⟨rfl, rfl⟩ | ⟨rfl, rfl⟩ | ⟨rfl, rfl⟩ <;> rfl
      · exact ⟨⟨⟨by show 0 ≤ i + 1; omega, by show i + 1 ≤ _; omega⟩, h⟩, by show 3 - (i + 1).toNat < 3 - i.toNat; omega⟩
    · have c : i = 3 - f := by have : ¬ i < 3 - f := by simpa using c
                               omega
      subst c
      refine Own.keep (A := blk b (BbrLs.lsW ((if f = 0 then v.all t x else if f = 1 then v.s12 t x else v.s2 t x)))) (h.blkEq (b := b) ?_)
      rcases hf with rfl | rfl | rfl <;> simp [stA, Wn.all, Wn.s12, Wn.s2]
theorem reset_tri (b:Nat) (v:Wn) (t x:Int):Tri Tryz.prog N_winmax_Max_Reset [.lf (.ptr (some ⟨b,0⟩)),.lf (.int .u64 t),.lf (.int .u64 x)] [] (blk b (BbrLs.lsW v)) (fun _=>blk b (BbrLs.lsW (((v.tick t).all t x)))) :=
 tri_0 (call_winmax_Max_Reset _ t x) fun w0 S R h=>by
  unfold W_winmax_Max_Reset
  refine w_ite (fun c=>(by cases c)) fun _=>?_
  refine w_deref (w_ld h rfl (w_deref ?_))
  refine w_setTo h b (BbrLs.lsW ((v.tick t))) rfl rfl rfl fun w h=>?_
  refine w_call (all_tri b (v.tick t) 0 t x (.inl rfl)) h fun r w h=>?_
  exact Own.keep (A:=blk b (BbrLs.lsW (((v.tick t).all t x)))) h
end BbrP

end Go.X
