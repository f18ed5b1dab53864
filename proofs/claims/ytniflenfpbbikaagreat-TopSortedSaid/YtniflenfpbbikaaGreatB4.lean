/- Contracts and plain facts: FqG FqH FqI FqK FqN FqQ FqR FqT. -/
import Derived.Test.YtniflenfpbbikaaGreatB0
import Derived.Test.YtniflenfpbbikaaGreatB1
import Derived.Test.YtniflenfpbbikaaGreatB2
import Derived.Test.YtniflenfpbbikaaGreatB3
import Derived.Test.YtniflenfpbbikaaGreatK
import Derived.Test.YtniflenfpbbikaaGreatF0
import Derived.Test.YtniflenfpbbikaaGreatF1
import Derived.Test.YtniflenfpbbikaaGreatF2
set_option linter.unusedVariables false
set_option linter.unusedSimpArgs false
set_option linter.unusedSectionVars false
namespace Go.X
open Go.Proofs
namespace FqG
open Arith ArithC Lists _root_.Go.X.Tree TreeC TreeD TreeE TreeF FqM FqC FqD FqE
theorem tw_take {α:Type} {p:α→Bool}:∀ {l:List α} {i:Nat},(∀ j x,j < i→l[j]?=some x→p x=true)→(∀ x,l[i]?=some x→p x=false)→l.takeWhile p=l.take i
 | [],i,_,_=>by simp
 | x :: l,0,_,h=>by rw [List.takeWhile_cons,if_neg (by rw [h x rfl];simp)];rfl
 | x :: l,i+1,h1,h2=>by
  rw [List.takeWhile_cons,if_pos (h1 0 x (by omega) rfl),List.take_succ_cons,tw_take (fun j y hj hy=>h1 (j+1) y (by omega) hy) h2]
theorem take_up {α:Type} {l:List α} {i:Nat} {x:α} (h:l[i]?=some x):l.take (i+1)=l.take i++[x]:=by rw [List.take_add_one,h];rfl
def gone (ks:List Key) (d:List Key):List Key:=d.foldl (fun a k=>a.erase k) ks
theorem old_tri (b:Nat) (p:Nat→Option Pt) (l t:Nat) (c:Cf) (n:Int) (v:LV) (hv:okL v) (hn:v.1≠[]):Tri Tryz.prog N_fq_Queue_old [.lf (.ptr (some ⟨b,0⟩))] [.lf .bool] (blk b (qL c p l t n)^lst l v) (fun r=>pur (r=decide (v.2≠[])) (blk b (qL c p l t n)^lst l v)) :=
 tri_n (W:=fun n R=>W_fq_Queue_old n (some ⟨b,0⟩) R) (call_fq_Queue_old _) fun w S R h=>by
  unfold W_fq_Queue_old
  have hfew:=hv.few
  refine w_new h fun n1 w h=>w_deref (w_ld h rfl (w_call (Lists.all_tri _) h fun f w h=>?_))
  obtain ⟨m,h⟩:=h.exP
  obtain ⟨hf,h⟩:=h.purP
  rw [hf]
  have h:=(h.take (blk n1 [.bool false])).toPur (p:=∀ j y,j < 0→(allF v)[j]?=some y→y.2=true) (fun j y hj=>by omega)
  refine w_range (Lists.all_iter m l v (by omega)) (fun i=>pur (∀ j y,j < i→(allF v)[j]?=some y→y.2=true) (blk n1 [.bool false])) (fun j=>pur (j=1∧v.2≠[]) (blk n1 [.bool true])) h ?_ ?_ ?_
  ·rintro i (x:Int × Bool) hx w S R mid next jump rdy bsy hmid hnext hjump h
   refine hmid h fun w h=>?_
   have h:=h.take (pur (∀ j y,j < i→(allF v)[j]?=some y→y.2=true) (blk n1 [.bool false]))
   obtain ⟨hno,h⟩:=h.purP
   refine w_ite (fun c=>?_) fun c=>?_
   ·have c:x.2=false:=by simpa using c
    have h2:v.2≠[]:=fun e=>by
     rcases allF_fst hx with ⟨_,_,h3⟩ | ⟨_,h3,_⟩
     ·rw [c] at h3;cases h3
     ·rw [e] at h3;simp at h3
    refine w_setTo h n1 [.bool true] rfl rfl rfl fun w h=>?_
    have h:=(h.take (blk n1 [.bool true])).toPur (p:=1=1∧v.2≠[]) ⟨rfl,h2⟩
    exact hjump 1 (by decide) h
   ·have c:x.2=true:=by simpa using c
    have h:=(h.take (blk n1 [.bool false])).toPur (p:=∀ j y,j < i+1→(allF v)[j]?=some y→y.2=true) (fun j y hj hy=>by
     by_cases hji:j=i
     ·rw [hji,hx] at hy;cases hy;exact c
     ·exact hno j y (by omega) hy)
    exact hnext h
  ·intro w h
   have h:=h.take (pur (∀ j y,j < (allF v).length→(allF v)[j]?=some y→y.2=true) (blk n1 [.bool false]))
   obtain ⟨hno,h⟩:=h.purP
   have h2:v.2=[]:=by
    cases h3:v.2 with
    | nil=>rfl
    | cons x r =>
     have:=hno v.1.length (x,false) (by rw [allF_len,h3];simp) (by unfold allF;rw [h3];simp)
     cases this
   refine w_setTo h n1 [.bool false] rfl rfl rfl fun w h=>?_
   refine w_ld h rfl (w_leave h fun w h=>?_)
   exact Own.retP (by rw [h2];simp) h.fin
  ·intro j w hj h
   have h:=h.take (pur (j=1∧v.2≠[]) (blk n1 [.bool true]))
   obtain ⟨⟨hj1,h2⟩,h⟩:=h.purP
   rw [hj1]
   refine w_ld h rfl (w_leave h fun w h=>?_)
   exact Own.retP (by simp [h2]) h.fin
theorem due_tri (b:Nat) (p:Nat→Option Pt) (l t:Nat) (v:Qm) (hv:OkQ v) (now:Int):Tri Tryz.prog N_fq_Queue_due [.lf (.ptr (some ⟨b,0⟩)),.lf (.int .u64 now)] [] (blk b (qL v.c p l t v.n)^lst l v.lv^tree 8 t v.ks) (fun _=>blk b (qL v.c p l t v.n)^lst l (dueF v now).lv^tree 8 t (dueF v now).ks) :=
 tri_n (W:=fun n R=>W_fq_Queue_due n (some ⟨b,0⟩) now R) (call_fq_Queue_due _ _) fun w0 S R h=>by
  unfold W_fq_Queue_due
  have hkk:=hv.keys
  have hfew:v.ks.length≤8:=by
   have:=nodup_few 8 _ hkk.1 fun x hx=>(hkk.2 x hx).1
   simpa using this
  have hdl:(dueK v now).length≤8:=Nat.le_trans (List.takeWhile_prefix _).length_le hfew
  refine w_new h fun n1 w h=>w_new h fun n2 w h=>?_
  refine w_join h (fun _=>ex fun s:Sl=>blk n1 [.int .u64 now]^blk n2 [.sl s]^arr s KR (dueK v now)^blk b (qL v.c p l t v.n)^lst l v.lv^tree 8 t v.ks) (fun _=>True) (fun _ w _ h=>?_) ?_
  ·obtain ⟨s,h⟩:=(h.le (star_emp _)).exP
   have hs:=(h.rd (s:=s)).2
   refine w_ld h rfl ?_
   have hsplit:v.ks=dueK v now++v.ks.dropWhile (fun k=>decide (k.1≤now)):=List.takeWhile_append_dropWhile.symm
   have h:Own w0 S R w (blk n1 [.int .u64 now]^blk n2 [.sl s]^arr s KR (dueK v now)^blk b (qL v.c p l t v.n)^lst l (v.lv.1,v.lv.2++((dueK v now).take (0:Int).toNat).map Prod.snd)^tree 8 t ((dueK v now).drop (0:Int).toNat++v.ks.dropWhile (fun k=>decide (k.1≤now)))):=by
    have e:((dueK v now).drop (0:Int).toNat++v.ks.dropWhile (fun k=>decide (k.1≤now)))=v.ks:=hsplit.symm
    have e2:(v.lv.1,v.lv.2++((dueK v now).take (0:Int).toNat).map Prod.snd)=v.lv:=by simp
    rw [e,e2]
    exact h.fin
   refine w_loop (fun y:Int=>blk n1 [.int .u64 now]^blk n2 [.sl s]^arr s KR (dueK v now)^blk b (qL v.c p l t v.n)^lst l (v.lv.1,v.lv.2++((dueK v now).take y.toNat).map Prod.snd)^tree 8 t ((dueK v now).drop y.toNat++v.ks.dropWhile (fun k=>decide (k.1≤now)))) (fun y:Int=>0≤y∧y≤(dueK v now).length) (fun y:Int=>((dueK v now).length - y).toNat) h ⟨by decide,by show (0:Int)≤_;omega⟩ ?_
   ·rintro (y:Int) w hy h
    have hyw:IntKind.i64.wrap (y+1)=y+1:=wi (by omega) (by omega)
    refine w_ite (fun c=>?_) fun c=>?_
    ·have c:y < (s.len:Int):=by simpa using c
     obtain ⟨k,hk⟩:∃ k,(dueK v now)[y.toNat]?=some k:=⟨_,List.getElem?_eq_getElem (by omega)⟩
     refine w_idx (s:=s) h hy.1 (by omega) (w_ldE h s y.toNat hk rfl ?_)
     refine w_new h fun n25 w h=>w_setAll h (by rfl) fun w h=>w_drw h fun w h=>w_ldAll (b:=n25) (x:=k) h rfl ?_
     have hd:(dueK v now).drop y.toNat=k :: (dueK v now).drop (y.toNat+1):=drop_at hk
     have hdel:delK ((dueK v now).drop y.toNat++v.ks.dropWhile (fun k=>decide (k.1≤now))) k=(0,(dueK v now).drop (y.toNat+1)++v.ks.dropWhile (fun k=>decide (k.1≤now))):=by
      rw [hd]
      unfold delK
      rw [if_pos (by simp),List.cons_append,List.erase_cons_head]
     refine w_deref (w_ld h rfl (w_call (delete_tri t 8 ((dueK v now).drop y.toNat++v.ks.dropWhile (fun k=>decide (k.1≤now))) k) h fun r w h=>?_))
     obtain ⟨_,h⟩:=h.purP
     rw [hdel] at h
     have hkm:k∈v.ks:=by rw [hsplit,List.mem_append];exact .inl (List.mem_of_getElem? hk)
     have hk8:=hkk.2 k.2 (List.mem_map.2 ⟨k,hkm,rfl⟩)
     have hkw:IntKind.i64.wrap k.2=k.2:=wi (by omega) (by omega)
     refine w_drw h fun w h=>w_deref (w_ld h rfl (w_ld h rfl ?_))
     rw [hkw]
     have hpl:((dueK v now).take y.toNat).length≤8:=by rw [List.length_take];omega
     have hvf:=hv.lv.few
     refine w_call (push_tri l (v.lv.1,v.lv.2++((dueK v now).take y.toNat).map Prod.snd) k.2 false (by simp only [List.length_append,List.length_map];omega)) h fun r w h=>?_
     obtain ⟨_,h⟩:=h.purP
     have hp:(pushF (v.lv.1,v.lv.2++((dueK v now).take y.toNat).map Prod.snd) k.2 false).2=(v.lv.1,v.lv.2++((dueK v now).take (y.toNat+1)).map Prod.snd):=by
      have hnin:placeF (v.lv.1,v.lv.2++((dueK v now).take y.toNat).map Prod.snd) k.2=0:=by
       rw [placeF_0]
       intro hin
       rw [← List.append_assoc,List.mem_append] at hin
       rcases hin with hin | hin
       ·exact hk8.2 hin
       ·have hnd:=hkk.1
        rw [hsplit,List.map_append,List.nodup_append] at hnd
        have hnd:=hnd.1
        rw [← List.take_append_drop y.toNat (dueK v now),List.map_append,List.nodup_append,hd] at hnd
        exact hnd.2.2 _ hin _ (by simp) rfl
      rw [pushF,if_neg (by omega),if_neg (by rw [hnin];simp),if_neg (by simp),take_up hk]
      simp
     rw [hp] at h
     have e:(y+1).toNat=y.toNat+1:=by omega
     rw [hyw,e]
     exact ⟨⟨by omega,h.fin⟩,by omega⟩
    ·have c:¬ y < (s.len:Int):=by simpa using c
     have e1:(dueK v now).take y.toNat=dueK v now:=List.take_of_length_le (by omega)
     have e2:(dueK v now).drop y.toNat=[]:=List.drop_of_length_le (by omega)
     rw [e1,e2,List.nil_append] at h
     refine w_leave h fun w h=>?_
     exact h.fin
  ·refine w_deref (w_ld h rfl (w_call (TreeF.all_tri _) h fun f w h=>?_))
   obtain ⟨m,h⟩:=h.exP
   obtain ⟨hf,h⟩:=h.purP
   rw [hf]
   have h:=(h.nil KR).arrEq (s:=⟨none,0,0⟩) (K:=KR) (ys:=v.ks.take 0) rfl
   have h0:∀ j x,j < 0→v.ks[j]?=some x→decide (x.1≤now)=true:=fun j x hj=>by omega
   have h:=(h.take (blk n1 [.int .u64 now]^blk n2 [.sl ⟨none,0,0⟩]^arr ⟨none,0,0⟩ KR (v.ks.take 0)))
   have h:=h.inq (f:=fun s:Sl=>blk n1 [.int .u64 now]^blk n2 [.sl s]^arr s KR (v.ks.take 0)) (φ:=fun _=>∀ j x,j < 0→v.ks[j]?=some x→decide (x.1≤now)=true) ⟨none,0,0⟩ h0
   refine w_range (TreeF.all_iter m t 8 v.ks) (fun i=>exq (fun _:Sl=>∀ j x,j < i→v.ks[j]?=some x→decide (x.1≤now)=true) (fun s:Sl=>blk n1 [.int .u64 now]^blk n2 [.sl s]^arr s KR (v.ks.take i))) (fun j=>exq (fun _:Sl=>j=2) (fun s:Sl=>blk n1 [.int .u64 now]^blk n2 [.sl s]^arr s KR (dueK v now))) h ?_ ?_ ?_
   ·rintro i (x:Key) hx w S R mid next jump rdy bsy hmid hnext hjump h
    have hi:i < v.ks.length:=(List.getElem?_eq_some_iff.1 hx).1
    refine w_new h fun n12 w h=>w_setAll h (by rfl) fun w h=>hmid h fun w h=>?_
    have h:=h.take (exq (fun _:Sl=>∀ j x,j < i→v.ks[j]?=some x→decide (x.1≤now)=true) (fun s:Sl=>blk n1 [.int .u64 now]^blk n2 [.sl s]^arr s KR (v.ks.take i)))
    obtain ⟨s,hno,h⟩:=h.outq
    refine w_ld h rfl (w_ld h rfl (w_ite (fun c=>?_) fun c=>?_))
    ·have c:x.1 > now:=by simpa using c
     have e:dueK v now=v.ks.take i:=tw_take hno fun y hy=>by rw [hx] at hy;cases hy;simp;omega
     rw [← e] at h
     have h:=h.inq (f:=fun s:Sl=>blk n1 [.int .u64 now]^blk n2 [.sl s]^arr s KR (dueK v now)) (φ:=fun _=>2=2) s rfl
     exact hjump 2 (by decide) h
    ·have c:¬ x.1 > now:=by simpa using c
     refine w_ld h rfl (w_ldAll (b:=n12) (x:=x) h rfl (w_new h fun n17 w h=>?_))
     have h:=h.blkArr n17 KR [x] rfl (by simp)
     refine w_app (s:=s) (x:=⟨some ⟨n17,0⟩,1,1⟩) (ys:=[x]) h rfl (by rw [List.length_take];simp;omega) fun s18 w _ h=>?_
     refine w_setTo h n2 [.sl s18] rfl rfl rfl fun w h=>?_
     have h:=h.arrEq (s:=s18) (K:=KR) (ys:=v.ks.take (i+1)) (take_up hx).symm
     have h:=h.inq (f:=fun s:Sl=>blk n1 [.int .u64 now]^blk n2 [.sl s]^arr s KR (v.ks.take (i+1))) (φ:=fun _=>∀ j x,j < i+1→v.ks[j]?=some x→decide (x.1≤now)=true) s18 (fun j y hj hy=>by
      by_cases hji:j=i
      ·rw [hji,hx] at hy;cases hy;simp;omega
      ·exact hno j y (by omega) hy)
     exact hnext h
   ·intro w h
    have h:=h.take (exq (fun _:Sl=>∀ j x,j < v.ks.length→v.ks[j]?=some x→decide (x.1≤now)=true) (fun s:Sl=>blk n1 [.int .u64 now]^blk n2 [.sl s]^arr s KR (v.ks.take v.ks.length)))
    obtain ⟨s,hno,h⟩:=h.outq
    have e:dueK v now=v.ks.take v.ks.length:=tw_take hno fun y hy=>by simp at hy
    rw [← e] at h
    exact ⟨trivial,Own.retE s h.fin⟩
   ·intro j w hj h
    have h:=h.take (exq (fun _:Sl=>j=2) (fun s:Sl=>blk n1 [.int .u64 now]^blk n2 [.sl s]^arr s KR (dueK v now)))
    obtain ⟨s,hj1,h⟩:=h.outq
    rw [hj1]
    exact ⟨trivial,Own.retE s h.fin⟩
theorem split_head {v:LV} (hv:okL v) (hh:(headF v).2.2=true):(∃ a,v.1=(headF v).1 :: a∧(headF v).2.1=true∧(backF v).2=(a,v.2++[(headF v).1])∧(dropF v).2=(a,v.2)) ∨
  ∃ c,v.1=[]∧v.2=(headF v).1 :: c∧(headF v).2.1=false∧(backF v).2=([],c++[(headF v).1])∧(dropF v).2=([],c):=by
 obtain ⟨a,c⟩:=v
 have hf:∀ (x:Int) (l:List Int),x ∉ l→l.filter (fun y=>decide (y≠x))=l:=fun x l hx=>by
  rw [List.filter_eq_self]
  intro y hy
  have:y≠x:=fun e=>hx (e ▸ hy)
  simpa using this
 have hf2:∀ (x:Int) (l:List Int),x ∉ l→(x :: l).filter (fun y=>decide (y≠x))=l:=fun x l hx=>by
  rw [List.filter_cons,if_neg (by simp),hf x l hx]
 cases a with
 | cons x a =>
  left
  have hn:x ∉ a++c:=(List.nodup_cons.1 hv.1).1
  rw [List.mem_append] at hn
  refine ⟨a,rfl,rfl,?_,?_⟩
  ·unfold backF outF;rw [if_pos hh]
   show (((x :: a).filter (fun y=>decide (y≠x))),c.filter (fun y=>decide (y≠x))++[x])=(a,c++[x])
   rw [hf2 x a fun e=>hn (.inl e),hf x c fun e=>hn (.inr e)]
  ·unfold dropF outF;rw [if_pos hh]
   show (((x :: a).filter (fun y=>decide (y≠x))),c.filter (fun y=>decide (y≠x)))=(a,c)
   rw [hf2 x a fun e=>hn (.inl e),hf x c fun e=>hn (.inr e)]
 | nil=>cases c with
  | nil=>cases hh
  | cons x c =>
   right
   have hn:x ∉ c:=(List.nodup_cons.1 hv.1).1
   refine ⟨c,rfl,rfl,rfl,?_,?_⟩
   ·unfold backF outF;rw [if_pos hh]
    show (([]:List Int).filter (fun y=>decide (y≠x)),(x :: c).filter (fun y=>decide (y≠x))++[x])=([],c++[x])
    rw [hf2 x c hn];rfl
   ·unfold dropF outF;rw [if_pos hh]
    show (([]:List Int).filter (fun y=>decide (y≠x)),(x :: c).filter (fun y=>decide (y≠x)))=([],c)
    rw [hf2 x c hn];rfl
abbrev wt (fl:Nat→Option Fl) (L:List Int):Nat:=(L.map fun x=>crw (fl x.toNat)+1).sum
theorem wt_cons (fl:Nat→Option Fl) (x:Int) (L:List Int):wt fl (x :: L)=crw (fl x.toNat)+1+wt fl L:=by simp [wt]
theorem wt_app (fl:Nat→Option Fl) (L M:List Int):wt fl (L++M)=wt fl L+wt fl M:=by simp [wt]
theorem wt_up (fl:Nat→Option Fl) {i:Nat} (x:Option Fl) {L:List Int} (h:(i:Int) ∉ L) (h0:∀ y∈L,0≤y):wt (upF fl i x) L=wt fl L:=by
 unfold wt
 congr 1
 refine List.map_congr_left fun y hy=>?_
 have:y≠(i:Int):=fun e=>h (e ▸ hy)
 have:=h0 y hy
 rw [upF_ne _ _ (show y.toNat≠i by omega)]
theorem mu_eq (v:Qm):mu v=wt v.fl (v.lv.1++v.lv.2)+v.lv.1.length:=rfl
section
variable {v : Qm} {i : Nat} {f : Fl}
theorem at_parts (h:AtH v i f):(∃ a,v.lv.1=(i:Int) :: a∧(headF v.lv).2.1=true∧(backF v.lv).2=(a,v.lv.2++[(i:Int)])∧(dropF v.lv).2=(a,v.lv.2)∧(i:Int) ∉ a++v.lv.2∧∀ y∈a++v.lv.2,0≤y) ∨
  ∃ c,v.lv.1=[]∧v.lv.2=(i:Int) :: c∧(headF v.lv).2.1=false∧(backF v.lv).2=([],c++[(i:Int)])∧(dropF v.lv).2=([],c)∧(i:Int) ∉ c∧∀ y∈c,0≤y:=by
 have hs:=split_head h.ok.lv h.is
 rw [h.hd] at hs
 obtain ⟨hd,hr⟩:=h.ok.lv
 rcases hs with ⟨a,h1,h2,h3,h4⟩ | ⟨c,h1,h2,h3,h4,h5⟩
 ·rw [h1] at hd hr
  exact .inl ⟨a,h1,h2,h3,h4,(List.nodup_cons.1 hd).1,fun y hy=>(hr y (List.mem_cons_of_mem _ hy)).1⟩
 ·rw [h1,h2] at hd hr
  exact .inr ⟨c,h1,h2,h3,h4,h5,(List.nodup_cons.1 hd).1,fun y hy=>(hr y (List.mem_cons_of_mem _ hy)).1⟩
theorem at_mu_credit (h:AtH v i f) (hc:f.cr≤0):mu { v with fl:=upF v.fl i (some { f with cr:=f.cr+cQ v.c }),lv:=(backF v.lv).2 } < mu v:=by
 have hq:=h.ok.cf.q
 have e1:crw (v.fl i)=(1 - f.cr).toNat:=by rw [h.fl];rfl
 have e2:crw (upF v.fl i (some { f with cr:=f.cr+cQ v.c }) i)=(1 - (f.cr+cQ v.c)).toNat:=by rw [upF_same];rfl
 rw [mu_eq,mu_eq]
 dsimp only
 rcases at_parts h with ⟨a,h1,_,h3,_,h5,h6⟩ | ⟨c,h1,h2,_,h3,_,h5,h6⟩
 ·rw [h3,h1,← List.append_assoc,List.cons_append,wt_cons,wt_app,wt_up _ _ h5 h6,wt_cons,Int.toNat_natCast,e1,e2]
  simp only [List.length_cons,wt,List.map_nil,List.sum_nil]
  omega
 ·rw [h3,h1,h2,List.nil_append,List.nil_append,wt_app,wt_up _ _ h5 h6,wt_cons,wt_cons,Int.toNat_natCast,e1,e2]
  simp only [wt,List.map_nil,List.sum_nil,List.length_nil]
  omega
theorem at_mu_back (h:AtH v i f) (ht:(headF v.lv).2.1=true):mu { v with lv:=(backF v.lv).2 } < mu v:=by
 rw [mu_eq,mu_eq]
 dsimp only
 rcases at_parts h with ⟨a,h1,_,h3,_⟩ | ⟨c,_,_,h4,_⟩
 ·rw [h3,h1,← List.append_assoc,List.cons_append,wt_cons,wt_app,wt_cons]
  simp only [List.length_cons,wt,List.map_nil,List.sum_nil]
  omega
 ·rw [h4] at ht;cases ht
theorem at_mu_drop (h:AtH v i f) (x:Option Fl) (ks:List Key):mu { v with fl:=upF v.fl i x,lv:=(dropF v.lv).2,ks:=ks } < mu v:=by
 rw [mu_eq,mu_eq]
 dsimp only
 rcases at_parts h with ⟨a,h1,_,_,h3,h5,h6⟩ | ⟨c,h1,h2,_,_,h3,h5,h6⟩
 ·rw [h3,h1,List.cons_append,wt_cons,wt_up _ _ h5 h6]
  simp only [List.length_cons]
  omega
 ·rw [h3,h1,h2,List.nil_append,List.nil_append,wt_up _ _ h5 h6,wt_cons]
  simp only [List.length_nil]
  omega
theorem upF_id {x:Option Fl} (h:v.fl i=x):upF v.fl i x=v.fl:=by
 funext j
 by_cases e:j=i
 ·rw [e,upF_same,h]
 ·exact upF_ne _ _ e
theorem heads_at (h:AtH v i f) (now:Int) (rates:List Int) (k:Nat):heads now rates (k+1) v =
  if f.cr≤0 then heads now rates k { v with fl:=upF v.fl i (some { f with cr:=f.cr+cQ v.c }),lv:=(backF v.lv).2 }
   else match f.sg with
    | []=>if (headF v.lv).2.1=true∧v.lv.2≠[] then heads now rates k { v with lv:=(backF v.lv).2 }
     else heads now rates k { v with lv:=(dropF v.lv).2,fl:=upF v.fl i (some { f with si:=now }) }
    | s :: _=>if timeF f > now then heads now rates k { v with lv:=(dropF v.lv).2,ks:=putK v.ks (timeF f,(i:Int)) }
     else (some s,sentF v i f s now (rateA rates i)):=by
 have hm:=headF_mem h.is
 cases e:v.lv.1++v.lv.2 with
 | nil=>rw [e] at hm;cases hm
 | cons x l =>
  have e2:v.fl (headF v.lv).1.toNat=some f:=by rw [h.hd,Int.toNat_natCast];exact h.fl
  rw [heads,e,e2]
  simp only [h.hd,Int.toNat_natCast]
  rfl
end
theorem heads_no {v:Qm} (h:(headF v.lv).2.2=false) (now:Int) (rates:List Int) (k:Nat):heads now rates (k+1) v=(none,v):=by
 have e:=head_no h
 rw [heads,e];rfl
abbrev noS:Sg:=(0,0,0,0,false)
abbrev zS:List Lf:=[.int .i64 0,.int .u64 0,.int .i64 0,.int .u64 0,.bool false]
def outS:Option Sg→Sg × Bool
 | none=>(noS,false)
 | some s=>(s,true)
theorem U_rateA {rates:List Int} (hr:∀ x∈rates,U x) (i:Nat):U (rateA rates i):=by
 unfold rateA
 split
 ·rename_i h;exact hr _ (List.mem_of_getElem? h)
 ·exact ⟨by decide,by decide⟩
theorem deq_tri (b:Nat) (v:Qm) (hv:OkQ v) (now:Int) (hn:U now) (s:Sl) (rates:List Int) (hr:∀ x∈rates,U x):Tri Tryz.prog N_fq_Queue_Dequeue [.lf (.ptr (some ⟨b,0⟩)),.lf (.int .u64 now),.lf (.sl s)] [.agg KS,.lf .bool]
  (que b v^rarr s KU rates) (fun r=>pur (r=outS (deqF v now rates).1) (que b (deqF v now rates).2)) :=
 tri_0 (call_fq_Queue_Dequeue (some ⟨b,0⟩) now s) fun w0 S R h=>by
  unfold W_fq_Queue_Dequeue
  obtain ⟨p,l,t,h⟩:=h.que b
  refine w_new h fun n1 w h=>w_ite (fun c=>(by simp at c)) fun _=>?_
  refine w_call (due_tri b p l t v hv now) h fun _ w h=>?_
  have h:Own w0 S R w (blk n1 zS^rarr s KU rates^blk b (qL ((dueF v now)).c p l t ((dueF v now)).n)^lst l ((dueF v now)).lv^tree 8 t ((dueF v now)).ks^All8 p ((dueF v now)).fl):=h.fin
  refine w_loopE (fun (_:Unit) (u:Qm)=>blk n1 zS^rarr s KU rates^blk b (qL u.c p l t u.n)^lst l u.lv^tree 8 t u.ks^All8 p u.fl) (fun _ u=>OkQ u∧∃ k,mu u < k∧heads now rates k u=deqF v now rates) (fun _ u=>mu u) (dueF v now) h ⟨hv.due now,_,Nat.lt_succ_self _,rfl⟩ ?_
  rintro K (y:Unit) u w ⟨hu,k,hk,hR⟩ h next
  have hslen:=(h.rd (s:=s)).2
  have hl:=hu.lv.few
  cases k with
  | zero=>omega
  | succ k =>
  refine w_deref (w_ld h rfl (w_call (Lists.head_tri l u.lv (by omega)) h fun r w h=>?_))
  obtain ⟨hr2,h⟩:=h.purP;rw [hr2]
  cases hh:(headF u.lv).2.2 with
  | false =>
   rw [heads_no hh] at hR
   refine w_ite (fun _=>?_) fun c=>(by simp at c)
   refine w_setAll h (by rfl) fun w h=>w_ldAll (b:=n1) (x:=noS) h rfl ?_
   rw [← hR]
   exact Own.retP rfl (h.mkQue b p l t u).fin
  | true =>
   refine w_ite (fun c=>(by simp at c)) fun _=>?_
   have hm:=headF_mem hh
   have hx:=hu.lv.2 _ hm
   obtain ⟨i,hi⟩:∃ i:Nat,(headF u.lv).1=(i:Int):=⟨(headF u.lv).1.toNat,by omega⟩
   obtain ⟨f,hf⟩:=hu.th i (by rw [hi] at hm;exact hm)
   have hA:AtH u i f:=⟨hu,hi,hh,hf⟩
   have hi8:=hA.lt
   have hF:=(hu.fl i f hf).2
   have hcr:=hF.cr
   have hq:=hu.cf.q
   rw [heads_at hA] at hR
   have hit:((i:Nat):Int).toNat=i:=Int.toNat_natCast i
   rw [hi]
   refine w_deref ⟨by omega,?_⟩
   rw [hit]
   refine w_ld h (qL_at _ _ _ _ _ i hi8) ?_
   obtain ⟨a,hp,h⟩:=h.outF p u.fl hi8 hf
   rw [hp]
   obtain ⟨sl,h⟩:=h.flow a
   have hsl:=(h.rd (s:=sl)).2
   refine w_deref (w_ld h rfl (w_ite (fun c=>?_) fun c=>?_))
   ·have c:f.cr≤0:=by simpa using c
    rw [if_pos c] at hR
    have hcw:IntKind.i64.wrap (f.cr+cQ u.c)=f.cr+cQ u.c:=wi (by omega) (by omega)
    refine w_drw h fun w h=>w_deref (w_deref (w_ld h rfl (w_ld h rfl (w_deref ?_))))
    refine w_setTo h a [.int .i64 (f.cr+cQ u.c),.int .u64 f.nx,.int .u64 f.si,.sl sl] rfl rfl (by rw [show ([.int .i64 (f.cr+cQ u.c),.int .u64 f.nx,.int .u64 f.si,.sl sl]:List Lf)=[.int .i64 (IntKind.i64.wrap (f.cr+cQ u.c)),.int .u64 f.nx,.int .u64 f.si,.sl sl] by rw [hcw]];rfl) fun w h=>?_
    refine w_deref (w_ld h rfl (w_call (back_tri l u.lv hu.lv) h fun r w h=>?_))
    obtain ⟨_,h⟩:=h.purP
    have h:=h.mkFl a sl (f.cr+cQ u.c) f.nx f.si f.sg { f with cr:=f.cr+cQ u.c } rfl
    have h:=h.inF p u.fl hi8 p (upF u.fl i (some { f with cr:=f.cr+cQ u.c })) a { f with cr:=f.cr+cQ u.c } (fun _ _=>rfl) (fun j e=>upF_ne _ _ e) hp (upF_same _ _ _)
    have hmu:=at_mu_credit hA c
    exact next () { u with fl:=upF u.fl i (some { f with cr:=f.cr+cQ u.c }),lv:=(backF u.lv).2 } w ⟨hA.credit c,k,by omega,hR⟩ h.fin hmu
   have c:¬ f.cr≤0:=by simpa using c
   rw [if_neg c] at hR
   refine w_join h (fun _=>blk n1 zS^rarr s KU rates^blk b (qL u.c p l t u.n)^lst l u.lv^tree 8 t u.ks^But8 p u.fl i^blk a [.int .i64 f.cr,.int .u64 f.nx,.int .u64 f.si,.sl sl]^arr sl KS f.sg) (fun y:Bool=>y=true↔f.sg=[]∧((headF u.lv).2.1=true∧u.lv.2≠[])) (fun (y:Bool) w hy h=>?_) ?_
   ·refine w_ite (fun c2=>?_) fun c2=>?_
    ·obtain ⟨e1,e2⟩:=hy.1 c2
     rw [e1] at hR
     simp only at hR
     rw [if_pos e2] at hR
     refine w_deref (w_ld h rfl (w_call (back_tri l u.lv hu.lv) h fun r w h=>?_))
     obtain ⟨_,h⟩:=h.purP
     have h:=h.mkFlow a sl f
     have h:=h.inF p u.fl hi8 p u.fl a f (fun _ _=>rfl) (fun _ _=>rfl) hp hf
     have hmu:=at_mu_back hA e2.1
     exact next () { u with lv:=(backF u.lv).2 } w ⟨hA.back,k,by omega,hR⟩ h.fin hmu
    have c2:¬ (f.sg=[]∧((headF u.lv).2.1=true∧u.lv.2≠[])):=fun x=>by have:=hy.2 x;rw [c2] at this;cases this
    refine w_deref (w_ld h rfl (w_ite (fun c3=>?_) fun c3=>?_))
    ·have c3:sl.len=0:=by
      have c3:(sl.len:Int)=0:=by simpa using c3
      omega
     have e1:f.sg=[]:=List.eq_nil_of_length_eq_zero (by omega)
     rw [e1] at hR
     simp only at hR
     rw [if_neg (fun x=>c2 ⟨e1,x⟩)] at hR
     refine w_deref (w_ld h rfl (w_call (Lists.drop_tri l u.lv (by omega)) h fun r w h=>?_))
     obtain ⟨_,h⟩:=h.purP
     refine w_deref (w_setTo h a [.int .i64 f.cr,.int .u64 f.nx,.int .u64 now,.sl sl] rfl rfl rfl fun w h=>?_)
     have h:=h.mkFl a sl f.cr f.nx now f.sg { f with si:=now } rfl
     have h:=h.inF p u.fl hi8 p (upF u.fl i (some { f with si:=now })) a { f with si:=now } (fun _ _=>rfl) (fun j e=>upF_ne _ _ e) hp (upF_same _ _ _)
     have hmu:=at_mu_drop hA (some { f with si:=now }) u.ks
     exact next () { u with lv:=(dropF u.lv).2,fl:=upF u.fl i (some { f with si:=now }) } w ⟨hA.nowhere e1 hn,k,by omega,by rw [e1];exact hR⟩ h.fin hmu
    have c3:sl.len≠0:=by
     have c3:¬ (sl.len:Int)=0:=by simpa using c3
     omega
    have e1:f.sg≠[]:=fun e=>by rw [e] at hsl;exact c3 (by simpa using hsl)
    cases hss:f.sg with
    | nil=>exact absurd hss e1
    | cons s0 ss =>
    rw [hss] at hR
    simp only at hR
    have h:=h.mkFlow a sl f
    refine w_call (time_tri a f e1) h fun r w h=>?_
    obtain ⟨hr3,h⟩:=h.purP;rw [hr3]
    refine w_ite (fun c4=>?_) fun c4=>?_
    ·have c4:timeF f > now:=by simpa using c4
     rw [if_pos c4] at hR
     obtain ⟨hOk,hnin,hlt⟩:=hA.wait e1
     refine w_deref (w_ld h rfl (w_call (Lists.drop_tri l u.lv (by omega)) h fun r w h=>?_))
     obtain ⟨_,h⟩:=h.purP
     refine w_drw h fun w h=>w_deref (w_ld h rfl (w_call (key_tri a f e1 i (by omega)) h fun r w h=>?_))
     obtain ⟨hr4,h⟩:=h.purP;rw [hr4]
     refine w_chk h rfl (w_call (insert_tri t 8 u.ks (timeF f,(i:Int))) h fun r w h=>?_)
     obtain ⟨_,h⟩:=h.purP
     have ei:insK 8 u.ks (timeF f,(i:Int))=(0,putK u.ks (timeF f,(i:Int))):=by
      unfold insK;rw [if_neg hnin,if_neg (by omega)]
     rw [ei] at h
     have h:=h.inF p u.fl hi8 p u.fl a f (fun _ _=>rfl) (fun _ _=>rfl) hp hf
     have hmu:=at_mu_drop hA (some f) (putK u.ks (timeF f,(i:Int)))
     rw [upF_id hf] at hmu
     exact next () { u with lv:=(dropF u.lv).2,ks:=putK u.ks (timeF f,(i:Int)) } w ⟨hOk,k,by omega,hR⟩ h.fin hmu
    have c4:¬ timeF f > now:=by simpa using c4
    rw [if_neg c4] at hR
    have hlen:=hu.len hf
    have hlen1:1≤f.sg.length:=by rw [hss];simp
    have hle:=hu.le
    have hUr:=U_rateA hr i
    have hsent:=hA.sent hss (by omega) hn (U_delay (by have:=(hF.sg s0 (by rw [hss];simp)).2.ln;omega) (U_less hUr hu.cf.r))
    refine w_join h (fun _=>blk n1 zS^rarr s KU rates^blk b (qL u.c p l t u.n)^lst l u.lv^tree 8 t u.ks^But8 p u.fl i^FqC.flow a f) (fun y:Int=>y=rateA rates i) (fun (y:Int) w hy h=>?_) ?_
    ·rw [hy]
     refine w_call (send_tri b p l t u hu.cf (by omega) a f i hF s0 ss hss (by omega) now (rateA rates i) hn hUr) h fun r w h=>?_
     obtain ⟨hr5,h⟩:=h.purP;rw [hr5]
     refine w_setAll h (by rfl) fun w h=>w_ldAll (b:=n1) (x:=s0) h rfl ?_
     have h:=h.inF p u.fl hi8 p (sentF u i f s0 now (rateA rates i)).fl a { f with cr:=f.cr - sLn s0,nx:=addI now (delayI (sLn s0) (lessI (rateA rates i) (cR u.c))),sg:=f.sg.tail } (fun _ _=>rfl) (fun j e=>upF_ne _ _ e) hp (upF_same _ _ _)
     rw [← hR]
     exact Own.retP rfl (h.mkQue b p l t (sentF u i f s0 now (rateA rates i))).fin
    ·refine w_ite (fun c5=>?_) fun c5=>?_
     ·have c5:(i:Int) < s.len:=by simpa using c5
      obtain ⟨x,hx⟩:∃ x,rates[i]?=some x:=⟨_,List.getElem?_eq_getElem (by omega)⟩
      refine w_idx (s:=s) h (by omega) (by omega) ?_
      refine w_ldE h s i (y:=x) hx (by rw [hit];rfl) ?_
      refine ⟨?_,h.fin⟩
      show x=rateA rates i
      unfold rateA;rw [hx]
     ·have c5:¬ (i:Int) < s.len:=by simpa using c5
      refine ⟨?_,h.fin⟩
      show (18446744073709551615:Int)=rateA rates i
      unfold rateA;rw [List.getElem?_eq_none (by omega)]
   ·refine w_deref (w_ld h rfl (w_ite (fun c2=>?_) fun c2=>?_))
    ·simp only [Bool.and_eq_true,beq_iff_eq] at c2
     obtain ⟨c2,c3⟩:=c2
     have c2:sl.len=0:=by have c2:(sl.len:Int)=0:=c2;omega
     have e1:f.sg=[]:=List.eq_nil_of_length_eq_zero (by omega)
     have hne:u.lv.1≠[]:=by
      rcases at_parts hA with ⟨a',h1,_⟩ | ⟨c',_,_,h4,_⟩
      ·rw [h1];simp
      ·rw [c3] at h4;cases h4
     refine w_call (old_tri b p l t u.c u.n u.lv hu.lv hne) h fun r w h=>?_
     obtain ⟨hr3,h⟩:=h.purP;rw [hr3]
     refine ⟨?_,h.fin⟩
     show decide (u.lv.2≠[])=true↔_
     rw [decide_eq_true_eq]
     exact ⟨fun x=>⟨e1,c3,x⟩,fun x=>x.2.2⟩
    ·refine ⟨?_,h.fin⟩
     refine ⟨fun e=>(by cases e),fun ⟨e1,e2,_⟩=>?_⟩
     rw [e1] at hsl
     have:sl.len=0:=by simpa using hsl
     rw [e2,this] at c2
     cases c2
end FqG

namespace FqH
open Arith ArithC Lists _root_.Go.X.Tree TreeC TreeD TreeE TreeF FqM FqC FqD FqE FqG
abbrev plainC:Cf:=(3000,15000,100,50,10000000000,0,false,100000,1000)
theorem plain_tri:Tri Tryz.prog N_canterref20_Plain [] [.agg KC] emp (fun r=>pur (r=plainC) emp) :=
 tri_0 call_canterref20_Plain fun w0 S R h=>by
  unfold W_canterref20_Plain
  refine w_new h fun n1 w h=>w_setAll h (by rfl) fun w h=>w_ldAll (b:=n1) (x:=plainC) h rfl ?_
  exact Own.retP rfl h.emp'
theorem u0:U 0:=U_lit 0
theorem plain_may:may plainC=true:=by decide
theorem plain_ok:OkC plainC:=may_ok plain_may (by decide) u0
end FqH

namespace FqI
open Arith ArithC Lists _root_.Go.X.Tree TreeC TreeD TreeE TreeF FqM FqC FqD FqE FqG FqH
def configF (d:Cf):Cf:=((if 100≤cQ d∧cQ d≤65536 then cQ d else 3000),(if 100≤cF d∧cF d≤65536 then cF d else 15000),(if 1≤cL d∧cL d≤512 then cL d else 100),(if 1≤cW d∧cW d≤512 then cW d else 50),(if cH d≤4611686018427387904 then cH d else 10000000000),(cR d),(cD d),(if 1≤cCap d∧cCap d≤1073741824 then cCap d else 100000),(if 100≤cMss d∧cMss d≤9000 then cMss d else 1000))
abbrev zC:List Lf:=[.int .i64 0,.int .i64 0,.int .i64 0,.int .i64 0,.int .u64 0,.int .u64 0,.bool false,.int .i64 0,.int .i64 0]
theorem config_tri (d:Cf):Tri Tryz.prog N_canterplay_Config [.agg (Ks.mk KC d)] [.agg KC] emp (fun r=>pur (r=configF d) emp) :=
 tri_0 (call_canterplay_Config d) fun w0 S R h=>by
  unfold W_canterplay_Config
  refine w_new h fun n1 w h=>w_new h fun n2 w h=>w_call plain_tri h fun r w h=>?_
  obtain ⟨hr,h⟩:=h.purP;rw [hr]
  refine w_new h fun n4 w h=>w_setAll h (by rfl) fun w h=>?_
  have h:=h.blkEq (b:=n4) (L':=[.int .i64 3000,.int .i64 15000,.int .i64 100,.int .i64 50,.int .u64 10000000000,.int .u64 0,.bool false,.int .i64 100000,.int .i64 1000]) rfl
  have h:=h.blkEq (b:=n4) (L':=[.int .i64 3000,.int .i64 15000,.int .i64 100,.int .i64 50,.int .u64 10000000000,.int .u64 0,.bool false,.int .i64 100000,.int .i64 1000]) rfl
  have h:Own w0 S R w (blk n1 (Ks.mk KC d)^blk n2 zC^blk n4 [.int .i64 3000,.int .i64 15000,.int .i64 100,.int .i64 50,.int .u64 10000000000,.int .u64 0,.bool false,.int .i64 100000,.int .i64 1000]):=h.fin
  refine w_join h (fun _:Unit=>blk n1 (Ks.mk KC d)^blk n2 zC^blk n4 [.int .i64 (if 100≤cQ d∧cQ d≤65536 then cQ d else 3000),.int .i64 15000,.int .i64 100,.int .i64 50,.int .u64 10000000000,.int .u64 0,.bool false,.int .i64 100000,.int .i64 1000]) (fun _=>True) ?_ ?_
  rotate_left
  ·refine w_join h (fun _:Bool=>blk n1 (Ks.mk KC d)^blk n2 zC^blk n4 [.int .i64 3000,.int .i64 15000,.int .i64 100,.int .i64 50,.int .u64 10000000000,.int .u64 0,.bool false,.int .i64 100000,.int .i64 1000]) (fun y:Bool=>y=decide (100≤cQ d∧cQ d≤65536)) (fun y w hy h=>?_) ?_
   ·rw [hy]
    refine w_ite (fun c=>?_) fun c=>?_
    ·have c:=of_decide_eq_true c
     refine w_ld h rfl (w_setTo h n4 [.int .i64 (if 100≤cQ d∧cQ d≤65536 then cQ d else 3000),.int .i64 15000,.int .i64 100,.int .i64 50,.int .u64 10000000000,.int .u64 0,.bool false,.int .i64 100000,.int .i64 1000] rfl rfl (by rw [if_pos c];rfl) fun w h=>⟨trivial,h.fin⟩)
    ·have c:=of_decide_eq_false c
     have h:=h.blkEq (b:=n4) (L':=[.int .i64 (if 100≤cQ d∧cQ d≤65536 then cQ d else 3000),.int .i64 15000,.int .i64 100,.int .i64 50,.int .u64 10000000000,.int .u64 0,.bool false,.int .i64 100000,.int .i64 1000]) (by rw [if_neg c])
     exact ⟨trivial,h.fin⟩
   ·refine w_ld h rfl (w_ite (fun c=>w_ld h rfl ⟨?_,h.fin⟩) fun c=>⟨?_,h.fin⟩)
    ·have c:cQ d ≥ 100:=by simpa using c
     show decide (cQ d≤65536)=_
     rw [decide_eq_decide];exact ⟨fun x=>⟨c,x⟩,fun x=>x.2⟩
    ·have c:¬ cQ d ≥ 100:=by simpa using c
     exact (decide_eq_false fun x=>c x.1).symm
  rintro - w - h
  refine w_join h (fun _:Unit=>blk n1 (Ks.mk KC d)^blk n2 zC^blk n4 [.int .i64 (if 100≤cQ d∧cQ d≤65536 then cQ d else 3000),.int .i64 (if 100≤cF d∧cF d≤65536 then cF d else 15000),.int .i64 100,.int .i64 50,.int .u64 10000000000,.int .u64 0,.bool false,.int .i64 100000,.int .i64 1000]) (fun _=>True) ?_ ?_
  rotate_left
  ·refine w_join h (fun _:Bool=>blk n1 (Ks.mk KC d)^blk n2 zC^blk n4 [.int .i64 (if 100≤cQ d∧cQ d≤65536 then cQ d else 3000),.int .i64 15000,.int .i64 100,.int .i64 50,.int .u64 10000000000,.int .u64 0,.bool false,.int .i64 100000,.int .i64 1000]) (fun y:Bool=>y=decide (100≤cF d∧cF d≤65536)) (fun y w hy h=>?_) ?_
   ·rw [hy]
    refine w_ite (fun c=>?_) fun c=>?_
    ·have c:=of_decide_eq_true c
     refine w_ld h rfl (w_setTo h n4 [.int .i64 (if 100≤cQ d∧cQ d≤65536 then cQ d else 3000),.int .i64 (if 100≤cF d∧cF d≤65536 then cF d else 15000),.int .i64 100,.int .i64 50,.int .u64 10000000000,.int .u64 0,.bool false,.int .i64 100000,.int .i64 1000] rfl rfl (by rw [if_pos c];rfl) fun w h=>⟨trivial,h.fin⟩)
    ·have c:=of_decide_eq_false c
     have h:=h.blkEq (b:=n4) (L':=[.int .i64 (if 100≤cQ d∧cQ d≤65536 then cQ d else 3000),.int .i64 (if 100≤cF d∧cF d≤65536 then cF d else 15000),.int .i64 100,.int .i64 50,.int .u64 10000000000,.int .u64 0,.bool false,.int .i64 100000,.int .i64 1000]) (by rw [if_neg c])
     exact ⟨trivial,h.fin⟩
   ·refine w_ld h rfl (w_ite (fun c=>w_ld h rfl ⟨?_,h.fin⟩) fun c=>⟨?_,h.fin⟩)
    ·have c:cF d ≥ 100:=by simpa using c
     show decide (cF d≤65536)=_
     rw [decide_eq_decide];exact ⟨fun x=>⟨c,x⟩,fun x=>x.2⟩
    ·have c:¬ cF d ≥ 100:=by simpa using c
     exact (decide_eq_false fun x=>c x.1).symm
  rintro - w - h
  refine w_join h (fun _:Unit=>blk n1 (Ks.mk KC d)^blk n2 zC^blk n4 [.int .i64 (if 100≤cQ d∧cQ d≤65536 then cQ d else 3000),.int .i64 (if 100≤cF d∧cF d≤65536 then cF d else 15000),.int .i64 (if 1≤cL d∧cL d≤512 then cL d else 100),.int .i64 50,.int .u64 10000000000,.int .u64 0,.bool false,.int .i64 100000,.int .i64 1000]) (fun _=>True) ?_ ?_
  rotate_left
  ·refine w_join h (fun _:Bool=>blk n1 (Ks.mk KC d)^blk n2 zC^blk n4 [.int .i64 (if 100≤cQ d∧cQ d≤65536 then cQ d else 3000),.int .i64 (if 100≤cF d∧cF d≤65536 then cF d else 15000),.int .i64 100,.int .i64 50,.int .u64 10000000000,.int .u64 0,.bool false,.int .i64 100000,.int .i64 1000]) (fun y:Bool=>y=decide (1≤cL d∧cL d≤512)) (fun y w hy h=>?_) ?_
   ·rw [hy]
    refine w_ite (fun c=>?_) fun c=>?_
    ·have c:=of_decide_eq_true c
     refine w_ld h rfl (w_setTo h n4 [.int .i64 (if 100≤cQ d∧cQ d≤65536 then cQ d else 3000),.int .i64 (if 100≤cF d∧cF d≤65536 then cF d else 15000),.int .i64 (if 1≤cL d∧cL d≤512 then cL d else 100),.int .i64 50,.int .u64 10000000000,.int .u64 0,.bool false,.int .i64 100000,.int .i64 1000] rfl rfl (by rw [if_pos c];rfl) fun w h=>⟨trivial,h.fin⟩)
    ·have c:=of_decide_eq_false c
     have h:=h.blkEq (b:=n4) (L':=[.int .i64 (if 100≤cQ d∧cQ d≤65536 then cQ d else 3000),.int .i64 (if 100≤cF d∧cF d≤65536 then cF d else 15000),.int .i64 (if 1≤cL d∧cL d≤512 then cL d else 100),.int .i64 50,.int .u64 10000000000,.int .u64 0,.bool false,.int .i64 100000,.int .i64 1000]) (by rw [if_neg c])
     exact ⟨trivial,h.fin⟩
   ·refine w_ld h rfl (w_ite (fun c=>w_ld h rfl ⟨?_,h.fin⟩) fun c=>⟨?_,h.fin⟩)
    ·have c:cL d ≥ 1:=by simpa using c
     show decide (cL d≤512)=_
     rw [decide_eq_decide];exact ⟨fun x=>⟨c,x⟩,fun x=>x.2⟩
    ·have c:¬ cL d ≥ 1:=by simpa using c
     exact (decide_eq_false fun x=>c x.1).symm
  rintro - w - h
  refine w_join h (fun _:Unit=>blk n1 (Ks.mk KC d)^blk n2 zC^blk n4 [.int .i64 (if 100≤cQ d∧cQ d≤65536 then cQ d else 3000),.int .i64 (if 100≤cF d∧cF d≤65536 then cF d else 15000),.int .i64 (if 1≤cL d∧cL d≤512 then cL d else 100),.int .i64 (if 1≤cW d∧cW d≤512 then cW d else 50),.int .u64 10000000000,.int .u64 0,.bool false,.int .i64 100000,.int .i64 1000]) (fun _=>True) ?_ ?_
  rotate_left
  ·refine w_join h (fun _:Bool=>blk n1 (Ks.mk KC d)^blk n2 zC^blk n4 [.int .i64 (if 100≤cQ d∧cQ d≤65536 then cQ d else 3000),.int .i64 (if 100≤cF d∧cF d≤65536 then cF d else 15000),.int .i64 (if 1≤cL d∧cL d≤512 then cL d else 100),.int .i64 50,.int .u64 10000000000,.int .u64 0,.bool false,.int .i64 100000,.int .i64 1000]) (fun y:Bool=>y=decide (1≤cW d∧cW d≤512)) (fun y w hy h=>?_) ?_
   ·rw [hy]
    refine w_ite (fun c=>?_) fun c=>?_
    ·have c:=of_decide_eq_true c
     refine w_ld h rfl (w_setTo h n4 [.int .i64 (if 100≤cQ d∧cQ d≤65536 then cQ d else 3000),.int .i64 (if 100≤cF d∧cF d≤65536 then cF d else 15000),.int .i64 (if 1≤cL d∧cL d≤512 then cL d else 100),.int .i64 (if 1≤cW d∧cW d≤512 then cW d else 50),.int .u64 10000000000,.int .u64 0,.bool false,.int .i64 100000,.int .i64 1000] rfl rfl (by rw [if_pos c];rfl) fun w h=>⟨trivial,h.fin⟩)
    ·have c:=of_decide_eq_false c
     have h:=h.blkEq (b:=n4) (L':=[.int .i64 (if 100≤cQ d∧cQ d≤65536 then cQ d else 3000),.int .i64 (if 100≤cF d∧cF d≤65536 then cF d else 15000),.int .i64 (if 1≤cL d∧cL d≤512 then cL d else 100),.int .i64 (if 1≤cW d∧cW d≤512 then cW d else 50),.int .u64 10000000000,.int .u64 0,.bool false,.int .i64 100000,.int .i64 1000]) (by rw [if_neg c])
     exact ⟨trivial,h.fin⟩
   ·refine w_ld h rfl (w_ite (fun c=>w_ld h rfl ⟨?_,h.fin⟩) fun c=>⟨?_,h.fin⟩)
    ·have c:cW d ≥ 1:=by simpa using c
     show decide (cW d≤512)=_
     rw [decide_eq_decide];exact ⟨fun x=>⟨c,x⟩,fun x=>x.2⟩
    ·have c:¬ cW d ≥ 1:=by simpa using c
     exact (decide_eq_false fun x=>c x.1).symm
  rintro - w - h
  refine w_join h (fun _:Unit=>blk n1 (Ks.mk KC d)^blk n2 zC^blk n4 [.int .i64 (if 100≤cQ d∧cQ d≤65536 then cQ d else 3000),.int .i64 (if 100≤cF d∧cF d≤65536 then cF d else 15000),.int .i64 (if 1≤cL d∧cL d≤512 then cL d else 100),.int .i64 (if 1≤cW d∧cW d≤512 then cW d else 50),.int .u64 (if cH d≤4611686018427387904 then cH d else 10000000000),.int .u64 0,.bool false,.int .i64 100000,.int .i64 1000]) (fun _=>True) ?_ ?_
  rotate_left
  ·refine w_ld h rfl (w_ite (fun c=>?_) fun c=>?_)
   ·have c:cH d≤4611686018427387904:=by simpa using c
    refine w_ld h rfl (w_setTo h n4 [.int .i64 (if 100≤cQ d∧cQ d≤65536 then cQ d else 3000),.int .i64 (if 100≤cF d∧cF d≤65536 then cF d else 15000),.int .i64 (if 1≤cL d∧cL d≤512 then cL d else 100),.int .i64 (if 1≤cW d∧cW d≤512 then cW d else 50),.int .u64 (if cH d≤4611686018427387904 then cH d else 10000000000),.int .u64 0,.bool false,.int .i64 100000,.int .i64 1000] rfl rfl (by rw [if_pos c];rfl) fun w h=>⟨trivial,h.fin⟩)
   ·have c:¬ cH d≤4611686018427387904:=by simpa using c
    have h:=h.blkEq (b:=n4) (L':=[.int .i64 (if 100≤cQ d∧cQ d≤65536 then cQ d else 3000),.int .i64 (if 100≤cF d∧cF d≤65536 then cF d else 15000),.int .i64 (if 1≤cL d∧cL d≤512 then cL d else 100),.int .i64 (if 1≤cW d∧cW d≤512 then cW d else 50),.int .u64 (if cH d≤4611686018427387904 then cH d else 10000000000),.int .u64 0,.bool false,.int .i64 100000,.int .i64 1000]) (by rw [if_neg c])
    exact ⟨trivial,h.fin⟩
  rintro - w - h
  refine w_join h (fun _:Unit=>blk n1 (Ks.mk KC d)^blk n2 zC^blk n4 [.int .i64 (if 100≤cQ d∧cQ d≤65536 then cQ d else 3000),.int .i64 (if 100≤cF d∧cF d≤65536 then cF d else 15000),.int .i64 (if 1≤cL d∧cL d≤512 then cL d else 100),.int .i64 (if 1≤cW d∧cW d≤512 then cW d else 50),.int .u64 (if cH d≤4611686018427387904 then cH d else 10000000000),.int .u64 0,.bool false,.int .i64 (if 1≤cCap d∧cCap d≤1073741824 then cCap d else 100000),.int .i64 1000]) (fun _=>True) ?_ ?_
  rotate_left
  ·refine w_join h (fun _:Bool=>blk n1 (Ks.mk KC d)^blk n2 zC^blk n4 [.int .i64 (if 100≤cQ d∧cQ d≤65536 then cQ d else 3000),.int .i64 (if 100≤cF d∧cF d≤65536 then cF d else 15000),.int .i64 (if 1≤cL d∧cL d≤512 then cL d else 100),.int .i64 (if 1≤cW d∧cW d≤512 then cW d else 50),.int .u64 (if cH d≤4611686018427387904 then cH d else 10000000000),.int .u64 0,.bool false,.int .i64 100000,.int .i64 1000]) (fun y:Bool=>y=decide (1≤cCap d∧cCap d≤1073741824)) (fun y w hy h=>?_) ?_
   ·rw [hy]
    refine w_ite (fun c=>?_) fun c=>?_
    ·have c:=of_decide_eq_true c
     refine w_ld h rfl (w_setTo h n4 [.int .i64 (if 100≤cQ d∧cQ d≤65536 then cQ d else 3000),.int .i64 (if 100≤cF d∧cF d≤65536 then cF d else 15000),.int .i64 (if 1≤cL d∧cL d≤512 then cL d else 100),.int .i64 (if 1≤cW d∧cW d≤512 then cW d else 50),.int .u64 (if cH d≤4611686018427387904 then cH d else 10000000000),.int .u64 0,.bool false,.int .i64 (if 1≤cCap d∧cCap d≤1073741824 then cCap d else 100000),.int .i64 1000] rfl rfl (by rw [if_pos c];rfl) fun w h=>⟨trivial,h.fin⟩)
    ·have c:=of_decide_eq_false c
     have h:=h.blkEq (b:=n4) (L':=[.int .i64 (if 100≤cQ d∧cQ d≤65536 then cQ d else 3000),.int .i64 (if 100≤cF d∧cF d≤65536 then cF d else 15000),.int .i64 (if 1≤cL d∧cL d≤512 then cL d else 100),.int .i64 (if 1≤cW d∧cW d≤512 then cW d else 50),.int .u64 (if cH d≤4611686018427387904 then cH d else 10000000000),.int .u64 0,.bool false,.int .i64 (if 1≤cCap d∧cCap d≤1073741824 then cCap d else 100000),.int .i64 1000]) (by rw [if_neg c])
     exact ⟨trivial,h.fin⟩
   ·refine w_ld h rfl (w_ite (fun c=>w_ld h rfl ⟨?_,h.fin⟩) fun c=>⟨?_,h.fin⟩)
    ·have c:cCap d ≥ 1:=by simpa using c
     show decide (cCap d≤1073741824)=_
     rw [decide_eq_decide];exact ⟨fun x=>⟨c,x⟩,fun x=>x.2⟩
    ·have c:¬ cCap d ≥ 1:=by simpa using c
     exact (decide_eq_false fun x=>c x.1).symm
  rintro - w - h
  refine w_join h (fun _:Unit=>blk n1 (Ks.mk KC d)^blk n2 zC^blk n4 [.int .i64 (if 100≤cQ d∧cQ d≤65536 then cQ d else 3000),.int .i64 (if 100≤cF d∧cF d≤65536 then cF d else 15000),.int .i64 (if 1≤cL d∧cL d≤512 then cL d else 100),.int .i64 (if 1≤cW d∧cW d≤512 then cW d else 50),.int .u64 (if cH d≤4611686018427387904 then cH d else 10000000000),.int .u64 0,.bool false,.int .i64 (if 1≤cCap d∧cCap d≤1073741824 then cCap d else 100000),.int .i64 (if 100≤cMss d∧cMss d≤9000 then cMss d else 1000)]) (fun _=>True) ?_ ?_
  rotate_left
  ·refine w_join h (fun _:Bool=>blk n1 (Ks.mk KC d)^blk n2 zC^blk n4 [.int .i64 (if 100≤cQ d∧cQ d≤65536 then cQ d else 3000),.int .i64 (if 100≤cF d∧cF d≤65536 then cF d else 15000),.int .i64 (if 1≤cL d∧cL d≤512 then cL d else 100),.int .i64 (if 1≤cW d∧cW d≤512 then cW d else 50),.int .u64 (if cH d≤4611686018427387904 then cH d else 10000000000),.int .u64 0,.bool false,.int .i64 (if 1≤cCap d∧cCap d≤1073741824 then cCap d else 100000),.int .i64 1000]) (fun y:Bool=>y=decide (100≤cMss d∧cMss d≤9000)) (fun y w hy h=>?_) ?_
   ·rw [hy]
    refine w_ite (fun c=>?_) fun c=>?_
    ·have c:=of_decide_eq_true c
     refine w_ld h rfl (w_setTo h n4 [.int .i64 (if 100≤cQ d∧cQ d≤65536 then cQ d else 3000),.int .i64 (if 100≤cF d∧cF d≤65536 then cF d else 15000),.int .i64 (if 1≤cL d∧cL d≤512 then cL d else 100),.int .i64 (if 1≤cW d∧cW d≤512 then cW d else 50),.int .u64 (if cH d≤4611686018427387904 then cH d else 10000000000),.int .u64 0,.bool false,.int .i64 (if 1≤cCap d∧cCap d≤1073741824 then cCap d else 100000),.int .i64 (if 100≤cMss d∧cMss d≤9000 then cMss d else 1000)] rfl rfl (by rw [if_pos c];rfl) fun w h=>⟨trivial,h.fin⟩)
    ·have c:=of_decide_eq_false c
     have h:=h.blkEq (b:=n4) (L':=[.int .i64 (if 100≤cQ d∧cQ d≤65536 then cQ d else 3000),.int .i64 (if 100≤cF d∧cF d≤65536 then cF d else 15000),.int .i64 (if 1≤cL d∧cL d≤512 then cL d else 100),.int .i64 (if 1≤cW d∧cW d≤512 then cW d else 50),.int .u64 (if cH d≤4611686018427387904 then cH d else 10000000000),.int .u64 0,.bool false,.int .i64 (if 1≤cCap d∧cCap d≤1073741824 then cCap d else 100000),.int .i64 (if 100≤cMss d∧cMss d≤9000 then cMss d else 1000)]) (by rw [if_neg c])
     exact ⟨trivial,h.fin⟩
   ·refine w_ld h rfl (w_ite (fun c=>w_ld h rfl ⟨?_,h.fin⟩) fun c=>⟨?_,h.fin⟩)
    ·have c:cMss d ≥ 100:=by simpa using c
     show decide (cMss d≤9000)=_
     rw [decide_eq_decide];exact ⟨fun x=>⟨c,x⟩,fun x=>x.2⟩
    ·have c:¬ cMss d ≥ 100:=by simpa using c
     exact (decide_eq_false fun x=>c x.1).symm
  rintro - w - h
  refine w_drw h fun w h=>w_ld h rfl (w_ld h rfl (w_setTo h n4 [.int .i64 (if 100≤cQ d∧cQ d≤65536 then cQ d else 3000),.int .i64 (if 100≤cF d∧cF d≤65536 then cF d else 15000),.int .i64 (if 1≤cL d∧cL d≤512 then cL d else 100),.int .i64 (if 1≤cW d∧cW d≤512 then cW d else 50),.int .u64 (if cH d≤4611686018427387904 then cH d else 10000000000),.int .u64 (cR d),.bool false,.int .i64 (if 1≤cCap d∧cCap d≤1073741824 then cCap d else 100000),.int .i64 (if 100≤cMss d∧cMss d≤9000 then cMss d else 1000)] rfl rfl rfl fun w h=>w_chk h rfl (w_setTo h n4 [.int .i64 (if 100≤cQ d∧cQ d≤65536 then cQ d else 3000),.int .i64 (if 100≤cF d∧cF d≤65536 then cF d else 15000),.int .i64 (if 1≤cL d∧cL d≤512 then cL d else 100),.int .i64 (if 1≤cW d∧cW d≤512 then cW d else 50),.int .u64 (if cH d≤4611686018427387904 then cH d else 10000000000),.int .u64 (cR d),.bool (cD d),.int .i64 (if 1≤cCap d∧cCap d≤1073741824 then cCap d else 100000),.int .i64 (if 100≤cMss d∧cMss d≤9000 then cMss d else 1000)] rfl rfl rfl fun w h=>?_)))
  refine w_ldAll (b:=n4) (x:=configF d) h rfl (w_setAll h (by rfl) fun w h=>w_ldAll (b:=n2) (x:=configF d) h rfl ?_)
  exact Own.retP rfl h.emp'
theorem config_may (d:Cf):may (configF d)=true:=by
 unfold may configF
 simp only [Bool.and_eq_true,decide_eq_true_eq]
 refine ⟨?_,?_,?_,?_,?_,?_,?_⟩<;>dsimp only [cQ,cF,cL,cW,cH,cCap,cMss]<;>split<;>omega
theorem config_ok {d:Cf} (h0:0≤cH d) (hr:U (cR d)):OkC (configF d):=may_ok (config_may d) (by unfold configF;dsimp only [cH];split<;>(try assumption);omega) hr
theorem wf_u {n:Int} (h:(Lit.int .u64 n).wf=true):U n:=by
 have h:IntKind.u64.min≤n∧n≤IntKind.u64.max:=by simpa [Lit.wf] using h
 have e1:IntKind.u64.min=0:=by decide
 have e2:IntKind.u64.max=18446744073709551615:=by decide
 unfold U
 omega
theorem okC_of {d:Cf} (h:∀ k n,Lf.int k n∈Ks.mk KC d→(Lit.int k n).wf=true):0≤cH d∧U (cR d) :=
 ⟨(wf_u (h .u64 (cH d) (List.mem_of_getElem? (i:=4) rfl))).1,wf_u (h .u64 (cR d) (List.mem_of_getElem? (i:=5) rfl))⟩
end FqI

namespace FqK
open Arith ArithC Lists _root_.Go.X.Tree TreeC TreeD TreeE TreeF FqM FqC FqD FqE FqG FqH FqI
def one (c:Cf) (i:Nat) (f:Fl) (lv:LV) (ks:List Key):Qm:=⟨c,upF (fun _=>none) i (some f),lv,ks,f.sg.length⟩
def deqH (now:Int) (rates:List Int) (u:Qm):Option Sg × Qm:=heads now rates (mu u+1) u
theorem deq_eq (v:Qm) (now:Int) (rates:List Int):deqF v now rates=deqH now rates (dueF v now):=rfl
end FqK

namespace FqN
open Arith ArithC Lists _root_.Go.X.Tree TreeC TreeD TreeE TreeF FqM FqC FqD FqE FqG FqH FqI FqK
abbrev l0:LV:=([((0:Nat):Int)],[])
theorem deq_ok {v:Qm} (hv:OkQ v) {now:Int} (hn:U now) {rates:List Int} (hr:∀ x∈rates,U x):OkQ (deqF v now rates).2:=by
 rw [deq_eq]
 unfold deqH
 suffices ∀ k u,OkQ u→OkQ (heads now rates k u).2 from this _ _ (hv.due now)
 intro k
 induction k with
 | zero=>intro u hu;exact hu
 | succ k ih =>
  intro u hu
  cases hh:(headF u.lv).2.2 with
  | false=>rw [heads_no hh];exact hu
  | true =>
   have hmm:=headF_mem hh
   have hx:=hu.lv.2 _ hmm
   obtain ⟨i,hi⟩:∃ i:Nat,(headF u.lv).1=(i:Int):=⟨(headF u.lv).1.toNat,by omega⟩
   obtain ⟨f,hf⟩:=hu.th i (by rw [hi] at hmm;exact hmm)
   have hA:AtH u i f:=⟨hu,hi,hh,hf⟩
   rw [heads_at hA]
   by_cases c:f.cr≤0
   ·rw [if_pos c]
    exact ih _ (hA.credit c)
   ·rw [if_neg c]
    cases hs:f.sg with
    | nil =>
     simp only
     split
     ·exact ih _ hA.back
     ·rw [← hs]
      exact ih _ (hA.nowhere hs hn)
    | cons s l =>
     simp only
     split
     ·exact ih _ (hA.wait (by rw [hs];simp)).1
     ·have hF:=(hu.fl i f hf).2
      exact hA.sent hs (by omega) hn (U_delay (by have:=(hF.sg s (by rw [hs];simp)).2.ln;omega) (U_less (U_rateA hr i) hu.cf.r))
end FqN

namespace FqQ
open Arith ArithC Lists _root_.Go.X.Tree TreeC TreeD TreeE TreeF FqM FqC FqD FqE FqG FqH FqI FqK FqN
def Same (u v:Qm):Prop:=∀ i,(v.fl i).map (fun f=>(f.nx,f.sg))=(u.fl i).map fun f=>(f.nx,f.sg)
theorem Same.rfl' (u:Qm):Same u u:=fun _=>rfl
theorem Same.trans {a b c:Qm} (h:Same a b) (g:Same b c):Same a c:=fun i=>(g i).trans (h i)
theorem Same.to {u v:Qm} (h:Same u v) {i:Nat} {f:Fl} (hf:u.fl i=some f):∃ g,v.fl i=some g∧g.nx=f.nx∧g.sg=f.sg∧timeF g=timeF f:=by
 have:=h i
 rw [hf] at this
 cases hg:v.fl i with
 | none=>rw [hg] at this;cases this
 | some g =>
  rw [hg] at this
  simp only [Option.map_some,Option.some.injEq,Prod.mk.injEq] at this
  refine ⟨g,rfl,this.1,this.2,?_⟩
  unfold timeF
  rw [this.1,this.2]
theorem same_up {u:Qm} {i:Nat} {f g:Fl} (hf:u.fl i=some f) (h1:g.nx=f.nx) (h2:g.sg=f.sg) (lv:LV) (ks:List Key):Same u { u with fl:=upF u.fl i (some g),lv:=lv,ks:=ks }:=fun j=>by
 show (upF u.fl i (some g) j).map _=_
 by_cases e:j=i
 ·rw [e,upF_same,hf]
  simp [h1,h2]
 ·rw [upF_ne _ _ e]
structure Ran (now:Int) (u v:Qm):Prop where
 ok:OkQ v
 same:Same u v
 late:∀ k∈v.ks,k.1 > now
 c:v.c=u.c
 n:v.n=u.n
structure Kept (P:Qm→Prop) (now:Int):Prop where
 credit:∀ {u i f},AtH u i f→f.cr≤0→P u→P { u with fl:=upF u.fl i (some { f with cr:=f.cr+cQ u.c }),lv:=(backF u.lv).2 }
 back:∀ {u i f},AtH u i f→f.cr > 0→f.sg=[]→(headF u.lv).2.1=true∧u.lv.2≠[]→P u→P { u with lv:=(backF u.lv).2 }
 drop:∀ {u i f},AtH u i f→f.cr > 0→f.sg=[]→¬ ((headF u.lv).2.1=true∧u.lv.2≠[])→P u→P { u with lv:=(dropF u.lv).2,fl:=upF u.fl i (some { f with si:=now }) }
 wait:∀ {u i f},AtH u i f→f.cr > 0→f.sg≠[]→timeF f > now→P u→P { u with lv:=(dropF u.lv).2,ks:=putK u.ks (timeF f,(i:Int)) }
theorem runP {now:Int} {rates:List Int} (P:Qm→Prop) (hP:Kept P now) (hn:U now) (hr:∀ x∈rates,U x):∀ (k:Nat) (u:Qm),mu u < k→OkQ u→(∀ x∈u.ks,x.1 > now)→P u →
  ∃ v,(Ran now u v∧P v)∧(((headF v.lv).2.2=false∧heads now rates k u=(none,v))∨∃ i f s l,AtH v i f∧f.cr > 0∧f.sg=s :: l∧timeF f≤now∧heads now rates k u=(some s,sentF v i f s now (rateA rates i))):=by
 intro k
 induction k with
 | zero=>intro u h;omega
 | succ k ih =>
  intro u hk hu hl hp
  cases hh:(headF u.lv).2.2 with
  | false=>exact ⟨u,⟨⟨hu,Same.rfl' u,hl,rfl,rfl⟩,hp⟩,.inl ⟨hh,heads_no hh _ _ _⟩⟩
  | true =>
   have hmm:=headF_mem hh
   have hx:=hu.lv.2 _ hmm
   obtain ⟨i,hi⟩:∃ i:Nat,(headF u.lv).1=(i:Int):=⟨(headF u.lv).1.toNat,by omega⟩
   obtain ⟨f,hf⟩:=hu.th i (by rw [hi] at hmm;exact hmm)
   have hA:AtH u i f:=⟨hu,hi,hh,hf⟩
   rw [heads_at hA]
   have go:∀ u':Qm,OkQ u'→mu u' < mu u→Same u u'→(∀ x∈u'.ks,x.1 > now)→u'.c=u.c→u'.n=u.n→P u' →
     ∃ v,(Ran now u v∧P v)∧(((headF v.lv).2.2=false∧heads now rates k u'=(none,v))∨∃ i f s l,AtH v i f∧f.cr > 0∧f.sg=s :: l∧timeF f≤now∧heads now rates k u'=(some s,sentF v i f s now (rateA rates i))):=fun u' h1 h2 h3 h4 h5 h6 h7=>by
    obtain ⟨v,⟨hv,hv2⟩,h⟩:=ih u' (by omega) h1 h4 h7
    exact ⟨v,⟨⟨hv.ok,h3.trans hv.same,hv.late,hv.c.trans h5,hv.n.trans h6⟩,hv2⟩,h⟩
   by_cases c:f.cr≤0
   ·rw [if_pos c]
    exact go _ (hA.credit c) (at_mu_credit hA c) (same_up (g:={ f with cr:=f.cr+cQ u.c }) hf rfl rfl _ _) hl rfl rfl (hP.credit hA c hp)
   ·rw [if_neg c]
    cases hs:f.sg with
    | nil =>
     simp only
     split
     ·rename_i c2
      exact go _ hA.back (at_mu_back hA c2.1) (fun _=>rfl) hl rfl rfl (hP.back hA (by omega) hs c2 hp)
     ·rename_i c2
      rw [← hs]
      exact go _ (hA.nowhere hs hn) (at_mu_drop hA _ _) (same_up (g:={ f with si:=now }) hf rfl rfl _ _) hl rfl rfl (hP.drop hA (by omega) hs c2 hp)
    | cons s l =>
     simp only
     split
     ·rename_i c2
      have hmu:=at_mu_drop hA (some f) (putK u.ks (timeF f,(i:Int)))
      rw [upF_id hA.fl] at hmu
      refine go _ (hA.wait (by rw [hs];simp)).1 hmu (fun _=>rfl) (fun x hx=>?_) rfl rfl (hP.wait hA (by omega) (by rw [hs];simp) c2 hp)
      rcases (putK_mem _ _ _).1 hx with rfl | hx
      ·exact c2
      ·exact hl x hx
     ·rename_i c2
      exact ⟨u,⟨⟨hu,Same.rfl' u,hl,rfl,rfl⟩,hp⟩,.inr ⟨i,f,s,l,hA,by omega,hs,by omega,rfl⟩⟩
theorem due_late {v:Qm} (hv:OkQ v) (now:Int):∀ k∈(dueF v now).ks,k.1 > now:=by
 have:∀ {ks:List Key},Srt ks→∀ k∈ks.dropWhile (fun k=>decide (k.1≤now)),k.1 > now:=fun {ks}=>by
  induction ks with
  | nil=>intro _ k hk;cases hk
  | cons a l ih =>
   intro hs k hk
   rw [List.dropWhile_cons] at hk
   split at hk
   ·exact ih (List.pairwise_cons.1 hs).2 k hk
   ·rename_i c
    have c:a.1 > now:=by simpa using c
    rcases List.mem_cons.1 hk with rfl | hk
    ·exact c
    ·have:=(List.pairwise_cons.1 hs).1 k hk
     rw [klt_iff] at this
     omega
 exact this hv.srt
theorem ranP {v:Qm} (P:Qm→Prop) (hv:OkQ v) {now:Int} (hP:Kept P now) (hn:U now) {rates:List Int} (hr:∀ x∈rates,U x) (hp:P (dueF v now)) :
  ∃ u,(Ran now v u∧P u)∧(((headF u.lv).2.2=false∧deqF v now rates=(none,u))∨∃ i f s l,AtH u i f∧f.cr > 0∧f.sg=s :: l∧timeF f≤now∧deqF v now rates=(some s,sentF u i f s now (rateA rates i))):=by
 obtain ⟨u,⟨h1,h3⟩,h2⟩:=runP P hP hn hr (mu (dueF v now)+1) (dueF v now) (Nat.lt_succ_self _) (hv.due now) (due_late hv now) hp
 exact ⟨u,⟨⟨h1.ok,(show Same v (dueF v now) from fun _=>rfl).trans h1.same,h1.late,h1.c,h1.n⟩,h3⟩,h2⟩
theorem ran {v:Qm} (hv:OkQ v) {now:Int} (hn:U now) {rates:List Int} (hr:∀ x∈rates,U x) :
  ∃ u,Ran now v u∧(((headF u.lv).2.2=false∧deqF v now rates=(none,u))∨∃ i f s l,AtH u i f∧f.cr > 0∧f.sg=s :: l∧timeF f≤now∧deqF v now rates=(some s,sentF u i f s now (rateA rates i))):=by
 obtain ⟨u,⟨h1,_⟩,h2⟩:=ranP (fun _=>True) hv ⟨fun _ _ _=>trivial,fun _ _ _ _ _=>trivial,fun _ _ _ _ _=>trivial,fun _ _ _ _ _=>trivial⟩ hn hr trivial
 exact ⟨u,h1,h2⟩
end FqQ

namespace FqR
open Arith ArithC Lists _root_.Go.X.Tree TreeC TreeD TreeE TreeF FqM FqC FqD FqE FqG FqH FqI FqK FqN FqQ
abbrev KD:Ks:=[.int .i64,.int .u64,.int .i64,.int .u64,.int .i64,.int .u64,.bool,.sl,.int .i64,.int .i64,.int .i64,.int .i64,.int .u64,.int .u64,.bool,.int .i64,.int .i64,.bool]
abbrev DD:=Ks.T KD
abbrev dG (d:DD):Int:=d.2.1
abbrev dS (d:DD):Sg:=(d.2.2.1,d.2.2.2.1,d.2.2.2.2.1,d.2.2.2.2.2.1,d.2.2.2.2.2.2.1)
abbrev dR (d:DD):Sl:=d.2.2.2.2.2.2.2.1
abbrev dC (d:DD):Cf:=(d.2.2.2.2.2.2.2.2.1,d.2.2.2.2.2.2.2.2.2.1,d.2.2.2.2.2.2.2.2.2.2.1,d.2.2.2.2.2.2.2.2.2.2.2.1,d.2.2.2.2.2.2.2.2.2.2.2.2.1,d.2.2.2.2.2.2.2.2.2.2.2.2.2.1,d.2.2.2.2.2.2.2.2.2.2.2.2.2.2.1,d.2.2.2.2.2.2.2.2.2.2.2.2.2.2.2.1,d.2.2.2.2.2.2.2.2.2.2.2.2.2.2.2.2.1)
abbrev OpD:=DD × List Int
structure OkD (p:OpD):Prop where
 g:U (dG p.1)
 s:U (sFr (dS p.1))∧U (sSt (dS p.1))
 c:0≤cH (dC p.1)∧U (cR (dC p.1))
 r:∀ y∈p.2,U y
end FqR

namespace FqT
open Arith ArithC Lists _root_.Go.X.Tree TreeC TreeD TreeE TreeF FqM FqC FqD FqE FqG FqH FqI FqK FqN FqQ FqR
def upL (g:Nat→List Int) (i:Nat) (x:List Int):Nat→List Int:=fun j=>if j=i then x else g j
theorem fate_ne {v:Qm} {s:Sg} {t:Int} (h:fateF v s t≠0):fateF v s t=2∨fateF v s t=3∨fateF v s t=4:=by
 unfold fateF at h ⊢
 split
 ·exact .inl rfl
 ·rename_i c1
  rw [if_neg c1] at h
  split
  ·exact .inr (.inl rfl)
  ·rename_i c2
   rw [if_neg c2] at h
   split
   ·exact .inr (.inr rfl)
   ·rename_i c3
    rw [if_neg c3] at h
    exact absurd rfl h
abbrev sL (s:Nat→Sl):List Lf:=[.sl (s 0),.sl (s 1),.sl (s 2),.sl (s 3),.sl (s 4),.sl (s 5),.sl (s 6),.sl (s 7)]
section
variable {w0 w : World} {S0 R0 : Nat → Prop} {F G : SP}
end
end FqT

end Go.X
