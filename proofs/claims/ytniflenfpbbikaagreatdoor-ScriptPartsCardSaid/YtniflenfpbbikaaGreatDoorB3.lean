/- Contracts and plain facts: TreeE TreeF FqM FqC. -/
import Derived.Test.YtniflenfpbbikaaGreatDoorB0
import Derived.Test.YtniflenfpbbikaaGreatDoorB1
import Derived.Test.YtniflenfpbbikaaGreatDoorB2
import Derived.Test.YtniflenfpbbikaaGreatDoorK
import Derived.Test.YtniflenfpbbikaaGreatDoorF0
import Derived.Test.YtniflenfpbbikaaGreatDoorF1
import Derived.Test.YtniflenfpbbikaaGreatDoorF2
set_option linter.unusedVariables false
set_option linter.unusedSimpArgs false
set_option linter.unusedSectionVars false
namespace Go.X
open Go.Proofs
namespace TreeE
open _root_.Go.X.Tree TreeA TreeB TreeC TreeD
theorem rep_swap {l l':List Nd}:∀ {c:List Stp} {t t':Tr},t.rt=t'.rt→t.ht=t'.ht→Rep l (fill t c)→Rep l' t'→(∀ j,j∈lc c∨j∈rc c→l'[j]?=l[j]?)→Rep l' (fill t' c)
 | [],_,_,_,_,_,h,_=>h
 | .L i k r :: c,t,t',h1,h2,h3,h4,hf=>by
  have h3':Rep l (fill (.n t i k r) c):=h3
  obtain ⟨⟨q1,q2,q3⟩,_⟩:=rep_fill h3'
  refine rep_swap (c:=c) (t:=.n t i k r) (t':=.n t' i k r) rfl (by simp only [Tr.ht,h2]) h3' ⟨?_,h4,q3.frame fun j hj=>hf j (.inr (by simp [rc,hj]))⟩ fun j hj=>hf j (hj.imp (fun x=>x) fun x=>by simp [rc,x])
  rw [hf i (.inr (by simp [rc])),q1,h1,h2]
 | .R q i k :: c,t,t',h1,h2,h3,h4,hf=>by
  have h3':Rep l (fill (.n q i k t) c):=h3
  obtain ⟨⟨q1,q2,q3⟩,_⟩:=rep_fill h3'
  refine rep_swap (c:=c) (t:=.n q i k t) (t':=.n q i k t') rfl (by simp only [Tr.ht,h2]) h3' ⟨?_,q2.frame fun j hj=>hf j (.inl (by simp [lc,hj])),h4⟩ fun j hj=>hf j (hj.imp (fun x=>by simp [lc,x]) fun x=>x)
  rw [hf i (.inl (by simp [lc])),q1,h1,h2]
theorem avl_swap:∀ {c:List Stp} {t t':Tr},t.ht=t'.ht→t'.avl→(fill t c).avl→(fill t' c).avl
 | [],_,_,_,h,_=>h
 | .L i k r :: c,t,t',h1,h2,h3=>by
  have h3':(fill (.n t i k r) c).avl:=h3
  have q:=fill_avl h3'
  exact avl_swap (c:=c) (t:=.n t i k r) (t':=.n t' i k r) (by simp only [Tr.ht,h1]) ⟨h2,q.2.1,by rw [← h1];exact q.2.2.1,by rw [← h1];exact q.2.2.2⟩ h3'
 | .R q i k :: c,t,t',h1,h2,h3=>by
  have h3':(fill (.n q i k t) c).avl:=h3
  have g:=fill_avl h3'
  exact avl_swap (c:=c) (t:=.n q i k t) (t':=.n q i k t') (by simp only [Tr.ht,h1]) ⟨g.1,h2,by rw [← h1];exact g.2.2.1,by rw [← h1];exact g.2.2.2⟩ h3'
theorem lk_app:∀ (d c:List Stp),lk (d++c)=lk c++lk d
 | [],c=>by simp [lk]
 | .L i k r :: d,c=>by simp only [List.cons_append,lk];exact lk_app d c
 | .R q i k :: d,c=>by simp only [List.cons_append,lk,lk_app d c];simp
theorem rk_app:∀ (d c:List Stp),rk (d++c)=rk d++rk c
 | [],c=>by simp [rk]
 | .L i k r :: d,c=>by simp only [List.cons_append,rk,rk_app d c];simp
 | .R q i k :: d,c=>by simp only [List.cons_append,rk];exact rk_app d c
theorem fill_app:∀ (d c:List Stp) (t:Tr),fill t (d++c)=fill (fill t d) c
 | [],c,t=>rfl
 | f :: d,c,t=>by simp only [List.cons_append,fill];exact fill_app d c _
theorem least_way:∀ (t:Tr) (c:List Stp),(way (leastC t c).2).reverse++top1 (leastC t c).1=(way c).reverse++leastL t
 | .e,c=>by simp [leastC,top1,leastL]
 | .n .e i m r,c=>by simp [leastC,top1,leastL]
 | .n (.n a j x b) i m r,c=>by
  rw [leastC,least_way (.n a j x b)]
  simp [way,leastL,Stp.i]
theorem good_del {l l1:List Nd} {T:Tr} {us:List Bool} {fr:List Nat} {ks:List Key} {rm:Int} (hg:GoodT l T us fr ks rm) {a b:Tr} {j:Nat} {m k:Key} {c:List Stp}
  (hR:Rep l1 (fill (.n a j m b) c)) (hab:a=.e∨b=.e) (ha:(fill (.n a j m b) c).avl) (hids:(fill (.n a j m b) c).ids=T.ids) (hlk:Lk l1 5000) (hlen:l1.length=l.length) (hino:lk c++(a.ino++b.ino)++rk c=ks.erase k) :
  ∃ T',(dropL l1 j (kid a b).rt (way c)).2=T'.rt∧GoodT (dropL l1 j (kid a b).rt (way c)).1 T' (us.set j false) (fr++[j]) (ks.erase k) rm:=by
 have hnd0:=hg.nd
 have hdT:T.ids.Nodup:=(List.nodup_append.1 hnd0).1
 obtain ⟨T',s,hs,mv,so,si⟩:=del1_rep (T:=fill (.n a j m b) c) hR rfl hab ha (by rw [hids];exact hdT)
 rw [hs] at mv
 rw [hs] at so si
 have hlen2:=dropL_len (way c) l1 j (kid a b).rt
 have e1:T'.ino=ks.erase k:=by rw [mv.ino,so,hino]
 have e2:T'.ids=lc c++(a.ids++b.ids)++rc c:=by rw [mv.ids,si]
 have e3:T.ids=lc c++(a.ids++j :: b.ids)++rc c:=by rw [← hids,fill_ids];rfl
 have hp:(T.ids++fr).Perm (T'.ids++(fr++[j])):=by
  rw [e2,e3]
  have p1:(lc c++(a.ids++j :: b.ids)++rc c++fr).Perm (j :: (lc c++(a.ids++b.ids)++rc c++fr)):=by
   have:lc c++(a.ids++j :: b.ids)++rc c++fr=(lc c++a.ids)++j :: (b.ids++rc c++fr):=by simp
   rw [this]
   refine List.perm_middle.trans ?_
   simp
  refine p1.trans ?_
  rw [← List.append_assoc]
  exact (List.perm_append_comm (l₁:=[j])).trans (by simp)
 have hmem:∀ p,p∈T.ids↔p=j∨p∈T'.ids:=fun p=>by
  rw [e2,e3];simp only [List.mem_append,List.mem_cons]
  constructor
  ·rintro ((h | h | h | h) | h)
   ·exact .inr (.inl (.inl h))
   ·exact .inr (.inl (.inr (.inl h)))
   ·exact .inl h
   ·exact .inr (.inl (.inr (.inr h)))
   ·exact .inr (.inr h)
  ·rintro (h | (h | h | h) | h)
   ·exact .inl (.inr (.inr (.inl h)))
   ·exact .inl (.inl h)
   ·exact .inl (.inr (.inl h))
   ·exact .inl (.inr (.inr (.inr h)))
   ·exact .inr h
 have hj:j ∉ T'.ids:=by
  have h1:=hp.nodup_iff.1 hnd0
  rw [List.nodup_append] at h1
  exact fun hx=>h1.2.2 j hx j (by simp) rfl
 have hul:=hg.ul
 have hjl:j < l.length:=hg.rep.lt j ((hmem j).2 (.inl rfl))
 refine ⟨T',mv.root,⟨mv.rep,mv.avl,e1,?_,?_,by rw [List.length_set,hul,hlen2,hlen],hp.nodup_iff.1 hnd0,fun p hp=>?_,fun p hp=>?_,fun p hp=>?_,hg.rr,by rw [hlen2,hlen];exact hg.room⟩⟩
 ·exact hg.srt.sublist List.erase_sublist
 ·have hsz:(T'.ino.length:Int)≤5000:=by
   rw [e1]
   have h1:=hg.small.2.2.2
   have h2:=(List.erase_sublist (a:=k) (l:=ks)).length_le
   omega
  exact lk_of mv.rep hlen2 hsz hlk fun p hp=>mv.fr p (by rw [← mv.ids];exact hp)
 ·rw [hlen2,hlen] at hp
  rcases hg.all p hp with h | h
  ·rcases (hmem p).1 h with h | h
   ·exact .inr (by simp [h])
   ·exact .inl h
  ·exact .inr (by simp [h])
 ·rw [hlen2,hlen]
  rw [List.mem_append,List.mem_singleton] at hp
  rcases hp with hp | rfl
  ·exact hg.lt p hp
  ·exact hjl
 ·rw [List.getElem?_set_ne (show j≠p from fun e=>hj (e ▸ hp))]
  exact hg.on p ((hmem p).2 (.inr hp))
theorem delete_tri (t:Nat) (rm:Int) (ks:List Key) (k:Key):Tri Tryz.prog N_rbtree_Tree_Delete [.lf (.ptr (some ⟨t,0⟩)),.agg (Ks.mk [.int .u64,.int .u64] k)] [.lf (.int .i64)] (tree rm t ks) (fun r=>pur (r=(delK ks k).1) (tree rm t (delK ks k).2)) :=
 tri_0 (call_rbtree_Tree_Delete _ k) fun w0 S R h=>by
  unfold W_rbtree_Tree_Delete
  obtain ⟨l,T,us,fr,a0,s,s1,s2,hg,h⟩:=h.tree rm t
  obtain ⟨b1,b2,b3,b4⟩:=hg.small
  have hs:Srt T.ino:=by rw [hg.ino];exact hg.srt
  refine w_new h fun n1 w h=>w_ite (fun c=>(by cases c)) fun _=>w_ldAll (x:=k) h rfl ?_
  refine w_call (way_tri t (some ⟨a0,0⟩) s ks.length rm l T hg.rep b1 b2 k) h fun q w h=>?_
  refine w_ldAll (x:=k) h rfl ?_
  refine w_call (found_tri t (some ⟨a0,0⟩) s ks.length rm l T hg.rep hs b2 k q (T.rt+1)) h fun r w h=>?_
  obtain ⟨hr,h⟩:=h.purP
  rw [hr]
  unfold delK
  rcases find_in hg k with ⟨hk,c,hf,eks,g1,g2⟩ | ⟨hk,L,i,Rr,c,hf,hfill⟩
  ·rw [if_neg hk]
   rw [hf]
   refine w_ite (fun _=>?_) fun c=>(by simp [Tr.rt] at c)
   exact Own.retP rfl (h.mkTree t l T us fr a0 s s1 s2 hg).keep
  rw [if_pos hk]
  have eri:((.n L i k Rr,c):Tr × List Stp).1.rt=(i:Int):=rfl
  rw [hf] at h ⊢
  rw [eri]
  have hR:Rep l (fill (.n L i k Rr) c):=by rw [hfill];exact hg.rep
  have hA:(fill (.n L i k Rr) c).avl:=by rw [hfill];exact hg.avl
  obtain ⟨r1,r2⟩:=rep_fill hR
  obtain ⟨hin,hnt⟩:=rep_in r1
  have eks:ks=lk c++(L.ino++k :: Rr.ino)++rk c:=by rw [← hg.ino,← hfill,fill_ino];rfl
  have hcl:c.length+szT (.n L i k Rr)≤4096:=by have:=fill_sz c (.n L i k Rr);rw [hfill] at this;omega
  have hsrt:=hg.srt
  have hknot:k ∉ lk c++L.ino:=fun hx=>by
   rw [eks] at hsrt
   have e:lk c++(L.ino++k :: Rr.ino)++rk c=(lk c++L.ino)++k :: (Rr.ino++rk c):=by simp
   rw [e] at hsrt
   have:=(hsrt.mid (m:=k)).1 k hx
   rw [klt_irr] at this;cases this
  have hera:ks.erase k=lk c++L.ino++(Rr.ino++rk c):=by
   have e:lk c++(L.ino++k :: Rr.ino)++rk c=(lk c++L.ino)++k :: (Rr.ino++rk c):=by simp
   rw [eks,e,erase_mid hknot]
  have hdT:T.ids.Nodup:=(List.nodup_append.1 hg.nd).1
  have eids:T.ids=lc c++(L.ids++i :: Rr.ids)++rc c:=by rw [← hfill,fill_ids];rfl
  refine w_ite (fun c=>(by have c:((i:Int) == -1)=true:=c;simp at c)) fun _=>?_
  have fin:∀ (w:World) (l1:List Nd) (a b:Tr) (j:Nat) (m:Key) (c1:List Stp) (q1:Sl),Rep l1 (fill (.n a j m b) c1)→(a=.e∨b=.e)→(fill (.n a j m b) c1).avl→(fill (.n a j m b) c1).ids=T.ids→Lk l1 5000→l1.length=l.length →
    lk c1++(a.ino++b.ino)++rk c1=ks.erase k→c1.length≤4096 →
    Own w0 S R w (arr q1 KI ((way c1).reverse++[(j:Int)])^blk t [.ptr (some ⟨a0,0⟩),.sl s,.int .i64 (T.rt+1),.int .i64 ks.length,.int .i64 rm]^arr s KN l1^blk a0 [.sl s1,.sl s2,.int .i64 rm]^arr s1 KB us^arr s2 KI (fr.map fun x:Nat=>(x:Int))^emp) →
    (deref (some ⟨t,0⟩) fun q33 =>
 ld [.sl] ⟨q33.b,q33.o+1⟩ fun (x34:Sl) =>
 idx x34 (j:Int) 5 fun q35 =>
 ld [.int .i64] ⟨q35.b,q35.o+2⟩ fun (x36:Int) =>
 join [.int .i64] (fun J37 =>
 ite' (x36 == (-1:Int)) (
 deref (some ⟨t,0⟩) fun q39 =>
 ld [.sl] ⟨q39.b,q39.o+1⟩ fun (x40:Sl) =>
 idx x40 (j:Int) 5 fun q41 =>
 ld [.int .i64] ⟨q41.b,q41.o+3⟩ fun (x42:Int) =>
 J37 x42) <|
 J37 x36) fun (y38:Int) =>
 slc q1 none (some (IntKind.i64.wrap (((q1.len:Nat):Int) - (1:Int)))) none 1 fun s43 =>
 call Tryz.prog N_rbtree_Tree_drop [.lf (.ptr (some ⟨t,0⟩)),.lf (.sl s43),.lf (.int .i64 (j:Int)),.lf (.int .i64 y38)] [] fun (r44:Unit) =>
 deref (some ⟨t,0⟩) fun q45 =>
 ld [.int .i64] ⟨q45.b,q45.o+3⟩ fun (x46:Int) =>
 deref (some ⟨t,0⟩) fun q47 =>
 st ⟨q47.b,q47.o+3⟩ [.int .i64 (IntKind.i64.wrap (x46 - (1:Int)))] <|
 deref (some ⟨t,0⟩) fun q48 =>
 ld [.ptr] q48 fun (x49:Option Pt) =>
 call Tryz.prog N_arena_Arena_Free [.lf (.ptr x49),.lf (.int .i64 (j:Int))] [.lf (.int .i64)] fun (r50:Int) =>
 fun w=>Own w0 S R w (pur (r50=0) (tree rm t (ks.erase k)))) w:=by
   intro w l1 a b j m c1 q1 hR hab hA hids hlk hlen hino hc1 h
   obtain ⟨T',hroot,hgood⟩:=good_del (us:=us) (fr:=fr) (k:=k) hg hR hab hA hids hlk hlen hino
   obtain ⟨r1,r2⟩:=rep_fill hR
   obtain ⟨hin,hnt⟩:=rep_in r1
   have el:Tree.lt l1 (j:Int)=a.rt:=by rw [Tree.lt,hnt]
   have er:rtt l1 (j:Int)=b.rt:=by rw [rtt,hnt]
   have hlq:=(h.rd (s:=q1)).2
   have hjT:j∈T.ids:=by rw [← hids,fill_ids];simp [Tr.ids]
   have hjl:=hg.rep.lt j hjT
   have hul:=hg.ul
   refine w_deref (w_ld h rfl (w_ix (s:=s) h hin (rdL h hin ?_)))
   rw [el]
   have h:Own w0 S R w (arr q1 KI ((way c1).reverse++[(j:Int)])^(blk t [.ptr (some ⟨a0,0⟩),.sl s,.int .i64 (T.rt+1),.int .i64 ks.length,.int .i64 rm]^arr s KN l1)^blk a0 [.sl s1,.sl s2,.int .i64 rm]^arr s1 KB us^arr s2 KI (fr.map fun x:Nat=>(x:Int))^emp):=h.fin
   refine w_join h (fun _=>arr q1 KI ((way c1).reverse++[(j:Int)])^(blk t [.ptr (some ⟨a0,0⟩),.sl s,.int .i64 (T.rt+1),.int .i64 ks.length,.int .i64 rm]^arr s KN l1)^blk a0 [.sl s1,.sl s2,.int .i64 rm]^arr s1 KB us^arr s2 KI (fr.map fun x:Nat=>(x:Int))^emp) (fun y:Int=>y=(kid a b).rt) (fun (y:Int) w hy h=>?_) ?_
   ·rw [hy]
    have hwl:((way c1).reverse++[(j:Int)]).length=c1.length+1:=by simp [way]
    have e:IntKind.i64.wrap (((q1.len:Nat):Int) - 1)=(c1.length:Int):=by rw [hlq,hwl,wi (by omega) (by omega)];omega
    rw [e]
    have hcap:=own_cap (s:=q1) h
    refine w_slc (s:=q1) h 0 c1.length q1.cap rfl rfl rfl rfl (by omega) (by omega) (by omega) (by omega) fun s' _ _ h=>?_
    have e2:(((way c1).reverse++[(j:Int)]).take c1.length).drop 0=(way c1).reverse:=by
     have:c1.length=(way c1).reverse.length:=by simp [way]
     rw [this,List.take_left];rfl
    have h:=h.arrEq (s:=s') (K:=KI) e2
    have hkid:(kid a b).rt=-1∨In l1 (kid a b).rt:=by
     have rin:∀ t:Tr,Rep l1 t→t.rt=-1∨In l1 t.rt:=fun t ht=>by
      cases t with
      | e=>exact .inl rfl
      | n L i k R=>exact .inr (rep_in ht).1
     cases a with
     | e=>exact rin b r1.2.2
     | n a1 i2 k2 a2=>exact rin _ r1.2.1
    refine w_callL (A:=blk t [.ptr (some ⟨a0,0⟩),.sl s,.int .i64 (T.rt+1),.int .i64 ks.length,.int .i64 rm]^arr s KN l1) (Q:=rarr s' KI (way c1).reverse) (drop_tri t (some ⟨a0,0⟩) s (T.rt+1) ks.length rm l1 s' (way c1).reverse j (kid a b).rt (fun x hx=>way_in r2 x (List.mem_reverse.1 hx)) hkid 5000 hlk (by omega) (by simp [way];omega) (by omega)) h fun _ w h=>?_
    rw [List.reverse_reverse,hroot] at h
    refine w_deref (w_ld h rfl (w_deref (w_set h rfl fun w h=>?_)))
    dsimp only [upd,over] at h
    have hkn:ks.length=(ks.erase k).length+1:=by rw [List.length_erase_of_mem hk];have:=List.length_pos_of_mem hk;omega
    have ew:IntKind.i64.wrap ((ks.length:Int) - 1)=((ks.erase k).length:Int):=by rw [wi (by omega) (by omega)];omega
    rw [ew] at h
    refine w_deref (w_ld h rfl ?_)
    refine w_call (free_tri a0 s1 s2 us (fr.map fun x:Nat=>(x:Int)) rm (j:Int) ⟨by omega,by rw [Int.toNat_natCast];omega⟩ (by rw [Int.toNat_natCast];exact hg.on j hjT) (by rw [hul];exact hg.room) (by rw [List.length_map];omega)) h fun r w h=>?_
    obtain ⟨s2',h⟩:=h.exP
    obtain ⟨hr,h⟩:=h.purP
    rw [Int.toNat_natCast] at h
    have h:=h.arrEq (s:=s2') (K:=KI) (ys:=((fr++[j]).map fun x:Nat=>(x:Int))) (by simp)
    exact Own.retP hr (h.mkTree t _ T' (us.set j false) (fr++[j]) a0 s s1 s2' hgood).keep
   ·refine w_ite (fun c=>?_) fun c=>?_
    ·have c:a.rt=-1:=by simpa using c
     have ha:a=.e:=by
      cases a with
      | e=>rfl
      | n a1 i2 k2 a2=>simp only [Tr.rt] at c;omega
     refine w_deref (w_ld h rfl (w_ix (s:=s) h hin (rdR h hin ?_)))
     exact ⟨by rw [er,ha];rfl,h⟩
    ·have c:a.rt≠-1:=by simpa using c
     refine ⟨?_,h⟩
     cases a with
     | e=>exact absurd rfl c
     | n a1 i2 k2 a2=>rfl
  have el:Tree.lt l (i:Int)=L.rt:=by rw [Tree.lt,hnt]
  have er:rtt l (i:Int)=Rr.rt:=by rw [rtt,hnt]
  have h:Own w0 S R w (arr q KI ((way c).reverse++[(i:Int)])^blk t [.ptr (some ⟨a0,0⟩),.sl s,.int .i64 (T.rt+1),.int .i64 ks.length,.int .i64 rm]^arr s KN l^blk a0 [.sl s1,.sl s2,.int .i64 rm]^arr s1 KB us^arr s2 KI (fr.map fun x:Nat=>(x:Int))^emp):=(h.arrEq (s:=q) (K:=KI) (ys:=(way c).reverse++[(i:Int)]) rfl).fin
  refine ⟨_,fun _ _ h=>h,?_⟩
  refine w_join h (fun _=>arr q KI ((way c).reverse++[(i:Int)])^blk t [.ptr (some ⟨a0,0⟩),.sl s,.int .i64 (T.rt+1),.int .i64 ks.length,.int .i64 rm]^arr s KN l^blk a0 [.sl s1,.sl s2,.int .i64 rm]^arr s1 KB us^arr s2 KI (fr.map fun x:Nat=>(x:Int))^emp) (fun y:Bool=>y=(nE L && nE Rr)) (fun (y:Bool) w hy h=>?_) ?_
  ·rw [hy]
   refine w_ite (fun c2=>?_) fun c2=>?_
   ·rw [Bool.and_eq_true] at c2
    have hLn:L≠.e:=fun e=>by rw [e] at c2;exact absurd c2.1 (by simp [nE])
    have hRn:Rr≠.e:=fun e=>by rw [e] at c2;exact absurd c2.2 (by simp [nE])
    refine w_deref (w_ld h rfl (w_ix (s:=s) h hin (rdR h hin ?_)))
    rw [er]
    simp only [szT] at hcl
    refine w_call (least_tri t (some ⟨a0,0⟩) s ks.length rm l Rr r1.2.2 (by omega) (T.rt+1)) h fun q2 w h=>?_
    obtain ⟨j,m,b,e1,d,e2,e3,e4⟩:=least_n Rr (.R L i k :: c) hRn
    have hfl:fill (.n .e j m b) d=Rr:=by
     have h1:=least_fill Rr (.R L i k :: c)
     rw [e1,e2,fill_app] at h1
     obtain ⟨j',m',b',e1',d',e2',_⟩:=least_n Rr [] hRn
     have h2:=least_fill Rr []
     have h3:=least_way Rr []
     have h4:=least_way Rr (.R L i k :: c)
     have key:∀ (t:Tr) (c:List Stp),leastC t c=((leastC t []).1,(leastC t []).2++c):=by
      have:∀ (t:Tr) (c c0:List Stp),leastC t (c0++c)=((leastC t c0).1,(leastC t c0).2++c):=by
       intro t
       induction t with
       | e=>intro c c0;rfl
       | n l i x r ihl _ =>
        intro c c0
        cases l with
        | e=>rfl
        | n a1 i1 x1 b1 =>
         simp only [leastC]
         exact ihl c (.L i x r :: c0)
      intro t c
      have:=this t c []
      simpa using this
     have hk2:=key Rr (.R L i k :: c)
     have ed:d=(leastC Rr []).2:=by
      have:(leastC Rr (.R L i k :: c)).2=(leastC Rr []).2++(.R L i k :: c):=by rw [hk2]
      rw [e2] at this
      exact List.append_cancel_right this
     have et:(leastC Rr []).1=.n .e j m b:=by
      have:(leastC Rr (.R L i k :: c)).1=(leastC Rr []).1:=by rw [hk2]
      rw [← this,e1]
     rw [ed,← et];exact h2
    have hway:=least_way Rr (.R L i k :: c)
    rw [e1,e2] at hway
    have hll:leastL Rr=(way d).reverse++[(j:Int)]:=by
     simp only [top1,way,List.map_append,List.reverse_append,List.append_assoc] at hway
     exact (List.append_cancel_left hway).symm
    have hRino:Rr.ino=m :: (b.ino++rk d):=by rw [← hfl,fill_ino,e3];simp [Tr.ino]
    have hRids:Rr.ids=j :: (b.ids++rc d):=by rw [← hfl,fill_ids,e4];simp [Tr.ids]
    have hszd:d.length+szT b+1≤szT Rr:=by have:=fill_sz d (.n .e j m b);rw [hfl] at this;simp only [szT] at this;omega
    have hRR:Rep l (fill (.n .e j m b) d):=by rw [hfl];exact r1.2.2
    obtain ⟨u1,u2⟩:=rep_fill hRR
    obtain ⟨hjn,hjt⟩:=rep_in u1
    have hlq2:=(h.rd (s:=q2)).2
    have hql:q2.len=d.length+1:=by rw [hlq2,hll];simp [way]
    have ew:IntKind.i64.wrap (((q2.len:Nat):Int) - 1)=(d.length:Int):=by rw [hql,wi (by omega) (by omega)];omega
    rw [ew]
    have hat:(leastL Rr)[((d.length:Nat):Int).toNat]?=some (j:Int):=by
     rw [hll,Int.toNat_natCast]
     have:d.length=(way d).reverse.length:=by simp [way]
     rw [this];simp
    refine w_idx (s:=q2) h (by omega) (by rw [hll];simp [way]) (w_ldE h q2 _ hat rfl ?_)
    refine w_drw h fun w h=>w_deref (w_deref (w_ld h rfl (w_ld h rfl (w_ix (s:=s) h hjn (rdK h hjn (w_ix (s:=s) h hin ?_))))))
    have ekj:keyL l (j:Int)=m:=by rw [keyL,hjt]
    rw [ekj]
    refine w_stA h s i 0 (nth l (i:Int)) (m.1,m.2,L.rt,Rr.rt,max L.ht Rr.ht+1) (by have:=nth_at hin;rwa [Int.toNat_natCast] at this) (by rw [Int.toNat_natCast];rfl) (by simp [Ks.mk]) (by simp [Ks.mk]) (by rw [hnt];rfl) fun w h=>?_
    have hql1:=(h.rd (s:=q2)).2
    have h:=h.arrEq (s:=s) (K:=KN) (ys:=l.set i (m.1,m.2,L.rt,Rr.rt,max L.ht Rr.ht+1)) rfl
    refine w_app (s:=q) (x:=q2) h rfl (by rw [hll];simp [way];omega) fun s32 w _ h=>?_
    have hil:i < l.length:=hg.rep.lt i (by rw [eids];simp)
    have hR1:Rep (l.set i (m.1,m.2,L.rt,Rr.rt,max L.ht Rr.ht+1)) (fill (.n L i m Rr) c):=by
     have hd2:=hdT
     rw [eids] at hd2
     simp only [List.nodup_append,List.nodup_cons,List.mem_append,List.mem_cons] at hd2
     obtain ⟨⟨hd3,⟨hd4,⟨hd5,hd6⟩,hd7⟩,hd8⟩,hd9,hd10⟩:=hd2
     have ne:∀ p,(p∈lc c∨p∈L.ids∨p∈Rr.ids∨p∈rc c)→(l.set i (m.1,m.2,L.rt,Rr.rt,max L.ht Rr.ht+1))[p]?=l[p]?:=fun p hp=>by
      refine List.getElem?_set_ne (show i≠p from fun e=>?_)
      subst e
      rcases hp with hp | hp | hp | hp
      ·exact hd8 i hp i (.inr (.inl rfl)) rfl
      ·exact hd7 i hp i (.inl rfl) rfl
      ·exact hd5 hp
      ·exact hd10 i (.inr (.inr (.inl rfl))) i hp rfl
     refine rep_swap (t:=.n L i k Rr) rfl rfl hR ⟨by rw [List.getElem?_set_self hil],r1.2.1.frame fun p hp=>ne p (.inr (.inl hp)),r1.2.2.frame fun p hp=>ne p (.inr (.inr (.inl hp)))⟩ fun p hp=>ne p (hp.imp (fun x=>x) fun x=>.inr (.inr x))
    have hA1:(fill (.n L i m Rr) c).avl:=by
     have hav:(Tr.n L i k Rr).avl:=fill_avl hA
     exact avl_swap (t:=.n L i k Rr) rfl ⟨hav.1,hav.2.1,hav.2.2⟩ hA
    have hT1:fill (.n L i m Rr) c=fill (.n .e j m b) (d++.R L i m :: c):=by rw [fill_app,hfl];rfl
    have hlk1:Lk (l.set i (m.1,m.2,L.rt,Rr.rt,max L.ht Rr.ht+1)) 5000:=by
     have hx:=hg.lk (i:Int) hin
     simp only [Tree.lt,rtt,hh,hnt] at hx
     have:=hg.lk.set (C:=5000) (Int.le_refl _) (i:=(i:Int)) hin (x:=(m.1,m.2,L.rt,Rr.rt,max L.ht Rr.ht+1)) hx.1 hx.2.1 hx.2.2
     rwa [Int.toNat_natCast] at this
    have h:=h.arrEq (s:=s32) (K:=KI) (ys:=(way (d++.R L i m :: c)).reverse++[(j:Int)]) (by rw [hll];simp [way,Stp.i])
    refine fin w (l.set i (m.1,m.2,L.rt,Rr.rt,max L.ht Rr.ht+1)) .e b j m (d++.R L i m :: c) s32 (by rw [← hT1];exact hR1) (.inl rfl) (by rw [← hT1];exact hA1) ?_ hlk1 List.length_set ?_ (by simp;omega) h.fin
    ·rw [← hT1,fill_ids,eids];rfl
    ·rw [hera,lk_app,rk_app,e3,hRino]
     simp [lk,rk,Tr.ino]
   ·have hab:L=.e∨Rr=.e:=by
     cases L with
     | e=>exact .inl rfl
     | n l1 i1 k1 l2=>cases Rr with
      | e=>exact .inr rfl
      | n l3 i3 k3 l4=>cases c2
    simp only [szT] at hcl
    exact fin w l L Rr i k c q hR hab hA (by rw [hfill]) hg.lk rfl (by rw [hera];simp) (by omega) h
  ·refine w_deref (w_ld h rfl (w_ix (s:=s) h hin (rdL h hin ?_)))
   rw [el]
   refine w_ite (fun c2=>?_) fun c2=>?_
   ·have c2:L.rt≠-1:=by simpa using c2
    refine w_deref (w_ld h rfl (w_ix (s:=s) h hin (rdR h hin ?_)))
    rw [er]
    refine ⟨?_,h⟩
    cases L with
    | e=>exact absurd rfl c2
    | n l1 i1 k1 l2 =>
     cases Rr with
     | e=>simp [nE,Tr.rt]
     | n l3 i3 k3 l4=>simp [nE,Tr.rt]
   ·have c2:L.rt=-1:=by simpa using c2
    refine ⟨?_,h⟩
    cases L with
    | e=>rfl
    | n l1 i1 k1 l2=>simp only [Tr.rt] at c2;omega
end TreeE

namespace TreeF
open _root_.Go.X.Tree TreeA TreeB TreeC TreeD TreeE
def spine:Tr→List Tr
 | .e=>[]
 | .n l i k r=>.n l i k r :: spine l
def oneT:Tr→List Key
 | .e=>[]
 | .n _ _ k r=>k :: r.ino
def remT (st:List Tr):List Key:=st.reverse.flatMap oneT
theorem rem_spine:∀ t:Tr,remT (spine t)=t.ino
 | .e=>rfl
 | .n l i k r=>by
  have:=rem_spine l
  simp only [spine,remT,List.reverse_cons,List.flatMap_append,List.flatMap_cons,List.flatMap_nil,Tr.ino,oneT] at *
  rw [this];simp
theorem rem_app (a b:List Tr):remT (a++b)=remT b++remT a:=by simp [remT]
def rts (st:List Tr):List Int:=st.map Tr.rt
theorem rts_spine:∀ t:Tr,rts (spine t)=leastL t
 | .e=>rfl
 | .n l i k r=>by
  have:=rts_spine l
  simp only [rts,spine,List.map_cons,leastL,Tr.rt] at *
  rw [this]
theorem spine_n:∀ (t:Tr),∀ x∈spine t,∃ l i k r,x=.n l i k r
 | .e,x,h=>by simp [spine] at h
 | .n l i k r,x,h=>by
  simp only [spine,List.mem_cons] at h
  rcases h with rfl | h
  ·exact ⟨l,i,k,r,rfl⟩
  ·exact spine_n l x h
theorem spine_rep {l:List Nd}:∀ {t:Tr},Rep l t→∀ x∈spine t,Rep l x
 | .e,_,x,h=>by simp [spine] at h
 | .n a i k r,h,x,hx=>by
  simp only [spine,List.mem_cons] at hx
  rcases hx with rfl | hx
  ·exact h
  ·exact spine_rep h.2.1 x hx
theorem len_rem (st:List Tr) (h:∀ x∈st,∃ l i k r,x=.n l i k r):st.length≤(remT st).length:=by
 induction st with
 | nil=>simp
 | cons x st ih =>
  have:=ih fun y hy=>h y (by simp [hy])
  obtain ⟨l,i,k,r,rfl⟩:=h x (by simp)
  have e:remT (.n l i k r :: st)=remT st++(k :: r.ino):=by
   simp [remT,oneT]
  rw [e];simp;omega
def mkAll (n:Nat):Fv:=.mk (.func N_rbtree_Tree_All_c1) [] [V1.enc (.lf (.ptr (some ⟨n,0⟩)))]
theorem all_tri (p:Option Pt):Tri Tryz.prog N_rbtree_Tree_All [.lf (.ptr p)] [.lf .fn] emp (fun f=>ex fun n=>pur (f=mkAll n) (blk n [.ptr p])) :=
 tri_0 (call_rbtree_Tree_All _) fun w S R h=>by
  unfold W_rbtree_Tree_All
  refine w_new h fun n1 w h=>?_
  exact Own.retE n1 (Own.retP rfl h.keep)
theorem sz_ino:∀ t:Tr,szT t=t.ino.length
 | .e=>rfl
 | .n l i k r=>by simp [szT,Tr.ino,sz_ino l,sz_ino r];omega
theorem all_iter (n t:Nat) (rm:Int) (ks:List Key):Iter Tryz.prog (mkAll n) (blk n [.ptr (some ⟨t,0⟩)]^tree rm t ks) [.agg [.int .u64,.int .u64]] ks:=by
 intro y I D hy
 refine Tri.g (f:=N_rbtree_Tree_All_c1) (args:=[.lf (.fn y)]) (caps:=[.lf (.ptr (some ⟨n,0⟩))]) (tri_0 (call_rbtree_Tree_All_c1 y ⟨n,0⟩) fun w0 S R h=>?_)
 unfold W_rbtree_Tree_All_c1
 obtain ⟨l,T,us,fr,a,s,s1,s2,hg,h⟩:=h.tree rm t
 obtain ⟨b1,b2,b3,b4⟩:=hg.small
 have hino:=hg.ino
 refine w_ld h rfl ?_
 refine w_call (root_tri t (some ⟨a,0⟩) s ks.length rm l T hg.rep b1) h fun r w h=>?_
 obtain ⟨hr,h⟩:=h.purP;rw [hr]
 refine w_ite (fun c=>?_) fun c=>?_
 ·have c:T.rt=-1:=by simpa using c
  have hT:T=.e:=by
   cases T with
   | e=>rfl
   | n L i k R=>simp only [Tr.rt] at c;omega
  have hk:ks.length=0:=by rw [← hino,hT];rfl
  have h:=(h.mkTree t l T us fr a s s1 s2 hg)
  have h:Own _ _ _ _ (I 0^blk n [.ptr (some ⟨t,0⟩)]^tree rm t ks):=h.fin
  rw [hk]
  exact (h.eitherL D).fin
 refine w_drw h fun w h=>w_ld h rfl (w_ld h rfl ?_)
 refine w_call (root_tri t (some ⟨a,0⟩) s ks.length rm l T hg.rep b1) h fun r w h=>?_
 obtain ⟨hr,h⟩:=h.purP;rw [hr]
 refine w_chk h rfl ?_
 refine w_call (least_tri t (some ⟨a,0⟩) s ks.length rm l T hg.rep b2 (T.rt+1)) h fun q w h=>?_
 have h:=h.arrEq (s:=q) (K:=KI) (ys:=rts (spine T)) (rts_spine T).symm
 have h:Own w0 S R w (arr q KI (rts (spine T))^(blk t [.ptr (some ⟨a,0⟩),.sl s,.int .i64 (T.rt+1),.int .i64 ks.length,.int .i64 rm]^arr s KN l)^blk a [.sl s1,.sl s2,.int .i64 rm]^arr s1 KB us^arr s2 KI (fr.map fun x:Nat=>(x:Int))^blk n [.ptr (some ⟨t,0⟩)]^I 0):=h.fin
 refine w_loopE (fun (q:Sl) (x:Nat × List Tr)=>arr q KI (rts x.2)^(blk t [.ptr (some ⟨a,0⟩),.sl s,.int .i64 (T.rt+1),.int .i64 ks.length,.int .i64 rm]^arr s KN l)^blk a [.sl s1,.sl s2,.int .i64 rm]^arr s1 KB us^arr s2 KI (fr.map fun x:Nat=>(x:Int))^blk n [.ptr (some ⟨t,0⟩)]^I x.1)
  (fun (_:Sl) (x:Nat × List Tr)=>ks.drop x.1=remT x.2∧(∀ z∈x.2,∃ l i k r,z=.n l i k r)∧(∀ z∈x.2,Rep l z)∧x.1≤ks.length) (fun (_:Sl) (x:Nat × List Tr)=>ks.length - x.1) (0,spine T) h ⟨by rw [rem_spine,hino];rfl,spine_n T,spine_rep hg.rep,Nat.zero_le _⟩ ?_
 rintro K (q:Sl) ⟨i,st⟩ w ⟨hd,hn,hrep,hle⟩ h hK
 dsimp only at hd hn hrep hle h hK ⊢
 have hlq:=(h.rd (s:=q)).2
 have hst:=len_rem st hn
 rw [← hd,List.length_drop] at hst
 have hrl:(rts st).length=st.length:=by simp [rts]
 refine w_ite (fun c=>?_) fun c=>?_
 ·have c:((q.len:Nat):Int) > 0:=of_decide_eq_true c
  have hne:st≠[]:=fun e=>by
   have e2:(rts st).length=0:=(congrArg (fun z=>(rts z).length) e).trans rfl
   omega
  obtain ⟨f,z,hfz⟩:∃ f z,st=f++[z]:=⟨st.dropLast,st.getLast hne,(List.dropLast_concat_getLast hne).symm⟩
  obtain ⟨L,j,m,Rr,hz⟩:=hn z (by rw [hfz];simp)
  have hRz:Rep l (.n L j m Rr):=by rw [← hz];exact hrep z (by rw [hfz];simp)
  obtain ⟨hin,hnt⟩:=rep_in hRz
  have er:rtt l (j:Int)=Rr.rt:=by rw [rtt,hnt]
  have ek:keyL l (j:Int)=m:=by rw [keyL,hnt]
  have hfl:st.length=f.length+1:=by rw [hfz];simp
  have hrs:rts st=rts f++[(j:Int)]:=by rw [hfz,hz];simp [rts,Tr.rt]
  have hrf:(rts f).length=f.length:=by simp [rts]
  have e:IntKind.i64.wrap (((q.len:Nat):Int) - 1)=(f.length:Int):=by rw [wi (by omega) (by omega)];omega
  rw [e]
  refine w_idx (s:=q) h (by omega) (by omega) (w_ldE h q ((f.length:Nat):Int).toNat (y:=(j:Int)) (by rw [hrs,Int.toNat_natCast,← hrf];simp) rfl ?_)
  have hcap:=own_cap (s:=q) h
  refine w_slc (s:=q) h 0 f.length q.cap rfl rfl rfl rfl (by omega) (by omega) (by omega) (by omega) fun s11 _ _ h=>?_
  have h:=h.arrEq (s:=s11) (K:=KI) (ys:=rts f) (by rw [hrs,← hrf,List.take_left];rfl)
  have hks:ks.drop i=m :: (Rr.ino++remT f):=by
   rw [hd,hfz,rem_app,hz];simp [remT,oneT]
  have hki:ks[i]?=some m:=by
   have:=congrArg (fun z=>z[0]?) hks
   simpa using this
  have hil:i < ks.length:=(List.getElem?_eq_some_iff.1 hki).1
  refine w_ld h rfl (w_deref (w_ld h rfl (w_ix (s:=s) h hin (rdK h hin ?_))))
  rw [ek]
  have ht:TriV Tryz.prog y [.agg (Ks.mk [.int .u64,.int .u64] m)] [.lf .bool] (I i) (fun c=>cond c (I (i+1)) D):=hy i m hki
  refine w_callv ht h fun c w h=>?_
  cases c with
  | false =>
   refine w_ite (fun c=>?_) fun c=>by cases c
   have h:Own _ _ _ _ (D^_):=h
   have h:=(h.mkTree t l T us fr a s s1 s2 hg)
   have h:Own _ _ _ _ (D^blk n [.ptr (some ⟨t,0⟩)]^tree rm t ks):=h.fin
   exact (h.eitherR (I ks.length)).fin
  | true =>
   refine w_ite (fun c=>by cases c) fun c=>?_
   have h:Own _ _ _ _ (I (i+1)^_):=h
   refine w_drw h fun w h=>w_ld h rfl (w_ld h rfl (w_deref (w_ld h rfl (w_ix (s:=s) h hin (rdR h hin ?_)))))
   rw [er]
   have hsz:szT Rr≤4096:=by
    have h1:=congrArg List.length hks
    rw [List.length_drop] at h1
    have h2:=sz_ino Rr
    simp at h1;omega
   refine w_call (least_tri t (some ⟨a,0⟩) s ks.length rm l Rr hRz.2.2 hsz (T.rt+1)) h fun q2 w h=>?_
   have hl2:(leastL Rr).length≤4096:=by
    have h1:=len_rem (spine Rr) (spine_n Rr)
    rw [rem_spine] at h1
    have h2:(leastL Rr).length=(spine Rr).length:=by rw [← rts_spine];simp [rts]
    have h3:=sz_ino Rr
    omega
   refine w_app (s:=s11) (x:=q2) h rfl (by omega) fun s25 w _ h=>?_
   have h:=h.arrEq (s:=s25) (K:=KI) (ys:=rts (f++spine Rr)) (by rw [← rts_spine];simp [rts])
   refine hK s25 (i+1,f++spine Rr) w ⟨?_,fun z hz=>?_,fun z hz=>?_,by show i+1≤_;omega⟩ h.fin (by show _ - (i+1) < _ - i;omega)
   ·show ks.drop (i+1)=remT (f++spine Rr)
    rw [rem_app,rem_spine]
    have:=congrArg (fun z=>z.drop 1) hks
    simpa using this
   ·rcases List.mem_append.1 hz with hz | hz
    ·exact hn z (by rw [hfz];simp [hz])
    ·exact spine_n Rr z hz
   ·rcases List.mem_append.1 hz with hz | hz
    ·exact hrep z (by rw [hfz];simp [hz])
    ·exact spine_rep hRz.2.2 z hz
 ·have c:¬ ((q.len:Nat):Int) > 0:=of_decide_eq_false c
  have hst0:st=[]:=List.eq_nil_of_length_eq_zero (by omega)
  rw [hst0] at hd
  have hi:i=ks.length:=by
   have:=congrArg List.length hd
   rw [List.length_drop] at this
   simp [remT] at this;omega
  rw [hi] at h
  have h:=(h.mkTree t l T us fr a s s1 s2 hg)
  have h:Own _ _ _ _ (I ks.length^blk n [.ptr (some ⟨t,0⟩)]^tree rm t ks):=h.fin
  exact (h.eitherL D).fin
def minF (ks:List Key):Key × Bool:=match ks with
 | []=>((0,0),false)
 | k :: _=>(k,true)
theorem min_tri (t:Nat) (rm:Int) (ks:List Key):Tri Tryz.prog N_rbtree_Tree_Min [.lf (.ptr (some ⟨t,0⟩))] [.agg [.int .u64,.int .u64],.lf .bool] (tree rm t ks) (fun r=>pur (r=minF ks) (tree rm t ks)) :=
 tri_n (W:=fun n R=>W_rbtree_Tree_Min n (some ⟨t,0⟩) R) (call_rbtree_Tree_Min _) fun w S R h=>by
  unfold W_rbtree_Tree_Min
  refine w_new h fun n1 w h=>?_
  refine w_new h fun n2 w h=>?_
  refine w_join h (fun _=>blk n1 [.int .u64 (0:Int),.int .u64 (0:Int)]^blk n2 [.bool false]^tree rm t ks) (fun _=>ks=[]) (fun y w hv h=>?_) ?_
  ·refine w_setAll h (by rfl) fun w h=>w_setAll h (by rfl) fun w h=>?_
   refine w_ldAll (b:=n1) (x:=((0,0):Int × Int)) h rfl (w_ld h rfl ?_)
   refine w_leave h fun w h=>?_
   exact Own.retP (by rw [hv];rfl) h.fin
  ·refine w_call (all_tri _) (h.le (star_emp _)) fun f w h=>?_
   obtain ⟨n,h⟩:=h.exP
   obtain ⟨hf,h⟩:=h.purP
   rw [hf]
   have h:=(h.take (blk n1 [.int .u64 (0:Int),.int .u64 (0:Int)]^blk n2 [.bool false])).toPur (p:=(0:Nat)=0) rfl
   refine w_range (all_iter n t rm ks) (fun i=>pur (i=0) (blk n1 [.int .u64 (0:Int),.int .u64 (0:Int)]^blk n2 [.bool false])) (fun j=>pur (j=1) (blk n1 (Ks.mk KR (minF ks).1)^blk n2 [.bool (minF ks).2])) h ?_ ?_ ?_
   ·rintro i (x:Key) hx w S R mid next jump rdy bsy hmid hnext hjump h
    refine w_new h fun n10 w h=>w_setAll h (by rfl) fun w h=>?_
    refine hmid h fun w h=>?_
    have h:=h.take (pur (i=0) (blk n1 [.int .u64 (0:Int),.int .u64 (0:Int)]^blk n2 [.bool false]))
    obtain ⟨hi,h⟩:=h.purP
    have hv:minF ks=(x,true):=by
     rw [hi] at hx
     cases ks with
     | nil=>cases hx
     | cons y l=>cases hx;rfl
    rw [hv] at hjump
    refine w_ldAll (b:=n10) (x:=x) h rfl ?_
    refine w_setAll h (by rfl) fun w h=>w_setAll h (by rfl) fun w h=>?_
    have h:=(h.take (blk n1 (Ks.mk KR x)^blk n2 [.bool true])).toPur (p:=1=1) rfl
    exact hjump 1 (by decide) h
   ·intro w h
    have h:=h.take (pur (ks.length=0) (blk n1 [.int .u64 (0:Int),.int .u64 (0:Int)]^blk n2 [.bool false]))
    obtain ⟨hno,h⟩:=h.purP
    exact ⟨List.eq_nil_of_length_eq_zero hno,h.fin⟩
   ·intro j w hj h
    have h:=h.take (pur (j=1) (blk n1 (Ks.mk KR (minF ks).1)^blk n2 [.bool (minF ks).2]))
    obtain ⟨hj1,h⟩:=h.purP
    rw [hj1]
    refine w_ldAll (b:=n1) (x:=(minF ks).1) h rfl (w_ld h rfl ?_)
    refine w_leave h fun w h=>?_
    exact Own.retP rfl h.fin
end TreeF

namespace FqM
open Arith Lists _root_.Go.X.Tree TreeC TreeD
abbrev Sg:=Int × Int × Int × Int × Bool
abbrev Cf:=Int × Int × Int × Int × Int × Int × Bool × Int × Int
abbrev KC:Ks:=[.int .i64,.int .i64,.int .i64,.int .i64,.int .u64,.int .u64,.bool,.int .i64,.int .i64]
abbrev KS:Ks:=[.int .i64,.int .u64,.int .i64,.int .u64,.bool]
abbrev cQ (c:Cf):Int:=c.1
abbrev cF (c:Cf):Int:=c.2.1
abbrev cL (c:Cf):Int:=c.2.2.1
abbrev cW (c:Cf):Int:=c.2.2.2.1
abbrev cH (c:Cf):Int:=c.2.2.2.2.1
abbrev cR (c:Cf):Int:=c.2.2.2.2.2.1
abbrev cD (c:Cf):Bool:=c.2.2.2.2.2.2.1
abbrev cCap (c:Cf):Int:=c.2.2.2.2.2.2.2.1
abbrev cMss (c:Cf):Int:=c.2.2.2.2.2.2.2.2
abbrev sK (s:Sg):Int:=s.1
abbrev sFr (s:Sg):Int:=s.2.1
abbrev sLn (s:Sg):Int:=s.2.2.1
abbrev sSt (s:Sg):Int:=s.2.2.2.1
abbrev sAg (s:Sg):Bool:=s.2.2.2.2
def may (c:Cf):Bool:=decide (100≤cQ c∧cQ c≤65536) && (decide (100≤cF c∧cF c≤65536) && (decide (1≤cL c∧cL c≤512) && (decide (1≤cW c∧cW c≤512) && (decide (cH c≤4611686018427387904) && (decide (1≤cCap c∧cCap c≤1073741824) && decide (100≤cMss c∧cMss c≤9000))))))
structure OkC (c:Cf):Prop where
 q:100≤cQ c∧cQ c≤65536
 f:100≤cF c∧cF c≤65536
 l:1≤cL c∧cL c≤512
 w:1≤cW c∧cW c≤512
 h:0≤cH c∧cH c≤4611686018427387904
 r:U (cR c)
 cap:1≤cCap c∧cCap c≤1073741824
 mss:100≤cMss c∧cMss c≤9000
theorem may_ok {c:Cf} (h:may c=true) (h0:0≤cH c) (hr:U (cR c)):OkC c:=by
 simp only [may,Bool.and_eq_true,decide_eq_true_eq] at h
 exact ⟨h.1,h.2.1,h.2.2.1,h.2.2.2.1,⟨h0,h.2.2.2.2.1⟩,hr,h.2.2.2.2.2.1,h.2.2.2.2.2.2⟩
structure Fl where
 cr:Int
 nx:Int
 si:Int
 sg:List Sg
structure Qm where
 c:Cf
 fl:Nat→Option Fl
 lv:LV
 ks:List Key
 n:Int
structure OkS (s:Sg):Prop where
 fr:U (sFr s)
 ln:1≤sLn s∧sLn s≤65536
 st:U (sSt s)
structure OkF (i:Nat) (f:Fl):Prop where
 cr:-65536 < f.cr∧f.cr≤65536
 nx:U f.nx
 si:U f.si
 sg:∀ s∈f.sg,sK s=i∧OkS s
def timeF (f:Fl):Int:=match f.sg with
 | []=>f.nx
 | s :: _=>if sSt s > f.nx then sSt s else f.nx
def cnt (x:Option Fl):Int:=match x with
 | none=>0
 | some f=>f.sg.length
def tot (fl:Nat→Option Fl):Nat→Int
 | 0=>0
 | n+1=>tot fl n+cnt (fl n)
def inL (v:LV) (i:Nat):Prop:=(i:Int)∈v.1++v.2
structure OkQ (v:Qm):Prop where
 cf:OkC v.c
 lv:okL v.lv
 th:∀ i,inL v.lv i→∃ f,v.fl i=some f
 fl:∀ i f,v.fl i=some f→i < 8∧OkF i f
 ks:∀ k,k∈v.ks↔∃ (i:Nat) (f:Fl),v.fl i=some f∧f.sg≠[]∧¬ inL v.lv i∧k=(timeF f,(i:Int))
 srt:Srt v.ks
 n:v.n=tot v.fl 8
 le:v.n≤512
def upF (fl:Nat→Option Fl) (i:Nat) (x:Option Fl):Nat→Option Fl:=fun j=>if j=i then x else fl j
theorem upF_same (fl:Nat→Option Fl) (i:Nat) (x:Option Fl):upF fl i x i=x:=by simp [upF]
theorem upF_ne (fl:Nat→Option Fl) {i j:Nat} (x:Option Fl) (h:j≠i):upF fl i x j=fl j:=by simp [upF,h]
theorem cnt_nn (x:Option Fl):0≤cnt x:=by unfold cnt;split<;>omega
theorem tot_nn (fl:Nat→Option Fl):∀ n,0≤tot fl n
 | 0=>Int.le_refl 0
 | n+1=>by have:=tot_nn fl n;have:=cnt_nn (fl n);simp only [tot];omega
theorem tot_up (fl:Nat→Option Fl) (i:Nat) (x:Option Fl):∀ n,tot (upF fl i x) n=tot fl n+if i < n then cnt x - cnt (fl i) else 0
 | 0=>by simp [tot]
 | n+1=>by
  simp only [tot,tot_up fl i x n]
  by_cases h:n=i
  ·subst h;rw [upF_same];simp;omega
  ·rw [upF_ne _ _ h]
   by_cases h2:i < n
   ·rw [if_pos h2,if_pos (by omega)];omega
   ·rw [if_neg h2,if_neg (by omega)];omega
theorem tot_ge (fl:Nat→Option Fl):∀ {n i:Nat},i < n→cnt (fl i)≤tot fl n
 | n+1,i,h=>by
  have h1:=cnt_nn (fl n)
  have h2:=tot_nn fl n
  simp only [tot]
  by_cases e:i=n
  ·subst e;omega
  ·have:=tot_ge fl (n:=n) (i:=i) (by omega);omega
theorem OkQ.len {v:Qm} (h:OkQ v) {i:Nat} {f:Fl} (hf:v.fl i=some f):(f.sg.length:Int)≤v.n∧f.sg.length≤512:=by
 have h1:=tot_ge v.fl (h.fl i f hf).1
 have h2:=h.n
 have h3:=h.le
 rw [hf] at h1
 have h1:(f.sg.length:Int)≤tot v.fl 8:=h1
 omega
theorem OkQ.n0 {v:Qm} (h:OkQ v):0≤v.n:=by rw [h.n];exact tot_nn _ _
def plc (v:Qm) (i:Nat):Int:=if placeF v.lv i≠0 then placeF v.lv i else match v.fl i with
 | none=>0
 | some f=>if f.sg=[] then 0 else 3
theorem place_in {v:LV} {i:Nat}:placeF v i≠0↔inL v i:=by
 rw [ne_eq,placeF_0];unfold inL
 exact Decidable.not_not
theorem plc_0 {v:Qm} {i:Nat}:plc v i=0↔¬ inL v.lv i∧∀ f,v.fl i=some f→f.sg=[]:=by
 unfold plc
 split
 ·rename_i h
  have h2:=place_in.1 h
  exact ⟨fun e=>absurd e h,fun e=>absurd h2 e.1⟩
 ·rename_i h
  have h2:¬ inL v.lv i:=fun e=>h (place_in.2 e)
  cases hf:v.fl i with
  | none=>exact ⟨fun _=>⟨h2,fun f hh=>by cases hh⟩,fun _=>rfl⟩
  | some f =>
   simp only
   split
   ·rename_i h3;exact ⟨fun _=>⟨h2,fun g hg=>by cases hg;exact h3⟩,fun _=>rfl⟩
   ·rename_i h3;exact ⟨fun e=>(by cases e),fun e=>absurd (e.2 f rfl) h3⟩
theorem plc_3 {v:Qm} {i:Nat}:plc v i=3↔¬ inL v.lv i∧∃ f,v.fl i=some f∧f.sg≠[]:=by
 unfold plc
 split
 ·rename_i h
  have h2:=place_in.1 h
  refine ⟨fun e=>?_,fun e=>absurd h2 e.1⟩
  unfold placeF at e
  split at e
  ·cases e
  ·split at e<;>cases e
 ·rename_i h
  have h2:¬ inL v.lv i:=fun e=>h (place_in.2 e)
  cases hf:v.fl i with
  | none=>exact ⟨fun e=>(by cases e),fun ⟨_,f,hh,_⟩=>(by cases hh)⟩
  | some f =>
   simp only
   split
   ·rename_i h3;exact ⟨fun e=>(by cases e),fun ⟨_,g,hg,h4⟩=>by cases hg;exact absurd h3 h4⟩
   ·rename_i h3;exact ⟨fun _=>⟨h2,f,rfl,h3⟩,fun _=>rfl⟩
def idle (v:Qm) (i:Nat) (long now:Int):Bool:=match v.fl i with
 | none=>false
 | some f=>decide (plc v i=0) && decide (addI f.si long≤now)
abbrev collectF (v:Qm) (now:Int):Qm:={ v with fl:=fun i=>if idle v i 3000000000 now then none else v.fl i }
theorem idle_some {v:Qm} {i:Nat} {long now:Int} (h:idle v i long now=true):∃ f,v.fl i=some f∧f.sg=[]∧¬ inL v.lv i:=by
 unfold idle at h
 split at h
 ·cases h
 ·rename_i f hf
  rw [Bool.and_eq_true,decide_eq_true_eq] at h
  have:=plc_0.1 h.1
  exact ⟨f,hf,this.2 f hf,this.1⟩
theorem tot_ext {fl gl:Nat→Option Fl}:∀ n,(∀ i,i < n→cnt (fl i)=cnt (gl i))→tot fl n=tot gl n
 | 0,_=>rfl
 | n+1,h=>by simp only [tot,tot_ext n fun i hi=>h i (by omega),h n (by omega)]
theorem OkQ.collect {v:Qm} (h:OkQ v) (now:Int):OkQ (collectF v now) where
 cf:=h.cf
 lv:=h.lv
 th i hi:=by
  obtain ⟨f,hf⟩:=h.th i hi
  refine ⟨f,?_⟩
  show (if _ then _ else _)=_
  rw [if_neg,hf]
  intro e
  obtain ⟨_,_,_,h3⟩:=idle_some e
  exact h3 hi
 fl i f hf:=by
  have hf:(if idle v i 3000000000 now then none else v.fl i)=some f:=hf
  split at hf
  ·cases hf
  ·exact h.fl i f hf
 ks k:=by
  rw [show (collectF v now).ks=v.ks from rfl,h.ks]
  constructor
  ·rintro ⟨i,f,h1,h2,h3,h4⟩
   refine ⟨i,f,?_,h2,h3,h4⟩
   show (if _ then _ else _)=_
   rw [if_neg,h1]
   intro e
   obtain ⟨g,hg,h5,_⟩:=idle_some e
   rw [h1] at hg;cases hg
   exact h2 h5
  ·rintro ⟨i,f,h1,h2,h3,h4⟩
   have h1:(if idle v i 3000000000 now then none else v.fl i)=some f:=h1
   split at h1
   ·cases h1
   ·exact ⟨i,f,h1,h2,h3,h4⟩
 srt:=h.srt
 n:=by
  show v.n=_
  rw [h.n]
  refine tot_ext 8 fun i _=>?_
  show _=cnt (if _ then _ else _)
  split
  ·rename_i e
   obtain ⟨f,hf,h5,_⟩:=idle_some e
   rw [hf];simp [cnt,h5]
  ·rfl
 le:=h.le
def fateF (v:Qm) (s:Sg) (now:Int):Int :=
 if v.n ≥ cL v.c then 2
 else if (∃ f,v.fl (sK s).toNat=some f∧(f.sg.length:Int) ≥ cW v.c) then 3
 else if sSt s > addI now (cH v.c)∧cD v.c=true then 4 else 0
def drawn (v:Qm) (s:Sg) (now:Int):Sg:=(sK s,sFr s,sLn s,(if addI now (cH v.c) < sSt s then addI now (cH v.c) else sSt s),sAg s)
def woken (v:Qm) (i:Nat) (now:Int):Fl:=match v.fl i with
 | none=>⟨cF v.c,0,0,[]⟩
 | some f=>if plc v i≠0 then f else { f with cr:=if idle v i 40000000 now then (if cQ v.c > f.cr then cQ v.c else f.cr) else f.cr,si:=0 }
def wakeL (v:Qm) (i:Nat):LV:=if plc v i≠0 then v.lv else (pushF v.lv i true).2
abbrev wakeF (v:Qm) (i:Nat) (now:Int):Qm:={ v with fl:=upF v.fl i (some (woken v i now)),lv:=wakeL v i }
def addS (v:Qm) (i:Nat) (s:Sg):Qm:=match v.fl i with
 | none=>v
 | some f=>{ v with fl:=upF v.fl i (some { f with sg:=f.sg++[s] }),n:=v.n+1 }
def enqF (v:Qm) (s:Sg) (now:Int):(Int × Int) × Qm :=
 if ¬ (0≤sK s∧sK s≤7) then ((0,8),v)
 else if ¬ (1≤sLn s∧sLn s≤65536) then ((0,1),v)
 else if fateF (collectF v now) s now=0 then ((0,0),addS (wakeF (collectF v now) (sK s).toNat now) (sK s).toNat (drawn v s now))
 else ((fateF (collectF v now) s now,0),collectF v now)
theorem pushed {v:LV} {i:Nat} (hi:i < 8) (h:¬ inL v i):(pushF v i true)=(0,(v.1++[(i:Int)],v.2)):=by
 have hp:placeF v i=0:=by
  cases hh:decide (placeF v i=0) with
  | true=>exact of_decide_eq_true hh
  | false=>exact absurd (place_in.1 (of_decide_eq_false hh)) h
 rw [pushF,if_neg (by omega),if_neg (by rw [hp];simp),if_pos rfl]
theorem in_wake {v:Qm} {i j:Nat} (hi:i < 8):inL (wakeL v i) j↔inL v.lv j∨(j=i∧plc v i=0):=by
 unfold wakeL
 split
 ·rename_i h
  exact ⟨.inl,fun e=>e.elim id fun e=>absurd e.2 h⟩
 ·rename_i h
  have h0:plc v i=0:=by omega
  have hn:=(plc_0.1 h0).1
  rw [pushed hi hn]
  unfold inL
  simp only [List.mem_append,List.mem_singleton]
  constructor
  ·rintro ((h | h) | h)
   ·exact .inl (.inl h)
   ·exact .inr ⟨by omega,h0⟩
   ·exact .inl (.inr h)
  ·rintro ((h | h) | ⟨rfl,_⟩)
   ·exact .inl (.inl h)
   ·exact .inr h
   ·exact .inl (.inr rfl)
theorem okL_wake {v:Qm} {i:Nat} (h:okL v.lv):okL (wakeL v i):=by
 unfold wakeL;split
 ·exact h
 ·exact h.push _ _
theorem woken_sg (v:Qm) (i:Nat) (now:Int):(woken v i now).sg=match v.fl i with | none=>[] | some f=>f.sg:=by
 unfold woken
 cases v.fl i with
 | none=>rfl
 | some f=>simp only;split<;>rfl
theorem woken_ok {v:Qm} (h:OkQ v) (i:Nat) (now:Int):OkF i (woken v i now):=by
 unfold woken
 have hc:=h.cf
 cases hf:v.fl i with
 | none=>exact ⟨by have:=hc.f;simp only;omega,U_lit 0,U_lit 0,fun s hs=>by cases hs⟩
 | some f =>
  have hk:=(h.fl i f hf).2
  simp only
  split
  ·exact hk
  ·refine ⟨?_,hk.nx,U_lit 0,hk.sg⟩
   have h1:=hk.cr
   have h2:=hc.q
   simp only
   (repeat' split)<;>omega
theorem add_eq (v:Qm) (i:Nat) (now:Int) (s:Sg):addS (wakeF v i now) i s={ v with fl:=upF v.fl i (some { woken v i now with sg:=(woken v i now).sg++[s] }),lv:=wakeL v i,n:=v.n+1 }:=by
 unfold addS wakeF
 simp only [upF_same]
 congr 1
 funext j
 by_cases h:j=i
 ·rw [h,upF_same,upF_same]
 ·rw [upF_ne _ _ h,upF_ne _ _ h,upF_ne _ _ h]
theorem time_app {f:Fl} {s:Sg} (h:f.sg≠[]):timeF { f with sg:=f.sg++[s] }=timeF f:=by
 unfold timeF
 cases hs:f.sg with
 | nil=>exact absurd hs h
 | cons x l=>rfl
theorem OkQ.upd {v:Qm} (h:OkQ v) {i:Nat} (hi:i < 8) (x:Option Fl) (lv':LV) (ks':List Key) (n':Int) (hlv:okL lv') (hin:∀ j,j≠i→(inL lv' j↔inL v.lv j)) (hxi:inL lv' i→∃ f,x=some f) (hx:∀ f,x=some f→OkF i f)
  (hks:∀ k,k∈ks'↔(k∈v.ks∧k.2≠(i:Int))∨∃ f,x=some f∧f.sg≠[]∧¬ inL lv' i∧k=(timeF f,(i:Int))) (hsrt:Srt ks') (hn:n'=v.n+cnt x - cnt (v.fl i)) (hle:n'≤512) :
  OkQ { v with fl:=upF v.fl i x,lv:=lv',ks:=ks',n:=n' }:=by
 refine ⟨h.cf,hlv,fun j hj=>?_,fun j f hf=>?_,fun k=>?_,hsrt,?_,hle⟩
 ·have hj:inL lv' j:=hj
  show ∃ f,upF v.fl i x j=some f
  by_cases e:j=i
  ·subst e
   obtain ⟨f,hf⟩:=hxi hj
   exact ⟨f,(upF_same _ _ _).trans hf⟩
  ·obtain ⟨f,hf⟩:=h.th j ((hin j e).1 hj)
   exact ⟨f,(upF_ne _ _ e).trans hf⟩
 ·have hf:upF v.fl i x j=some f:=hf
  by_cases e:j=i
  ·subst e
   rw [upF_same] at hf
   exact ⟨hi,hx f hf⟩
  ·rw [upF_ne _ _ e] at hf
   exact h.fl j f hf
 ·show k∈ks'↔∃ (j:Nat) (f:Fl),upF v.fl i x j=some f∧f.sg≠[]∧¬ inL lv' j∧k=(timeF f,(j:Int))
  rw [hks,h.ks]
  constructor
  ·rintro (⟨⟨j,f,h1,h2,h3,h4⟩,h5⟩ | ⟨f,h1,h2,h3,h4⟩)
   ·have e:j≠i:=fun e=>h5 (by rw [h4,e])
    exact ⟨j,f,(upF_ne _ _ e).trans h1,h2,fun hh=>h3 ((hin j e).1 hh),h4⟩
   ·exact ⟨i,f,(upF_same _ _ _).trans h1,h2,h3,h4⟩
  ·rintro ⟨j,f,h1,h2,h3,h4⟩
   by_cases e:j=i
   ·subst e
    rw [upF_same] at h1
    exact .inr ⟨f,h1,h2,h3,h4⟩
   ·rw [upF_ne _ _ e] at h1
    exact .inl ⟨⟨j,f,h1,h2,fun hh=>h3 ((hin j e).2 hh),h4⟩,by rw [h4];intro hh;exact e (by have hh:(j:Int)=i:=hh;omega)⟩
 ·show n'=tot (upF v.fl i x) 8
  rw [tot_up,if_pos hi,hn,h.n];omega
theorem OkQ.key {v:Qm} (h:OkQ v) {i:Nat} {k:Key} (hk:k∈v.ks) (e:k.2=(i:Int)):∃ f,v.fl i=some f∧f.sg≠[]∧¬ inL v.lv i∧k=(timeF f,(i:Int)):=by
 obtain ⟨j,f,h1,h2,h3,h4⟩:=(h.ks k).1 hk
 have:j=i:=by rw [h4] at e;have e:(j:Int)=i:=e;omega
 subst this
 exact ⟨f,h1,h2,h3,h4⟩
theorem OkQ.same {v:Qm} (h:OkQ v) {i:Nat} {x:Option Fl} {lv':LV} (hs:∀ t,(∃ f,v.fl i=some f∧f.sg≠[]∧¬ inL v.lv i∧t=timeF f)↔∃ f,x=some f∧f.sg≠[]∧¬ inL lv' i∧t=timeF f) (k:Key) :
  k∈v.ks↔(k∈v.ks∧k.2≠(i:Int))∨∃ f,x=some f∧f.sg≠[]∧¬ inL lv' i∧k=(timeF f,(i:Int)):=by
 constructor
 ·intro hk
  by_cases e:k.2=(i:Int)
  ·right
   obtain ⟨f,h1,h2,h3,h4⟩:=h.key hk e
   obtain ⟨g,g1,g2,g3,g4⟩:=(hs (timeF f)).1 ⟨f,h1,h2,h3,rfl⟩
   exact ⟨g,g1,g2,g3,by rw [h4,g4]⟩
  ·exact .inl ⟨hk,e⟩
 ·rintro (hk | ⟨f,h1,h2,h3,h4⟩)
  ·exact hk.1
  ·obtain ⟨g,g1,g2,g3,g4⟩:=(hs (timeF f)).2 ⟨f,h1,h2,h3,rfl⟩
   rw [h.ks]
   exact ⟨i,g,g1,g2,g3,by rw [h4,g4]⟩
theorem OkQ.accept {v:Qm} (h:OkQ v) {i:Nat} (hi:i < 8) {s:Sg} (hk:sK s=i) (hs:OkS s) (now:Int) (hn:v.n < 512):OkQ (addS (wakeF v i now) i s):=by
 rw [add_eq]
 have hw:=woken_ok h i now
 have hsg:=woken_sg v i now
 refine h.upd hi _ _ _ _ (okL_wake h.lv) (fun j e=>?_) (fun _=>⟨_,rfl⟩) (fun f hf=>?_) (h.same fun t=>?_) h.srt ?_ (by omega)
 ·rw [in_wake hi]
  exact ⟨fun hh=>hh.elim id fun hh=>absurd hh.1 e,.inl⟩
 ·cases hf
  refine ⟨hw.cr,hw.nx,hw.si,fun x hx=>?_⟩
  rw [List.mem_append,List.mem_singleton] at hx
  rcases hx with hx | rfl
  ·exact hw.sg x hx
  ·exact ⟨hk,hs⟩
 ·constructor
  ·rintro ⟨f,h1,h2,h3,h4⟩
   have hp:plc v i=3:=plc_3.2 ⟨h3,f,h1,h2⟩
   have hwf:woken v i now=f:=by unfold woken;rw [h1];simp [hp]
   refine ⟨{ f with sg:=f.sg++[s] },by rw [hwf],by simp,fun hh=>?_,by rw [time_app h2];exact h4⟩
   rcases (in_wake hi).1 hh with hh | hh
   ·exact h3 hh
   ·rw [hp] at hh;cases hh.2
  ·rintro ⟨f,h1,h2,h3,h4⟩
   have h3:¬ (inL v.lv i∨(i=i∧plc v i=0)):=fun hh=>h3 ((in_wake hi).2 hh)
   have h5:plc v i≠0:=fun e=>h3 (.inr ⟨rfl,e⟩)
   have h6:¬ inL v.lv i:=fun e=>h3 (.inl e)
   have h7:∃ g,v.fl i=some g∧g.sg≠[]:=Classical.byContradiction fun hh=>h5 (plc_0.2 ⟨h6,fun g hg=>Classical.byContradiction fun h8=>hh ⟨g,hg,h8⟩⟩)
   obtain ⟨g,hg,hg2⟩:=h7
   have hwf:woken v i now=g:=by unfold woken;rw [hg];simp [h5]
   rw [hwf] at h1
   cases h1
   exact ⟨g,hg,hg2,h6,by rw [h4,time_app hg2]⟩
 ·have:cnt (some { woken v i now with sg:=(woken v i now).sg++[s] })=cnt (v.fl i)+1:=by
   show (((woken v i now).sg++[s]).length:Int)=_
   rw [hsg]
   cases v.fl i with
   | none=>rfl
   | some f=>simp [cnt]
  rw [this];omega
theorem drawn_ok {v:Qm} (h:OkQ v) {s:Sg} {now:Int} (hs:U (sFr s)∧U (sSt s)) (hl:1≤sLn s∧sLn s≤65536) (hn:U now):OkS (drawn v s now):=by
 have hH:U (cH v.c):=by have:=h.cf.h;unfold U;omega
 exact ⟨hs.1,hl,by show U (if _ then _ else _);split;exact U_add hn hH;exact hs.2⟩
theorem OkQ.enq {v:Qm} (h:OkQ v) {s:Sg} {now:Int} (hs:U (sFr s)∧U (sSt s)) (hn:U now):OkQ (enqF v s now).2:=by
 unfold enqF
 split
 ·exact h
 ·split
  ·exact h
  ·rename_i h1 h2
   have h1:0≤sK s∧sK s≤7:=Decidable.not_not.1 h1
   have h2:1≤sLn s∧sLn s≤65536:=Decidable.not_not.1 h2
   split
   ·rename_i h3
    have hc:=h.collect now
    refine hc.accept (by omega) (by show sK s=_;omega) (drawn_ok h hs h2 hn) now ?_
    unfold fateF at h3
    split at h3
    ·cases h3
    ·rename_i h4
     have:=hc.cf.l
     omega
   ·exact h.collect now
def dueK (v:Qm) (now:Int):List Key:=v.ks.takeWhile fun k=>decide (k.1≤now)
abbrev dueF (v:Qm) (now:Int):Qm:={ v with ks:=v.ks.dropWhile (fun k=>decide (k.1≤now)),lv:=(v.lv.1,v.lv.2++(dueK v now).map Prod.snd) }
def delayI (size rate:Int):Int:=if size < 1∨rate=18446744073709551615 then 0 else if 1000000000 < mdI size 1000000000 rate then 1000000000 else mdI size 1000000000 rate
def lessI (a b:Int):Int:=if (if a=0 then 18446744073709551615 else a) > (if b=0 then 18446744073709551615 else b) then (if b=0 then 18446744073709551615 else b) else (if a=0 then 18446744073709551615 else a)
def rateA (rates:List Int) (i:Nat):Int:=match rates[i]? with
 | some r=>r
 | none=>18446744073709551615
abbrev sentF (v:Qm) (i:Nat) (f:Fl) (s:Sg) (now rate:Int):Qm :=
 { v with fl:=upF v.fl i (some { f with cr:=f.cr - sLn s,nx:=addI now (delayI (sLn s) (lessI rate (cR v.c))),sg:=f.sg.tail }),n:=v.n - 1 }
def heads (now:Int) (rates:List Int):Nat→Qm→Option Sg × Qm
 | 0,v=>(none,v)
 | k+1,v=>match v.lv.1++v.lv.2,v.fl (headF v.lv).1.toNat with
  | [],_=>(none,v)
  | _ :: _,none=>(none,v)
  | _ :: _,some f =>
   if f.cr≤0 then heads now rates k { v with fl:=upF v.fl (headF v.lv).1.toNat (some { f with cr:=f.cr+cQ v.c }),lv:=(backF v.lv).2 }
   else match f.sg with
    | []=>if (headF v.lv).2.1=true∧v.lv.2≠[] then heads now rates k { v with lv:=(backF v.lv).2 }
     else heads now rates k { v with lv:=(dropF v.lv).2,fl:=upF v.fl (headF v.lv).1.toNat (some { f with si:=now }) }
    | s :: _=>if timeF f > now then heads now rates k { v with lv:=(dropF v.lv).2,ks:=putK v.ks (timeF f,(headF v.lv).1) }
     else (some s,sentF v (headF v.lv).1.toNat f s now (rateA rates (headF v.lv).1.toNat))
def crw (x:Option Fl):Nat:=match x with
 | none=>0
 | some f=>(1 - f.cr).toNat
def mu (v:Qm):Nat:=((v.lv.1++v.lv.2).map fun x=>crw (v.fl x.toNat)+1).sum+v.lv.1.length
def deqF (v:Qm) (now:Int) (rates:List Int):Option Sg × Qm:=heads now rates (mu (dueF v now)+1) (dueF v now)
def closeF (v:Qm) (i:Int):List Sg × Qm :=
 if ¬ (0≤i∧i≤7) then ([],v) else match v.fl i.toNat with
  | none=>([],v)
  | some f=>(f.sg,{ v with fl:=upF v.fl i.toNat none,lv:=outF v.lv i,ks:=if plc v i.toNat=3 then v.ks.erase (timeF f,i) else v.ks,n:=v.n - f.sg.length })
def setF (v:Qm) (c:Cf):Int × Qm:=if may c then (0,{ v with c:=c }) else (13,v)
abbrev newF (c:Cf):Qm:=⟨c,fun _=>none,([],[]),[],0⟩
theorem OkQ.new {c:Cf} (h:OkC c):OkQ (newF c) where
 cf:=h
 lv:=⟨by simp [newF],by simp [newF]⟩
 th i hi:=by simp [newF,inL] at hi
 fl i f hf:=by cases hf
 ks k:=by
  constructor
  ·intro hk;cases hk
  ·rintro ⟨i,f,h1,_⟩;cases h1
 srt:=List.Pairwise.nil
 n:=rfl
 le:=by show (0:Int)≤512;omega
theorem OkQ.set {v:Qm} (h:OkQ v) {c:Cf} (hc:0≤cH c∧U (cR c)):OkQ (setF v c).2:=by
 unfold setF
 split
 ·rename_i hm
  have h2:=may_ok hm hc.1 hc.2
  exact { h with cf:=h2 }
 ·exact h
theorem takeW_mem {ks:List Key} {now:Int}:∀ {k:Key},k∈ks.takeWhile (fun k=>decide (k.1≤now))→k∈ks∧k.1≤now:=by
 intro k hk
 exact ⟨List.takeWhile_subset _ hk,by
  induction ks with
  | nil=>simp at hk
  | cons x l ih =>
   rw [List.takeWhile_cons] at hk
   split at hk
   ·rename_i hx
    rw [List.mem_cons] at hk
    rcases hk with rfl | hk
    ·simpa using hx
    ·exact ih hk
   ·simp at hk⟩
theorem key_inj {v:Qm} (h:OkQ v) {a b:Key} (ha:a∈v.ks) (hb:b∈v.ks) (e:a.2=b.2):a=b:=by
 obtain ⟨i,f,h1,_,_,h4⟩:=(h.ks a).1 ha
 obtain ⟨j,g,g1,_,_,g4⟩:=(h.ks b).1 hb
 rw [h4,g4] at e
 have e:(i:Int)=j:=e
 have e:i=j:=by omega
 subst e
 rw [h1] at g1
 cases g1
 rw [h4,g4]
theorem nodup_map {ks:List Key} (hs:ks.Nodup) (hi:∀ a∈ks,∀ b∈ks,a.2=b.2→a=b):(ks.map Prod.snd).Nodup:=by
 induction ks with
 | nil=>exact List.nodup_nil
 | cons x l ih =>
  rw [List.nodup_cons] at hs
  rw [List.map_cons,List.nodup_cons]
  refine ⟨fun hx=>?_,ih hs.2 fun a ha b hb=>hi a (by simp [ha]) b (by simp [hb])⟩
  obtain ⟨y,hy,hxy⟩:=List.mem_map.1 hx
  have:=hi y (by simp [hy]) x (by simp) hxy
  exact hs.1 (this ▸ hy)
theorem OkQ.keys {v:Qm} (h:OkQ v):(v.ks.map Prod.snd).Nodup∧∀ x∈v.ks.map Prod.snd,(0≤x∧x < 8)∧x ∉ v.lv.1++v.lv.2:=by
 refine ⟨nodup_map h.srt.nodup fun a ha b hb=>key_inj h ha hb,fun x hx=>?_⟩
 obtain ⟨k,hk,rfl⟩:=List.mem_map.1 hx
 obtain ⟨i,f,h1,_,h3,h4⟩:=(h.ks k).1 hk
 rw [h4]
 have:=(h.fl i f h1).1
 exact ⟨by show 0≤(i:Int)∧(i:Int) < 8;omega,h3⟩
theorem OkQ.due {v:Qm} (h:OkQ v) (now:Int):OkQ (dueF v now):=by
 have hk:=h.keys
 have hsplit:v.ks=dueK v now++v.ks.dropWhile (fun k=>decide (k.1≤now)):=List.takeWhile_append_dropWhile.symm
 have hkm:=hk.1
 rw [hsplit,List.map_append,List.nodup_append] at hkm
 have hin:∀ i:Nat,inL (dueF v now).lv i↔inL v.lv i∨(i:Int)∈(dueK v now).map Prod.snd:=fun i=>by
  show (i:Int)∈v.lv.1++(v.lv.2++_)↔_
  unfold inL
  rw [List.mem_append,List.mem_append,List.mem_append,or_assoc]
 refine ⟨h.cf,?_,fun i hi=>?_,h.fl,fun k=>?_,?_,h.n,h.le⟩
 ·obtain ⟨hd,hr⟩:=h.lv
  constructor
  ·show (v.lv.1++(v.lv.2++(dueK v now).map Prod.snd)).Nodup
   rw [← List.append_assoc,List.nodup_append]
   refine ⟨hd,hkm.1,fun a ha b hb e=>?_⟩
   have:=(hk.2 b (by rw [hsplit,List.map_append,List.mem_append];exact .inl hb)).2
   exact this (e ▸ ha)
  ·intro x hx
   have hx:x∈v.lv.1++(v.lv.2++(dueK v now).map Prod.snd):=hx
   rw [← List.append_assoc,List.mem_append] at hx
   rcases hx with hx | hx
   ·exact hr x hx
   ·exact (hk.2 x (by rw [hsplit,List.map_append,List.mem_append];exact .inl hx)).1
 ·rcases (hin i).1 hi with hi | hi
  ·exact h.th i hi
  ·obtain ⟨k,hk2,he⟩:=List.mem_map.1 hi
   obtain ⟨f,hf,_⟩:=h.key (takeW_mem hk2).1 he
   exact ⟨f,hf⟩
 ·show k∈v.ks.dropWhile _↔∃ (i:Nat) (f:Fl),v.fl i=some f∧_
  constructor
  ·intro hkd
   have hkk:k∈v.ks:=by rw [hsplit,List.mem_append];exact .inr hkd
   obtain ⟨i,f,h1,h2,h3,h4⟩:=(h.ks k).1 hkk
   refine ⟨i,f,h1,h2,fun hh=>?_,h4⟩
   rcases (hin i).1 hh with hh | hh
   ·exact h3 hh
   ·exact hkm.2.2 _ hh _ (List.mem_map.2 ⟨k,hkd,by rw [h4]⟩) rfl
  ·rintro ⟨i,f,h1,h2,h3,h4⟩
   have hkk:k∈v.ks:=(h.ks k).2 ⟨i,f,h1,h2,fun hh=>h3 ((hin i).2 (.inl hh)),h4⟩
   rw [hsplit,List.mem_append] at hkk
   rcases hkk with hkk | hkk
   ·exact absurd ((hin i).2 (.inr (List.mem_map.2 ⟨k,hkk,by rw [h4]⟩))) h3
   ·exact hkk
 ·have:=h.srt
  rw [hsplit] at this
  exact (List.pairwise_append.1 this).2.1
theorem in_back {v:LV} (hv:okL v) (hh:(headF v).2.2=true) (j:Nat):inL (backF v).2 j↔inL v j:=by
 unfold backF
 rw [if_pos hh]
 unfold inL outF
 simp only [List.mem_append,List.mem_filter,List.mem_singleton,decide_eq_true_eq]
 have hm:=headF_mem hh
 rw [List.mem_append] at hm
 constructor
 ·rintro (h | h | h)
  ·exact .inl h.1
  ·exact .inr h.1
  ·rw [h];exact hm
 ·intro h
  by_cases e:(j:Int)=(headF v).1
  ·exact .inr (.inr e)
  ·rcases h with h | h
   ·exact .inl ⟨h,e⟩
   ·exact .inr (.inl ⟨h,e⟩)
theorem in_drop {v:LV} (hh:(headF v).2.2=true) (j:Nat):inL (dropF v).2 j↔inL v j∧(j:Int)≠(headF v).1:=by
 unfold dropF
 rw [if_pos hh]
 unfold inL outF
 simp only [List.mem_append,List.mem_filter,decide_eq_true_eq]
 exact ⟨fun h=>h.elim (fun h=>⟨.inl h.1,h.2⟩) fun h=>⟨.inr h.1,h.2⟩,fun h=>h.1.elim (fun x=>.inl ⟨x,h.2⟩) fun x=>.inr ⟨x,h.2⟩⟩
section
variable {v : Qm} {i : Nat} {f : Fl}
structure AtH (v:Qm) (i:Nat) (f:Fl):Prop where
 ok:OkQ v
 hd:(headF v.lv).1=(i:Int)
 is:(headF v.lv).2.2=true
 fl:v.fl i=some f
theorem AtH.lt (h:AtH v i f):i < 8:=(h.ok.fl i f h.fl).1
theorem AtH.inl (h:AtH v i f):inL v.lv i:=by
 have:=headF_mem h.is
 rw [h.hd] at this;exact this
theorem AtH.no {k:Key} (h:AtH v i f) (hk:k∈v.ks):k.2≠(i:Int):=fun e=>by
 obtain ⟨_,_,_,h3,_⟩:=h.ok.key hk e
 exact h3 h.inl
theorem AtH.credit (h:AtH v i f) (hc:f.cr≤0):OkQ { v with fl:=upF v.fl i (some { f with cr:=f.cr+cQ v.c }),lv:=(backF v.lv).2 }:=by
 have hf:=(h.ok.fl i f h.fl).2
 have hq:=h.ok.cf.q
 have h1:=hf.cr
 refine h.ok.upd h.lt _ _ _ v.n h.ok.lv.back (fun j _=>in_back h.ok.lv h.is j) (fun _=>⟨_,rfl⟩) (fun g hg=>?_) (h.ok.same fun t=>?_) h.ok.srt (by rw [h.fl];simp [cnt]) h.ok.le
 ·cases hg
  exact ⟨by show -65536 < f.cr+cQ v.c∧f.cr+cQ v.c≤65536;omega,hf.nx,hf.si,hf.sg⟩
 ·have a1:¬ ∃ g,v.fl i=some g∧g.sg≠[]∧¬ inL v.lv i∧t=timeF g:=fun ⟨_,_,_,h3,_⟩=>h3 h.inl
  exact ⟨fun hh=>absurd hh a1,fun ⟨_,_,_,h3,_⟩=>absurd ((in_back h.ok.lv h.is i).2 h.inl) h3⟩
theorem AtH.back (h:AtH v i f):OkQ { v with lv:=(backF v.lv).2 }:=by
 have:=h.ok.upd h.lt (v.fl i) (backF v.lv).2 v.ks v.n h.ok.lv.back (fun j _=>in_back h.ok.lv h.is j) (fun _=>⟨_,h.fl⟩) (fun g hg=>(h.ok.fl i g hg).2) (h.ok.same fun t=>?_) h.ok.srt (by omega) h.ok.le
 ·have e:upF v.fl i (v.fl i)=v.fl:=by
   funext j
   by_cases e:j=i
   ·rw [e,upF_same]
   ·rw [upF_ne _ _ e]
  rw [e] at this
  exact this
 ·have a1:¬ ∃ g,v.fl i=some g∧g.sg≠[]∧¬ inL v.lv i∧t=timeF g:=fun ⟨_,_,_,h3,_⟩=>h3 h.inl
  exact ⟨fun hh=>absurd hh a1,fun ⟨_,_,_,h3,_⟩=>absurd ((in_back h.ok.lv h.is i).2 h.inl) h3⟩
theorem AtH.nowhere (h:AtH v i f) (hs:f.sg=[]) {now:Int} (hn:U now):OkQ { v with lv:=(dropF v.lv).2,fl:=upF v.fl i (some { f with si:=now }) }:=by
 have hf:=(h.ok.fl i f h.fl).2
 have hd:=in_drop (v:=v.lv) h.is
 refine h.ok.upd h.lt (some { f with si:=now }) (dropF v.lv).2 v.ks v.n h.ok.lv.drop (fun j e=>?_) (fun _=>⟨_,rfl⟩) (fun g hg=>?_) (h.ok.same fun t=>?_) h.ok.srt (by rw [h.fl];simp [cnt]) h.ok.le
 ·rw [hd j,h.hd]
  exact ⟨fun x=>x.1,fun x=>⟨x,fun e2=>e (by omega)⟩⟩
 ·cases hg
  exact ⟨hf.cr,hf.nx,hn,hf.sg⟩
 ·have a1:¬ ∃ g,v.fl i=some g∧g.sg≠[]∧¬ inL v.lv i∧t=timeF g:=fun ⟨_,_,_,h3,_⟩=>h3 h.inl
  exact ⟨fun hh=>absurd hh a1,fun ⟨g,hg,h3,_⟩=>by cases hg;exact absurd hs h3⟩
theorem putK_mem (ks:List Key) (k x:Key):x∈putK ks k↔x=k∨x∈ks:=by
 unfold putK
 have e:=List.takeWhile_append_dropWhile (p:=fun m=>klt m k) (l:=ks)
 have e2:x∈ks↔x∈ks.takeWhile (fun m=>klt m k)∨x∈ks.dropWhile (fun m=>klt m k):=by
  rw [← List.mem_append,e]
 rw [e2,List.mem_append,List.mem_cons]
 exact ⟨fun h=>h.elim (fun h=>.inr (.inl h)) fun h=>h.elim .inl fun h=>.inr (.inr h),fun h=>h.elim (fun h=>.inr (.inl h)) fun h=>h.elim .inl fun h=>.inr (.inr h)⟩
theorem srt_put {ks:List Key} (hs:Srt ks) {k:Key} (hk:k ∉ ks):Srt (putK ks k):=by
 obtain ⟨a,b,hab,h1,h2⟩:∃ a b,ks=a++b∧(∀ m∈a,klt m k=true)∧∀ m∈b,klt k m=true:=by
  refine ⟨ks.takeWhile (fun m=>klt m k),ks.dropWhile (fun m=>klt m k),List.takeWhile_append_dropWhile.symm,?_,?_⟩
  ·intro m hm
   clear hs hk
   induction ks with
   | nil=>simp at hm
   | cons x l ih =>
    rw [List.takeWhile_cons] at hm
    split at hm
    ·rw [List.mem_cons] at hm
     rcases hm with rfl | hm
     ·assumption
     ·exact ih hm
    ·simp at hm
  ·intro m hm
   have e:=List.takeWhile_append_dropWhile (p:=fun m=>klt m k) (l:=ks)
   cases hd:ks.dropWhile (fun m=>klt m k) with
   | nil=>rw [hd] at hm;cases hm
   | cons y l =>
    have hy:klt y k=false:=by
     have:=List.head?_dropWhile_not (fun m=>klt m k) ks
     rw [hd] at this
     simpa using this
    have hyk:y≠k:=fun e2=>hk (by rw [← e,List.mem_append,hd,← e2];simp)
    have hky:klt k y=true:=klt_tot hy hyk
    rw [hd] at hm
    rw [List.mem_cons] at hm
    rcases hm with rfl | hm
    ·exact hky
    ·have hs2:=hs
     rw [← e,hd] at hs2
     have:=(List.pairwise_cons.1 (List.pairwise_append.1 hs2).2.1).1 m hm
     exact klt_trans hky this
 rw [hab,put_mid h1 h2]
 rw [hab] at hs
 exact hs.put h1 h2
theorem AtH.wait (h:AtH v i f) (hs:f.sg≠[]):OkQ { v with lv:=(dropF v.lv).2,ks:=putK v.ks (timeF f,(i:Int)) }∧(timeF f,(i:Int)) ∉ v.ks∧v.ks.length < 8:=by
 have hd:=in_drop (v:=v.lv) h.is
 have hno:(timeF f,(i:Int)) ∉ v.ks:=fun hk=>h.no hk rfl
 refine ⟨?_,hno,?_⟩
 ·have hni:¬ inL (dropF v.lv).2 i:=fun e=>((hd i).1 e).2 h.hd.symm
  have:=h.ok.upd h.lt (v.fl i) (dropF v.lv).2 (putK v.ks (timeF f,(i:Int))) v.n h.ok.lv.drop (fun j e=>?_) (fun e=>absurd e hni) (fun g hg=>(h.ok.fl i g hg).2) (fun k=>?_) (srt_put h.ok.srt hno) (by omega) h.ok.le
  ·have e:upF v.fl i (v.fl i)=v.fl:=by
    funext j
    by_cases e:j=i
    ·rw [e,upF_same]
    ·rw [upF_ne _ _ e]
   rw [e] at this
   exact this
  ·rw [hd j,h.hd]
   exact ⟨fun x=>x.1,fun x=>⟨x,fun e2=>e (by omega)⟩⟩
  ·rw [putK_mem]
   constructor
   ·rintro (rfl | hk)
    ·exact .inr ⟨f,h.fl,hs,hni,rfl⟩
    ·exact .inl ⟨hk,h.no hk⟩
   ·rintro (hk | ⟨g,hg,_,_,e⟩)
    ·exact .inr hk.1
    ·rw [h.fl] at hg;cases hg;exact .inl e
 ·have hk:=h.ok.keys
  have h9:((i:Int) :: v.ks.map Prod.snd).Nodup:=List.nodup_cons.2 ⟨fun hx=>(hk.2 _ hx).2 h.inl,hk.1⟩
  have:=nodup_few 8 _ h9 fun x hx=>by
   rcases List.mem_cons.1 hx with rfl | hx
   ·have:=h.lt;exact ⟨by omega,by show (i:Int) < ((8:Nat):Int);omega⟩
   ·exact (hk.2 x hx).1
  simp at this;omega
theorem AtH.sent (h:AtH v i f) {s:Sg} {l:List Sg} (hs:f.sg=s :: l) (hc:f.cr > 0) {now rate:Int} (hn:U now) (hd:U (delayI (sLn s) (lessI rate (cR v.c)))):OkQ (sentF v i f s now rate):=by
 have hf:=(h.ok.fl i f h.fl).2
 have hsg:=hf.sg s (by rw [hs];simp)
 have h1:=hf.cr
 have h2:=hsg.2.ln
 refine h.ok.upd h.lt _ v.lv v.ks (v.n - 1) h.ok.lv (fun _ _=>Iff.rfl) (fun _=>⟨_,rfl⟩) (fun g hg=>?_) (h.ok.same fun t=>?_) h.ok.srt (by rw [h.fl,hs];simp [cnt,hs];omega) (by have:=h.ok.le;omega)
 ·cases hg
  refine ⟨by show -65536 < f.cr - sLn s∧f.cr - sLn s≤65536;omega,U_add hn hd,hf.si,fun x hx=>hf.sg x (by rw [hs];rw [hs] at hx;exact List.mem_cons_of_mem _ hx)⟩
 ·have a1:¬ ∃ g,v.fl i=some g∧g.sg≠[]∧¬ inL v.lv i∧t=timeF g:=fun ⟨_,_,_,h3,_⟩=>h3 h.inl
  exact ⟨fun hh=>absurd hh a1,fun ⟨_,_,_,h3,_⟩=>absurd h.inl h3⟩
end
theorem OkQ.close {v:Qm} (h:OkQ v) (i:Int):OkQ (closeF v i).2:=by
 unfold closeF
 split
 ·exact h
 ·rename_i hi
  have hi:0≤i∧i≤7:=Decidable.not_not.1 hi
  have hi8:i.toNat < 8:=by omega
  have hin:((i.toNat:Nat):Int)=i:=by omega
  split
  ·exact h
  ·rename_i f hf
   have hout:∀ j:Nat,inL (outF v.lv i) j↔inL v.lv j∧(j:Int)≠i:=fun j=>by
    unfold inL outF
    simp only [List.mem_append,List.mem_filter,decide_eq_true_eq]
    exact ⟨fun h=>h.elim (fun h=>⟨.inl h.1,h.2⟩) fun h=>⟨.inr h.1,h.2⟩,fun h=>h.1.elim (fun x=>.inl ⟨x,h.2⟩) fun x=>.inr ⟨x,h.2⟩⟩
   have hlen:=h.len hf
   refine h.upd hi8 none (outF v.lv i) _ _ (h.lv.out i) (fun j e=>?_) (fun e=>?_) (fun g hg=>by cases hg) (fun k=>?_) ?_ (by rw [hf];simp [cnt]) (by have:=h.le;omega)
   ·rw [hout j]
    exact ⟨fun x=>x.1,fun x=>⟨x,fun e2=>e (by omega)⟩⟩
   ·exact absurd hin (((hout _).1 e).2)
   ·rw [hin]
    by_cases hp:plc v i.toNat=3
    ·rw [if_pos hp]
     obtain ⟨h3,g,hg,hg2⟩:=plc_3.1 hp
     rw [hf] at hg
     cases hg
     rw [h.srt.nodup.mem_erase_iff]
     constructor
     ·rintro ⟨h4,h5⟩
      refine .inl ⟨h5,fun e=>?_⟩
      obtain ⟨g,hg,_,_,e2⟩:=h.key (i:=i.toNat) h5 (by rw [e,hin])
      rw [hf] at hg
      cases hg
      exact h4 (by rw [e2,hin])
     ·rintro (⟨h4,h5⟩ | ⟨g,hg,_⟩)
      ·exact ⟨fun e=>h5 (by rw [e]),h4⟩
      ·cases hg
    ·rw [if_neg hp]
     constructor
     ·intro hk
      refine .inl ⟨hk,fun e=>?_⟩
      obtain ⟨g,hg,h2,h3,_⟩:=h.key (i:=i.toNat) hk (by rw [e,hin])
      exact hp (plc_3.2 ⟨h3,g,hg,h2⟩)
     ·rintro (hk | ⟨g,hg,_⟩)
      ·exact hk.1
      ·cases hg
   ·split
    ·exact h.srt.sublist List.erase_sublist
    ·exact h.srt
end FqM

namespace FqC
open Arith ArithC Lists _root_.Go.X.Tree TreeC TreeD TreeE TreeF FqM
theorem delay_tri (n r:Int) (hn:n < 9223372036854775808) (hr:U r):Tri Tryz.prog N_delay_Of [.lf (.int .i64 n),.lf (.int .u64 r)] [.lf (.int .u64)] emp (fun x=>pur (x=delayI n r) emp) :=
 tri_0 (call_delay_Of n r) fun w0 S R h=>by
  unfold W_delay_Of delayI
  refine w_ite (fun c=>?_) fun c=>?_
  ·have c:n < 1∨r=18446744073709551615:=by simpa using c
   rw [if_pos c];exact Own.retP rfl h
  have c:¬ (n < 1∨r=18446744073709551615):=by simpa using c
  rw [if_neg c,wu (n:=n) (by omega) (by omega)]
  refine w_call (md_tri n 1000000000 r ⟨by omega,by omega⟩ (U_lit _) hr) h fun x w h=>?_
  obtain ⟨hx,h⟩:=h.purP;rw [hx]
  exact Own.retP rfl h.emp'
theorem U_delay {n r:Int} (hn:n < 9223372036854775808) (hr:U r):U (delayI n r):=by
 unfold delayI
 split
 ·exact U_lit 0
 ·rename_i c
  have h:=U_md (a:=n) (b:=1000000000) (c:=r) ⟨by omega,by omega⟩ (U_lit _) hr
  split
  ·exact U_lit _
  ·exact h
theorem U_less {a b:Int} (ha:U a) (hb:U b):U (lessI a b):=by unfold lessI U at *;(repeat' split)<;>omega
theorem less_tri (a b:Int) (ha:U a) (hb:U b):Tri Tryz.prog N_delay_Lesser [.lf (.int .u64 a),.lf (.int .u64 b)] [.lf (.int .u64)] emp (fun x=>pur (x=lessI a b) emp) :=
 tri_0 (call_delay_Lesser a b) fun w0 S R h=>by
  unfold W_delay_Lesser
  have e1:IntKind.i64.wrap ((0:Int)+1)=1:=rfl
  have e2:IntKind.i64.wrap ((1:Int)+1)=2:=rfl
  obtain ⟨a',ha'⟩:∃ a',a'=if a=0 then 18446744073709551615 else a:=⟨_,rfl⟩
  refine w_loop (fun _:Int × Int=>emp) (fun y:Int × Int=>y=(18446744073709551615,0)∨y=(a',1)∨y=(lessI a b,2)) (fun y:Int × Int=>(2 - y.2).toNat) h (.inl rfl) ?_
  rintro (y:Int × Int) w hy h
  rcases hy with rfl | rfl | rfl
  ·refine w_ite (fun _=>?_) fun c=>(by cases c)
   refine ⟨by decide,(a:Int),rfl,?_⟩
   dsimp only
   rw [e1]
   refine w_ite (fun c=>?_) fun c=>?_
   ·have c:a=0:=by simpa using c
    rw [if_pos c] at ha'
    exact ⟨⟨.inr (.inl (by rw [ha'])),h⟩,by show (2 - (1:Int)).toNat < (2 - (0:Int)).toNat;omega⟩
   ·have c:¬ a=0:=by simpa using c
    rw [if_neg c] at ha'
    refine ⟨⟨.inr (.inl ?_),h⟩,by show (2 - (1:Int)).toNat < (2 - (0:Int)).toNat;omega⟩
    unfold U at ha
    rw [ha']
    refine Prod.ext ?_ rfl
    show (if a < _ then a else _)=a
    split<;>omega
  ·refine w_ite (fun _=>?_) fun c=>(by cases c)
   refine ⟨⟨by show (0:Int)≤1;decide,by show (1:Int) < 2;decide⟩,(b:Int),rfl,?_⟩
   dsimp only
   rw [e2]
   unfold U at ha hb
   refine w_ite (fun c=>?_) fun c=>?_
   ·have c:b=0:=by simpa using c
    refine ⟨⟨.inr (.inr ?_),h⟩,by show (2 - (2:Int)).toNat < (2 - (1:Int)).toNat;omega⟩
    refine Prod.ext ?_ rfl
    show a'=lessI a b
    unfold lessI
    rw [← ha',if_pos c]
    have:a'≤18446744073709551615:=by rw [ha'];split<;>omega
    split<;>omega
   ·have c:¬ b=0:=by simpa using c
    refine ⟨⟨.inr (.inr ?_),h⟩,by show (2 - (2:Int)).toNat < (2 - (1:Int)).toNat;omega⟩
    refine Prod.ext ?_ rfl
    show (if b < a' then b else a')=lessI a b
    unfold lessI
    rw [← ha',if_neg c]
  ·refine w_ite (fun c=>(by cases c)) fun _=>?_
   exact Own.retP rfl h
theorem within_tri (v lo hi:Int):Tri Tryz.prog N_fq_within [.lf (.int .i64 v),.lf (.int .i64 lo),.lf (.int .i64 hi)] [.lf .bool] emp (fun r=>pur (r=decide (lo≤v∧v≤hi)) emp) :=
 tri_0 (call_fq_within v lo hi) fun w0 S R h=>by
  unfold W_fq_within
  refine Own.retP ?_ h
  rw [Bool.eq_iff_iff];simp
theorem may_tri (c:Cf):Tri Tryz.prog N_fq_May [.agg (Ks.mk KC c)] [.lf .bool] emp (fun r=>pur (r=may c) emp) :=
 tri_0 (call_fq_May c) fun w0 S R h=>by
  unfold W_fq_May may
  refine w_new h fun n1 w h=>w_ld h rfl (w_call (within_tri _ _ _) h fun r w h=>?_)
  obtain ⟨hr,h⟩:=h.purP;rw [hr]
  refine w_ite (fun c1=>?_) fun c1=>?_
  case _ =>
   refine w_ld h rfl (w_call (within_tri _ _ _) h fun r w h=>?_)
   obtain ⟨hr,h⟩:=h.purP;rw [hr]
   refine w_ite (fun c2=>?_) fun c2=>?_
   case _ =>
    refine w_ld h rfl (w_call (within_tri _ _ _) h fun r w h=>?_)
    obtain ⟨hr,h⟩:=h.purP;rw [hr]
    refine w_ite (fun c3=>?_) fun c3=>?_
    case _ =>
     refine w_ld h rfl (w_call (within_tri _ _ _) h fun r w h=>?_)
     obtain ⟨hr,h⟩:=h.purP;rw [hr]
     refine w_ite (fun c4=>?_) fun c4=>?_
     case _ =>
      refine w_ld h rfl (w_ite (fun c5=>?_) fun c5=>?_)
      case _ =>
       refine w_ld h rfl (w_call (within_tri _ _ _) h fun r w h=>?_)
       obtain ⟨hr,h⟩:=h.purP;rw [hr]
       refine w_ite (fun c6=>?_) fun c6=>?_
       case _ =>
        refine w_ld h rfl (w_call (within_tri _ _ _) h fun r w h=>?_)
        obtain ⟨hr,h⟩:=h.purP;rw [hr]
        refine Own.retP ?_ h.emp'
        rw [c1,c2,c3,c4,c5,c6];rfl
       case _=>exact Own.retP (by rw [c1,c2,c3,c4,c5,c6];rfl) h.emp'
      case _=>exact Own.retP (by rw [c1,c2,c3,c4,c5];rfl) h.emp'
     case _=>exact Own.retP (by rw [c1,c2,c3,c4];rfl) h.emp'
    case _=>exact Own.retP (by rw [c1,c2,c3];rfl) h.emp'
   case _=>exact Own.retP (by rw [c1,c2];rfl) h.emp'
  case _=>exact Own.retP (by rw [c1];rfl) h.emp'
theorem nil' {w0 w:World} {S0 R0:Nat→Prop} {F:SP} (h:Own w0 S0 R0 w F) (s:Sl) (K:Ks) (hl:s.len=0) (hc:s.cap=0):Own w0 S0 R0 w (arr s K []^F):=by
 have h:=h.le ((star_emp F).trans (star_comm _ _))
 obtain ⟨S,R,_,_,h2⟩:=h.part
 exact h2 w (arr s K []) (fun _=>False) (fun _=>False) (Ext.refl _ _) ⟨⟨.inl ⟨hl,hc,rfl⟩,hl⟩,fun k=>⟨fun h=>h.elim,fun ⟨q,_,_,hq⟩=>absurd hc hq⟩,fun _ h=>h⟩ (fun _ h=>h.elim) (fun _ h=>h.elim)
theorem clone_tri (s:Sl) (xs:List Sg) (hl:xs.length≤4294967296):Tri Tryz.prog N_slices_Clone_sapiSegapiSeg [.lf (.sl s)] [.lf .sl] (emp^rarr s KS xs) (fun r=>arr r KS xs) :=
 tri_0 (call_slices_Clone_sapiSegapiSeg s) fun w0 S R h=>by
  unfold W_slices_Clone_sapiSegapiSeg
  have h:Own w0 S R w0 (rarr s KS xs^emp):=h.fin
  have hs:=(h.rd (s:=s)).2
  have hn:=(h.rd (s:=s)).1.2.1
  refine w_ite (fun c=>?_) fun _=>?_
  ·have hp:s.p=none:=by
    simp only [Sl.isNil,Bool.and_eq_true,Option.isNone_iff_eq_none] at c
    exact c.1
   have hx:xs=[]:=List.eq_nil_of_length_eq_zero (by rw [← hs];exact hn hp)
   rw [hx]
   exact (h.nil KS).keep
  ·refine w_new h fun n1 w h=>?_
   have h:=nil' h ⟨some ⟨n1,0⟩,0,0⟩ KS rfl rfl
   refine w_app (s:=⟨some ⟨n1,0⟩,0,0⟩) (x:=s) h rfl (by simpa using hl) fun s2 w _ h=>?_
   exact h.keep
def bigS (f:Nat→SP):Nat→SP
 | 0=>emp
 | n+1=>f n^bigS f n
def but (f:Nat→SP) (i:Nat):Nat→SP:=fun j=>if j=i then emp else f j
theorem bigS_congr {f g:Nat→SP}:∀ n,(∀ j,j < n→f j=g j)→bigS f n=bigS g n
 | 0,_=>rfl
 | n+1,h=>by rw [bigS,bigS,h n (by omega),bigS_congr n fun j hj=>h j (by omega)]
theorem emp_star (p:SP):Le (emp^p) p:=by
 rintro w S R ⟨S1,R1,S2,R2,h1,h2,hS,hR,_⟩
 have e1:S=S2:=funext fun k=>propext ((hS k).trans ⟨fun h=>h.elim (fun h=>absurd h (h1.1 k)) id,.inr⟩)
 have e2:R=R2:=funext fun k=>propext ((hR k).trans ⟨fun h=>h.elim (fun h=>absurd h (h1.2 k)) id,.inr⟩)
 rw [e1,e2];exact h2
theorem big_out (f:Nat→SP):∀ {n i:Nat},i < n→Le (bigS f n) (f i^bigS (but f i) n)
 | n+1,i,h=>by
  by_cases e:i=n
  ·subst e
   have e1:bigS (but f i) (i+1)=emp^bigS f i:=by
    rw [bigS,bigS_congr (f:=but f i) (g:=f) i fun j hj=>by simp [but,show j≠i by omega]]
    simp [but]
   rw [e1]
   exact star_mono Le.rfl ((star_emp _).trans (star_comm _ _))
  ·have:=big_out f (n:=n) (i:=i) (by omega)
   have e1:bigS (but f i) (n+1)=f n^bigS (but f i) n:=by rw [bigS];simp [but,Ne.symm e]
   rw [e1]
   exact (star_mono Le.rfl this).trans (star_swap _ _ _)
theorem big_in (f:Nat→SP):∀ {n i:Nat},i < n→Le (f i^bigS (but f i) n) (bigS f n)
 | n+1,i,h=>by
  by_cases e:i=n
  ·subst e
   have e1:bigS (but f i) (i+1)=emp^bigS f i:=by
    rw [bigS,bigS_congr (f:=but f i) (g:=f) i fun j hj=>by simp [but,show j≠i by omega]]
    simp [but]
   rw [e1]
   exact star_mono Le.rfl (emp_star _)
  ·have:=big_in f (n:=n) (i:=i) (by omega)
   have e1:bigS (but f i) (n+1)=f n^bigS (but f i) n:=by rw [bigS];simp [but,Ne.symm e]
   rw [e1]
   exact (star_swap _ _ _).trans (star_mono Le.rfl this)
abbrev qL (c:Cf) (p:Nat→Option Pt) (l w:Nat) (n:Int):List Lf:=[.int .i64 (cQ c),.int .i64 (cF c),.int .i64 (cL c),.int .i64 (cW c),.int .u64 (cH c),.int .u64 (cR c),.bool (cD c),.int .i64 (cCap c),.int .i64 (cMss c),.ptr (p 0),.ptr (p 1),.ptr (p 2),.ptr (p 3),.ptr (p 4),.ptr (p 5),.ptr (p 6),.ptr (p 7),.ptr (some ⟨l,0⟩),.ptr (some ⟨w,0⟩),.int .i64 n]
theorem qL_at (c:Cf) (p:Nat→Option Pt) (l w:Nat) (n:Int) (i:Nat) (hi:i < 8):Ks.un [.ptr] (((qL c p l w n).drop (0+9+i * 1)).take 1)=some (p i):=by
 have:i=0∨i=1∨i=2∨i=3∨i=4∨i=5∨i=6∨i=7:=by omega
 rcases this with rfl | rfl | rfl | rfl | rfl | rfl | rfl | rfl<;>rfl
def upP (p:Nat→Option Pt) (i:Nat) (x:Option Pt):Nat→Option Pt:=fun j=>if j=i then x else p j
theorem upP_same (p:Nat→Option Pt) (i:Nat) (x:Option Pt):upP p i x i=x:=by simp [upP]
theorem upP_ne (p:Nat→Option Pt) {i j:Nat} (x:Option Pt) (h:j≠i):upP p i x j=p j:=by simp [upP,h]
theorem qL_up (c:Cf) (p:Nat→Option Pt) (l w:Nat) (n:Int) (i:Nat) (hi:i < 8) (x:Option Pt):upd (qL c p l w n) (0+9+i * 1) [.ptr x]=qL c (upP p i x) l w n:=by
 have:i=0∨i=1∨i=2∨i=3∨i=4∨i=5∨i=6∨i=7:=by omega
 rcases this with rfl | rfl | rfl | rfl | rfl | rfl | rfl | rfl<;>rfl
def flow (a:Nat) (f:Fl):SP:=ex fun s:Sl=>blk a [.int .i64 f.cr,.int .u64 f.nx,.int .u64 f.si,.sl s]^arr s KS f.sg
instance (a:Nat) (f:Fl):NoR (flow a f):=by unfold flow;infer_instance
def flowP (p:Option Pt) (x:Option Fl):SP:=match x with
 | none=>pur (p=none) emp
 | some f=>ex fun a:Nat=>pur (p=some ⟨a,0⟩) (flow a f)
instance (p:Option Pt) (x:Option Fl):NoR (flowP p x):=by unfold flowP;split<;>infer_instance
theorem bigNoR (f:Nat→SP) (h:∀ j,NoR (f j)):∀ n,NoR (bigS f n)
 | 0=>by unfold bigS;infer_instance
 | n+1=>by have:=bigNoR f h n;unfold bigS;infer_instance
instance (f:Nat→SP) [h:∀ j,NoR (f j)] (n:Nat):NoR (bigS f n):=bigNoR f h n
abbrev fls (p:Nat→Option Pt) (fl:Nat→Option Fl):Nat→SP:=fun j=>flowP (p j) (fl j)
abbrev All8 (p:Nat→Option Pt) (fl:Nat→Option Fl):SP:=bigS (fls p fl) 8
abbrev But8 (p:Nat→Option Pt) (fl:Nat→Option Fl) (i:Nat):SP:=bigS (but (fls p fl) i) 8
def que (b:Nat) (v:Qm):SP:=ex fun x:(Nat→Option Pt) × Nat × Nat=>blk b (qL v.c x.1 x.2.1 x.2.2 v.n)^lst x.2.1 v.lv^tree 8 x.2.2 v.ks^All8 x.1 v.fl
instance (b:Nat) (v:Qm):NoR (que b v):=by unfold que;infer_instance
section
variable {w0 w : World} {S0 R0 : Nat → Prop} {F G : SP}
theorem _root_.Go.X.Own.flow (h:Own w0 S0 R0 w F) (a:Nat) {f:Fl} [tk:TakeK FqC.flow a F f G]:∃ s:Sl,Own w0 S0 R0 w (blk a [.int .i64 f.cr,.int .u64 f.nx,.int .u64 f.si,.sl s]^arr s KS f.sg^G):=by
 obtain ⟨s,h⟩:=(h.le tk.le).exP
 exact ⟨s,h.fin⟩
theorem _root_.Go.X.Own.mkFlow (h:Own w0 S0 R0 w F) (a:Nat) (s:Sl) (f:Fl) [tk:Take (blk a [.int .i64 f.cr,.int .u64 f.nx,.int .u64 f.si,.sl s]^arr s KS f.sg) F G]:Own w0 S0 R0 w (FqC.flow a f^G) :=
 Own.toEx (f:=fun s:Sl=>blk a [.int .i64 f.cr,.int .u64 f.nx,.int .u64 f.si,.sl s]^arr s KS f.sg) s (h.le tk.le)
theorem _root_.Go.X.Own.mkFl (h:Own w0 S0 R0 w F) (a:Nat) (s:Sl) (cr nx si:Int) (sg:List Sg) (f:Fl) (hf:f=⟨cr,nx,si,sg⟩) [tk:Take (blk a [.int .i64 cr,.int .u64 nx,.int .u64 si,.sl s]^arr s KS sg) F G]:Own w0 S0 R0 w (FqC.flow a f^G):=by
 rw [hf]
 exact h.mkFlow a s ⟨cr,nx,si,sg⟩ (tk:=tk)
theorem _root_.Go.X.Own.que (h:Own w0 S0 R0 w F) (b:Nat) {v:Qm} [tk:TakeK FqC.que b F v G]:∃ (p:Nat→Option Pt) (l t:Nat),Own w0 S0 R0 w (blk b (qL v.c p l t v.n)^lst l v.lv^tree 8 t v.ks^All8 p v.fl^G):=by
 obtain ⟨s,h⟩:=(h.le tk.le).exP
 exact ⟨s.1,s.2.1,s.2.2,h.fin⟩
theorem _root_.Go.X.Own.mkQue (h:Own w0 S0 R0 w F) (b:Nat) (p:Nat→Option Pt) (l t:Nat) (v:Qm) [tk:Take (blk b (qL v.c p l t v.n)^lst l v.lv^tree 8 t v.ks^All8 p v.fl) F G]:Own w0 S0 R0 w (FqC.que b v^G) :=
 Own.toEx (f:=fun x:(Nat→Option Pt) × Nat × Nat=>blk b (qL v.c x.1 x.2.1 x.2.2 v.n)^lst x.2.1 v.lv^tree 8 x.2.2 v.ks^All8 x.1 v.fl) (p,l,t) (h.le tk.le)
theorem _root_.Go.X.Own.outF (h:Own w0 S0 R0 w F) (p:Nat→Option Pt) (fl:Nat→Option Fl) {i:Nat} (hi:i < 8) {f:Fl} (hf:fl i=some f) [tk:Take (All8 p fl) F G]:∃ a,p i=some ⟨a,0⟩∧Own w0 S0 R0 w (FqC.flow a f^But8 p fl i^G):=by
 have h:Own w0 S0 R0 w ((flowP (p i) (fl i)^But8 p fl i)^G):=(h.le tk.le).le (star_mono (big_out _ hi) Le.rfl)
 have h:=h.le (star_assoc _ _ _)
 rw [hf] at h
 obtain ⟨a,h⟩:=Own.exP (f:=fun a:Nat=>pur (p i=some ⟨a,0⟩) (FqC.flow a f)) h
 obtain ⟨hp,h⟩:=h.purP
 exact ⟨a,hp,h⟩
theorem _root_.Go.X.Own.noF (h:Own w0 S0 R0 w F) (p:Nat→Option Pt) (fl:Nat→Option Fl) {i:Nat} (hi:i < 8) (hf:fl i=none) [tk:Take (All8 p fl) F G]:p i=none∧Own w0 S0 R0 w (But8 p fl i^G):=by
 have h:Own w0 S0 R0 w ((flowP (p i) (fl i)^But8 p fl i)^G):=(h.le tk.le).le (star_mono (big_out _ hi) Le.rfl)
 have h:=h.le (star_assoc _ _ _)
 rw [hf] at h
 obtain ⟨hp,h⟩:=Own.purP (p:=p i=none) (A:=emp) h
 exact ⟨hp,h.drop⟩
theorem but_eq (p q:Nat→Option Pt) (fl gl:Nat→Option Fl) (i:Nat) (hp:∀ j,j≠i→q j=p j) (hf:∀ j,j≠i→gl j=fl j):But8 q gl i=But8 p fl i:=bigS_congr 8 fun j _=>by
 unfold but
 split
 ·rfl
 ·rename_i e;show flowP _ _=flowP _ _;rw [hp j e,hf j e]
theorem _root_.Go.X.Own.inF (h:Own w0 S0 R0 w F) (p:Nat→Option Pt) (fl:Nat→Option Fl) {i:Nat} (hi:i < 8) (q:Nat→Option Pt) (gl:Nat→Option Fl) (a:Nat) (f:Fl) (hp:∀ j,j≠i→q j=p j) (hf:∀ j,j≠i→gl j=fl j) (hq:q i=some ⟨a,0⟩) (hg:gl i=some f) [tk:Take (FqC.flow a f^But8 p fl i) F G]:Own w0 S0 R0 w (All8 q gl^G):=by
 have h:=(h.le tk.le).le (star_assoc _ _ _)
 have h:Own w0 S0 R0 w (flowP (q i) (gl i)^But8 p fl i^G):=by
  rw [hg]
  exact Own.toEx (f:=fun a:Nat=>pur (q i=some ⟨a,0⟩) (FqC.flow a f)) a (Own.toPur hq h)
 rw [← but_eq p q fl gl i hp hf] at h
 exact (h.le (star_assoc' _ _ _)).le (star_mono (big_in (fls q gl) hi) Le.rfl)
theorem _root_.Go.X.Own.inN (h:Own w0 S0 R0 w F) (p:Nat→Option Pt) (fl:Nat→Option Fl) {i:Nat} (hi:i < 8) (q:Nat→Option Pt) (gl:Nat→Option Fl) (hp:∀ j,j≠i→q j=p j) (hf:∀ j,j≠i→gl j=fl j) (hq:q i=none) (hg:gl i=none) [tk:Take (But8 p fl i) F G]:Own w0 S0 R0 w (All8 q gl^G):=by
 have h:=(h.le tk.le)
 have h:Own w0 S0 R0 w (flowP (q i) (gl i)^But8 p fl i^G):=by
  rw [hg]
  exact Own.toPur (p:=q i=none) (A:=emp) hq (h.le ((star_emp _).trans (star_comm _ _)))
 rw [← but_eq p q fl gl i hp hf] at h
 exact (h.le (star_assoc' _ _ _)).le (star_mono (big_in (fls q gl) hi) Le.rfl)
theorem isN (h:Own w0 S0 R0 w F) (p:Nat→Option Pt) (fl:Nat→Option Fl) {i:Nat} (hi:i < 8) [tk:Take (All8 p fl) F G]:(p i).isNone=(fl i).isNone:=by
 cases hf:fl i with
 | none=>rw [(h.noF p fl hi hf).1];rfl
 | some f=>obtain ⟨a,ha,_⟩:=h.outF p fl hi hf;rw [ha];rfl
end
end FqC

end Go.X
