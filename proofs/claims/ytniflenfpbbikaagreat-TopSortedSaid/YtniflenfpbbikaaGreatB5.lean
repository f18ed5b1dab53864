/- Contracts and plain facts: Board Target BbrP BbrW BbrQ. -/
import Derived.Test.YtniflenfpbbikaaGreatB0
import Derived.Test.YtniflenfpbbikaaGreatB1
import Derived.Test.YtniflenfpbbikaaGreatK
import Derived.Test.YtniflenfpbbikaaGreatF0
import Derived.Test.YtniflenfpbbikaaGreatF1
import Derived.Test.YtniflenfpbbikaaGreatF2
set_option linter.unusedVariables false
set_option linter.unusedSimpArgs false
set_option linter.unusedSectionVars false
namespace Go.X
open Go.Proofs
namespace Board
abbrev Pc:=Ks.T K_u6b3
def brd (b:Nat) (v:List Pc × Int):SP:=ex fun s=>blk b [.sl s,.int .u64 v.2]^arr s K_u6b3 v.1
abbrev Snt:=Ks.T K_u4b
def mkPc (f t:Int) (s:Snt):Pc:=(f,t,s.1,s.2.1,s.2.2.1,s.2.2.2.1,s.2.2.2.2,false,false)
def sentF (v:List Pc × Int) (f t:Int) (s:Snt):Int × (List Pc × Int) :=
 if f≠v.2∨t≤f then (1,v) else if 4096≤v.1.length then (5,v) else (0,(v.1++[mkPc f t s],t))
instance (b:Nat) (v:List Pc × Int):NoR (brd b v):=by unfold brd;infer_instance
theorem _root_.Go.X.Own.brd {w0 w:World} {S0 R0:Nat→Prop} {F G:SP} {v:List Pc × Int} (h:Own w0 S0 R0 w F) (b:Nat) [t:TakeK Board.brd b F v G]:∃ s,Own w0 S0 R0 w (blk b [.sl s,.int .u64 v.2]^arr s K_u6b3 v.1^G):=by
 obtain ⟨s,h⟩:=(h.le t.le).exP
 exact ⟨s,h.le (star_assoc _ _ _)⟩
theorem _root_.Go.X.Own.mkBrd {w0 w:World} {S0 R0:Nat→Prop} {F G:SP} (h:Own w0 S0 R0 w F) (b:Nat) (s:Sl) (l:List Pc) (e:Int) [t:Take (blk b [.sl s,.int .u64 e]^arr s K_u6b3 l) F G]:Own w0 S0 R0 w (Board.brd b (l,e)^G) :=
 (h.le t.le).toEx (f:=fun s=>blk b [.sl s,.int .u64 e]^arr s K_u6b3 l) s
theorem new_tri:Tri Tryz.prog N_board_New [] [.lf .ptr] emp (fun r=>ex fun b=>pur (r=some ⟨b,0⟩) (brd b ([],0))) :=
 tri_0 call_board_New fun w S R h=>by
  unfold W_board_New
  refine w_new h fun n1 w h=>?_
  exact Own.retE n1 (Own.retP rfl ((h.nil K_u6b3).mkBrd n1 ⟨none,0,0⟩ [] 0).keep)
theorem sent_tri (b:Nat) (f t:Int) (s:Snt) (v:List Pc × Int) :
  Tri Tryz.prog N_board_Board_Sent [.lf (.ptr (some ⟨b,0⟩)),.lf (.int .u64 f),.lf (.int .u64 t),.agg (Ks.mk K_u4b s)] [.lf (.int .i64)] (brd b v)
   (fun r=>pur (r=(sentF v f t s).1) (brd b (sentF v f t s).2)) :=
 tri_0 (call_board_Board_Sent _ _ _ _) fun w S R h=>by
  unfold W_board_Board_Sent
  refine w_new h fun n1 w h=>?_
  refine w_ite (by simp) fun _=>?_
  obtain ⟨sl,h⟩:=h.brd b
  have hlen:=(h.rd (s:=sl)).2
  refine w_deref (w_ld h rfl ?_)
  refine w_ite (fun hc=>?_) fun hc=>?_
  ·have e1:sentF v f t s=(1,v):=by simp at hc;simp [sentF,hc]
   rw [e1]
   exact Own.retP rfl (h.mkBrd b sl v.1 v.2).keep
  ·refine w_deref (w_ld h rfl ?_)
   refine w_ite (fun hc2=>?_) fun hc2=>?_
   ·have e1:sentF v f t s=(5,v):=by
     simp at hc hc2
     rw [sentF,if_neg (by omega),if_pos (by omega)]
    rw [e1]
    exact Own.retP rfl (h.mkBrd b sl v.1 v.2).keep
   ·have e1:sentF v f t s=(0,(v.1++[mkPc f t s],t)):=by
     simp at hc hc2
     rw [sentF,if_neg (by omega),if_neg (by omega)]
    rw [e1]
    refine w_drw h fun w h=>?_
    refine w_ld h rfl ?_
    refine w_deref (w_ld h rfl ?_)
    refine w_new h fun n9 w h=>?_
    refine w_chk h rfl ?_
    have h:=h.blkArr n9 K_u6b3 [mkPc f t s] rfl (by simp)
    refine w_app h rfl (by simp at hc2 ⊢;omega) fun s10 w hl h=>?_
    refine w_deref (w_set h rfl fun w h=>?_)
    dsimp only [upd,over] at h
    refine w_deref (w_set h rfl fun w h=>?_)
    dsimp only [upd,over] at h
    exact Own.retP rfl (h.mkBrd b s10 (v.1++[mkPc f t s]) t).keep
theorem rg_index_tri (s:Sl) (f:Fv) (C:SP) (xs:List (Ks.T KR)) (p:Ks.T KR→Bool) (hl:xs.length≤4294967296) (hf:∀ x∈xs,TriV Tryz.prog f [.agg (Ks.mk KR x)] [.lf .bool] C (fun r=>pur (r=p x) C)) :
  Tri Tryz.prog N_slices_IndexFunc_sapiRangeapiRange [.lf (.sl s),.lf (.fn f)] [.lf (.int .i64)] (C^rarr s KR xs) (fun r=>pur (r=fI p xs) C) :=
 tri_0 (call_slices_IndexFunc_sapiRangeapiRange _ _) fun w S R h=>by
  unfold W_slices_IndexFunc_sapiRangeapiRange
  have hsl:=(h.rd (s:=s)).2
  refine w_loop (fun _=>C^rarr s KR xs) (fun (y:Int)=>0≤y∧y.toNat≤xs.length∧∀ j y',j < y.toNat→xs[j]?=some y'→p y'=false) (fun (y:Int)=>xs.length - y.toNat) h ⟨Int.le_refl 0,by simp,fun j _ hj=>by simp at hj⟩ ?_
  rintro (y:Int) w ⟨h0,h1,h2⟩ h
  refine w_ite (fun c=>?_) fun c=>?_
  ·have hy:y.toNat < xs.length:=by simp at c;omega
   refine w_idx h h0 hy ?_
   refine w_ldA h s y.toNat 0 _ (at_some hy) rfl (by decide) (un_mk (ks:=KR)) ?_
   refine w_callv (hf _ (List.getElem_mem hy)) h fun r w h=>?_
   obtain ⟨hr,h⟩:=h.purP
   have hw:IntKind.i64.wrap (y+1)=y+1:=wi (by omega) (by omega)
   refine w_ite (fun c=>?_) fun c=>?_
   ·refine Own.retP ?_ h.fin
    rw [fI_at (at_some hy) (by rw [← hr];exact c) h2];exact (Int.toNat_of_nonneg h0).symm
   ·rw [hw]
    refine ⟨⟨⟨(by show (0:Int)≤y+1;omega),(by show (y+1).toNat≤_;omega),fun j y' hj hy'=>?_⟩,h⟩,(by show _ - (y+1).toNat < _;omega)⟩
    have hj:j < (y+1).toNat:=hj
    by_cases hjy:j=y.toNat
    ·subst hjy
     rw [at_some hy] at hy'
     cases hy'
     rw [← hr];exact c
    ·exact h2 j y' (by omega) hy'
  ·refine Own.retP ?_ h.fin
   rw [fI_none]
   intro x hx
   obtain ⟨j,hj,rfl⟩:=List.mem_iff_getElem.1 hx
   refine h2 j _ ?_ (at_some hj)
   simp at c;omega
theorem rg_contains_tri (s:Sl) (f:Fv) (C:SP) (xs:List (Ks.T KR)) (p:Ks.T KR→Bool) (hl:xs.length≤4294967296) (hf:∀ x∈xs,TriV Tryz.prog f [.agg (Ks.mk KR x)] [.lf .bool] C (fun r=>pur (r=p x) C)) :
  Tri Tryz.prog N_slices_ContainsFunc_sapiRangeapiRange [.lf (.sl s),.lf (.fn f)] [.lf .bool] (C^rarr s KR xs) (fun r=>pur (r=xs.any p) C) :=
 tri_0 (call_slices_ContainsFunc_sapiRangeapiRange _ _) fun w S R h=>by
  unfold W_slices_ContainsFunc_sapiRangeapiRange
  refine w_call (rg_index_tri s f C xs p hl hf) h fun r w h=>?_
  obtain ⟨hr,h⟩:=h.purP
  rw [hr]
  exact Own.retP (fI_any p xs) h.keep
def mkAll (n:Nat):Fv:=.mk (.func N_board_Board_All_c1) [] [V1.enc (.lf (.ptr (some ⟨n,0⟩)))]
theorem all_tri (b:Nat):Tri Tryz.prog N_board_Board_All [.lf (.ptr (some ⟨b,0⟩))] [.lf .fn] emp (fun f=>ex fun n=>pur (f=mkAll n) (blk n [.ptr (some ⟨b,0⟩)])) :=
 tri_0 (call_board_Board_All _) fun w S R h=>by
  unfold W_board_Board_All
  refine w_new h fun n1 w h=>?_
  exact Own.retE n1 (Own.retP rfl h.keep)
theorem all_iter (n b:Nat) (v:List Pc × Int) (hl:v.1.length≤4294967296):Iter Tryz.prog (mkAll n) (blk n [.ptr (some ⟨b,0⟩)]^brd b v) [.agg K_u6b3] v.1:=by
 intro y I D hy
 refine Tri.g (f:=N_board_Board_All_c1) (args:=[.lf (.fn y)]) (caps:=[.lf (.ptr (some ⟨n,0⟩))]) (tri_0 (call_board_Board_All_c1 y ⟨n,0⟩) fun w S R h=>?_)
 unfold W_board_Board_All_c1
 refine w_ld h rfl ?_
 refine w_ite (fun c=>(by cases c)) fun c=>?_
 refine w_ld h rfl ?_
 obtain ⟨s,h⟩:=h.brd b
 have hs:=(h.rd (s:=s)).2
 refine w_deref (w_ld h rfl ?_)
 have h:Own _ _ _ _ (blk b [.sl s,.int .u64 v.2]^arr s K_u6b3 v.1^blk n [.ptr (some ⟨b,0⟩)]^I 0):=h.fin
 refine w_loop (fun (y:Int)=>blk b [.sl s,.int .u64 v.2]^arr s K_u6b3 v.1^blk n [.ptr (some ⟨b,0⟩)]^I y.toNat) (fun (y:Int)=>0≤y∧y.toNat≤v.1.length) (fun (y:Int)=>v.1.length - y.toNat) h ⟨Int.le_refl 0,by simp⟩ ?_
 rintro (i:Int) w ⟨h0,h1⟩ h
 refine w_ite (fun c=>?_) fun c=>?_
 ·have hi:i.toNat < v.1.length:=by simp at c;omega
  refine w_idx h h0 hi ?_
  refine w_ldE h s i.toNat (at_some hi) rfl ?_
  refine w_new h fun n9 w h=>?_
  refine w_setAll h (by rfl) fun w h=>?_
  refine w_ldAll h rfl ?_
  refine w_callv (hy i.toNat _ (at_some hi)) h fun r w h=>?_
  refine w_ite (fun c=>?_) fun c=>?_
  ·have hr:r=false:=by simpa using c
   rw [hr] at h
   have h:Own _ _ _ _ (D^_):=h
   have h:=(h.eitherR (I v.1.length)).mkBrd b s v.1 v.2
   exact h.fin
  ·have hr:r=true:=by simpa using c
   rw [hr] at h
   have h:Own _ _ _ _ (I (i.toNat+1)^_):=h
   rw [wi (by omega) (by omega)]
   have e:(i+1).toNat=i.toNat+1:=by omega
   refine ⟨⟨⟨(by show (0:Int)≤i+1;omega),(by show (i+1).toNat≤_;omega)⟩,?_⟩,(by show _ - (i+1).toNat < _;omega)⟩
   show Own _ _ _ _ (blk b [.sl s,.int .u64 v.2]^arr s K_u6b3 v.1^blk n [.ptr (some ⟨b,0⟩)]^I (i+1).toNat)
   rw [e]
   exact h.fin
 ·have hi:i.toNat=v.1.length:=by simp at c;omega
  rw [hi] at h
  have h:=h.take (I v.1.length)
  have h:=(h.eitherL D).mkBrd b s v.1 v.2
  exact h.fin
abbrev pFrom (p:Pc):Int:=p.1
abbrev pTo (p:Pc):Int:=p.2.1
abbrev pSk (p:Pc):Bool:=p.2.2.2.2.2.2.2.1
abbrev pLo (p:Pc):Bool:=p.2.2.2.2.2.2.2.2
def flyP (p:Pc):Bool:=!pSk p && !pLo p
theorem flying_tri (p:Pc):Tri Tryz.prog N_board_flying [.agg (Ks.mk K_u6b3 p)] [.lf .bool] emp (fun r=>pur (r=flyP p) emp) :=
 tri_0 (call_board_flying p) fun w S R h=>by
  unfold W_board_flying
  refine w_new h fun n1 w h=>?_
  refine w_ld h rfl ?_
  refine w_ite (fun c=>?_) fun c=>?_
  ·refine w_ld h rfl ?_
   refine Own.retP ?_ h.fin
   show (!pLo p)=flyP p
   have c:(!pSk p)=true:=c
   simp [flyP,c]
  ·refine Own.retP ?_ h.fin
   have c:(!pSk p)=false:=c
   simp [flyP,c]
def addF (n:Int) (p:Pc):Int:=if flyP p then IntKind.u64.wrap (n+IntKind.u64.wrap (pTo p - pFrom p)) else n
def flightF (l:List Pc):Int:=l.foldl addF 0
theorem flight_take {l:List Pc} {i:Nat} {x:Pc} (h:l[i]?=some x):flightF (l.take (i+1))=addF (flightF (l.take i)) x:=by
 rw [List.take_add_one,h];simp [flightF]
theorem flight_tri (b:Nat) (v:List Pc × Int) (hl:v.1.length≤4294967296):Tri Tryz.prog N_board_Board_Flight [.lf (.ptr (some ⟨b,0⟩))] [.lf (.int .u64)] (brd b v) (fun r=>pur (r=flightF v.1) (brd b v)) :=
 tri_n (W:=fun n R=>W_board_Board_Flight n (some ⟨b,0⟩) R) (call_board_Board_Flight _) fun w S R h=>by
  unfold W_board_Board_Flight
  refine w_new h fun n1 w h=>?_
  refine w_set h rfl fun w h=>?_
  dsimp only [upd,over] at h
  refine w_call (all_tri b) (h.le (star_emp _)) fun f w h=>?_
  obtain ⟨n,h⟩:=h.exP
  obtain ⟨hf,h⟩:=h.purP
  rw [hf]
  have h:=h.take (blk n1 [.int .u64 0])
  have h:Own _ _ _ _ (blk n1 [.int .u64 (flightF (v.1.take 0))]^_):=h
  refine w_range (all_iter n b v hl) (fun i=>blk n1 [.int .u64 (flightF (v.1.take i))]) (fun _=>pur False emp) h ?_ ?_ ?_
  ·intro i x hx w S R mid next jump rdy bsy hmid hnext hjump h
   refine w_new h fun n7 w h=>?_
   refine w_setAll h (by rfl) fun w h=>?_
   refine hmid h fun w h=>?_
   refine w_ldAll h rfl ?_
   refine w_call (flying_tri x) h fun r w h=>?_
   obtain ⟨hr,h⟩:=h.purP
   refine w_ite (fun c=>?_) fun c=>?_
   ·refine w_ld h rfl ?_
    refine w_ld h rfl ?_
    refine w_ld h rfl ?_
    refine w_set h rfl fun w h=>?_
    dsimp only [upd,over] at h
    have e:flightF (v.1.take (i+1))=IntKind.u64.wrap (flightF (v.1.take i)+IntKind.u64.wrap (pTo x - pFrom x)):=by
     rw [flight_take hx,addF,if_pos (by rw [← hr];exact c)]
    rw [← e] at h
    exact hnext h
   ·have e:flightF (v.1.take (i+1))=flightF (v.1.take i):=by
     rw [flight_take hx,addF,if_neg (by rw [← hr,c];simp)]
    rw [← e] at h
    exact hnext h
  ·intro w h
   have h:=h.take (blk n1 [.int .u64 (flightF (v.1.take v.1.length))])
   refine w_ld h rfl ?_
   refine w_leave h fun w h=>?_
   rw [List.take_length]
   exact Own.retP rfl h.fin
  ·intro j w hj h
   exact (h.take (pur False emp)).purP.1.elim
def outF (e:Int) (r:Int × Int):Bool:=decide (r.2 > e) || decide (r.1 ≥ r.2)
theorem mayc_tri (r:Int × Int) (n b:Nat) (v:List Pc × Int):Tri Tryz.prog N_board_Board_may_c1 [.agg (Ks.mk KR r),.lf (.ptr (some ⟨n,0⟩))] [.lf .bool] (blk n [.ptr (some ⟨b,0⟩)]^brd b v) (fun x=>pur (x=outF v.2 r) (blk n [.ptr (some ⟨b,0⟩)]^brd b v)) :=
 tri_0 (call_board_Board_may_c1 r ⟨n,0⟩) fun w S R h=>by
  unfold W_board_Board_may_c1
  refine w_new h fun n1 w h=>?_
  refine w_drw h fun w h=>?_
  refine w_ld h rfl ?_
  refine w_ld h rfl ?_
  obtain ⟨s,h⟩:=h.brd b
  refine w_deref (w_ld h rfl ?_)
  have h:=h.mkBrd b s v.1 v.2
  refine w_ite (fun c=>?_) fun c=>?_
  ·refine Own.retP ?_ h.fin
   simp at c;simp [outF,c]
  ·refine w_ld h rfl ?_
   refine w_ld h rfl ?_
   refine Own.retP ?_ h.fin
   simp at c;simp [outF];intro;omega
def mayF (v:List Pc × Int) (upto:Int) (xs:List (Int × Int)):Bool:=decide (upto≤v.2) && !xs.any (outF v.2)
theorem may_tri (b:Nat) (v:List Pc × Int) (upto:Int) (s:Sl) (xs:List (Ks.T KR)) (hl:xs.length≤4294967296) :
  Tri Tryz.prog N_board_Board_may [.lf (.ptr (some ⟨b,0⟩)),.lf (.int .u64 upto),.lf (.sl s)] [.lf .bool] (brd b v^rarr s KR xs) (fun x=>pur (x=mayF v upto xs) (brd b v)) :=
 tri_0 (call_board_Board_may _ _ _) fun w S R h=>by
  unfold W_board_Board_may
  refine w_new h fun n1 w h=>?_
  refine w_ld h rfl ?_
  obtain ⟨s',h⟩:=h.brd b
  refine w_deref (w_ld h rfl ?_)
  have h:=h.mkBrd b s' v.1 v.2
  refine w_ite (fun c=>?_) fun c=>?_
  ·refine w_call (rg_contains_tri s _ (blk n1 [.ptr (some ⟨b,0⟩)]^brd b v) xs (outF v.2) hl (fun x _=>(Tri.g (f:=N_board_Board_may_c1) (args:=[.agg (Ks.mk KR x)]) (caps:=[.lf (.ptr (some ⟨n1,0⟩))]) (mayc_tri x n1 b v)).v)) h fun r w h=>?_
   obtain ⟨hr,h⟩:=h.purP
   refine Own.retP ?_ h.fin
   simp at c;simp [mayF,c,hr]
  ·refine Own.retP ?_ h.fin
   simp at c;simp [mayF];intro;omega
def inF (p:Pc) (r:Int × Int):Bool:=decide (r.1≤p.1) && decide (r.2 ≥ p.2.1)
theorem holdsc_tri (r:Int × Int) (n:Nat) (p:Pc):Tri Tryz.prog N_board_holds_c1 [.agg (Ks.mk KR r),.lf (.ptr (some ⟨n,0⟩))] [.lf .bool] (blk n (Ks.mk K_u6b3 p)) (fun x=>pur (x=inF p r) (blk n (Ks.mk K_u6b3 p))) :=
 tri_0 (call_board_holds_c1 r ⟨n,0⟩) fun w S R h=>by
  unfold W_board_holds_c1
  refine w_new h fun n1 w h=>?_
  refine w_ld h rfl ?_
  refine w_ld h rfl ?_
  refine w_ite (fun c=>?_) fun c=>?_
  ·refine w_ld h rfl ?_
   refine w_ld h rfl ?_
   refine Own.retP ?_ h.fin
   simp at c;simp [inF,c]
  ·refine Own.retP ?_ h.fin
   simp at c;simp [inF];intro;omega
theorem holds_tri (p:Pc) (s:Sl) (xs:List (Ks.T KR)) (hl:xs.length≤4294967296) :
  Tri Tryz.prog N_board_holds [.lf (.sl s),.agg (Ks.mk K_u6b3 p)] [.lf .bool] (emp^rarr s KR xs) (fun x=>pur (x=xs.any (inF p)) emp) :=
 tri_0 (call_board_holds _ _) fun w S R h=>by
  unfold W_board_holds
  refine w_new h fun n1 w h=>?_
  refine w_call (rg_contains_tri s _ (blk n1 (Ks.mk K_u6b3 p)) xs (inF p) hl (fun x _=>(Tri.g (f:=N_board_holds_c1) (args:=[.agg (Ks.mk KR x)]) (caps:=[.lf (.ptr (some ⟨n1,0⟩))]) (holdsc_tri x n1 p)).v)) h fun r w h=>?_
  obtain ⟨hr,h⟩:=h.purP
  exact Own.retP hr h.fin
def setLo (p:Pc) (x:Bool):Pc:=(p.1,p.2.1,p.2.2.1,p.2.2.2.1,p.2.2.2.2.1,p.2.2.2.2.2.1,p.2.2.2.2.2.2.1,p.2.2.2.2.2.2.2.1,x)
def abvF (p:Pc) (a:Int):Int:=if pSk p then IntKind.i64.wrap (a+1) else a
def hitF (p:Pc) (a:Int):Bool:=flyP p && decide (abvF p a ≥ 3)
def passF:List Pc→List Pc × Int × Int
 | []=>([],0,0)
 | p :: l=>let r:=passF l
  (if hitF p r.2.2 then setLo p true :: r.1 else p :: r.1,if hitF p r.2.2 then IntKind.u64.wrap (r.2.1+IntKind.u64.wrap (p.2.1 - p.1)) else r.2.1,abvF p r.2.2)
theorem pass_len:∀ l:List Pc,(passF l).1.length=l.length
 | []=>rfl
 | p :: l=>by simp only [passF];split<;>simp [pass_len l]
theorem passed_tri (b:Nat) (v:List Pc × Int) (hl:v.1.length≤4294967296) :
  Tri Tryz.prog N_board_Board_passed [.lf (.ptr (some ⟨b,0⟩))] [.lf (.int .u64)] (brd b v) (fun x=>pur (x=(passF v.1).2.1) (brd b ((passF v.1).1,v.2))) :=
 tri_0 (call_board_Board_passed _) fun w S R h=>by
  unfold W_board_Board_passed
  obtain ⟨s,h⟩:=(h.le (star_emp _)).brd b
  have hs:=(h.rd (s:=s)).2
  refine w_deref (w_ld h rfl ?_)
  rw [wi (n:=((s.len:Nat):Int) - 1) (by omega) (by omega)]
  have e0:v.1.take (((s.len:Nat):Int) - 1+1).toNat++(passF (v.1.drop (((s.len:Nat):Int) - 1+1).toNat)).1=v.1:=by
   have e:(((s.len:Nat):Int) - 1+1).toNat=v.1.length:=by omega
   rw [e];simp [passF]
  have e1:passF (v.1.drop (((s.len:Nat):Int) - 1+1).toNat)=([],0,0):=by
   have e:(((s.len:Nat):Int) - 1+1).toNat=v.1.length:=by omega
   rw [e];simp [passF]
  have h:=h.take (blk b [.sl s,.int .u64 v.2]^arr s K_u6b3 v.1)
  have h:=h.keep
  refine w_loop (fun (y:Int × Int × Int)=>blk b [.sl s,.int .u64 v.2]^arr s K_u6b3 (v.1.take (y.2.2+1).toNat++(passF (v.1.drop (y.2.2+1).toNat)).1))
   (fun (y:Int × Int × Int)=>(-1≤y.2.2∧y.2.2 < v.1.length)∧y.1=(passF (v.1.drop (y.2.2+1).toNat)).2.1∧y.2.1=(passF (v.1.drop (y.2.2+1).toNat)).2.2) (fun (y:Int × Int × Int)=>(y.2.2+1).toNat) (by rw [e0];exact h) ⟨⟨by show (-1:Int)≤_ - 1;omega,by show ((s.len:Nat):Int) - 1 < _;omega⟩,by rw [e1],by rw [e1]⟩ ?_
  rintro (⟨lost,above,i⟩:Int × Int × Int) w ⟨⟨h0,h1⟩,h2,h3⟩ h
  dsimp only at h0 h1 h2 h3 h ⊢
  refine w_ite (fun c=>?_) fun c=>?_
  ·have c:0≤i:=by simpa using c
   obtain ⟨k,hk⟩:∃ k:Nat,i=k:=⟨i.toNat,by omega⟩
   have hk1:(i+1).toNat=k+1:=by omega
   have hk0:i.toNat=k:=by omega
   have hkl:k < v.1.length:=by omega
   rw [hk1] at h2 h3 h
   obtain ⟨p,hp⟩:∃ p,v.1[k]?=some p:=⟨_,at_some hkl⟩
   have hd:=drop_at hp
   obtain ⟨xs,hxs⟩:∃ xs,xs=v.1.take (k+1)++(passF (v.1.drop (k+1))).1:=⟨_,rfl⟩
   have hxk:xs[i.toNat]?=some p:=by
    rw [hk0,hxs,List.getElem?_append_left (by rw [List.length_take];omega),List.getElem?_take,if_pos (by omega),hp]
   have hxl:i.toNat < xs.length:=(List.getElem?_eq_some_iff.1 hxk).1
   rw [← hxs] at h
   have hpass:passF (v.1.drop k)=(if hitF p above then setLo p true :: (passF (v.1.drop (k+1))).1 else p :: (passF (v.1.drop (k+1))).1,if hitF p above then IntKind.u64.wrap (lost+IntKind.u64.wrap (p.2.1 - p.1)) else lost,abvF p above):=by
    rw [hd,passF,h2,h3]
   refine w_deref (w_ld h rfl ?_)
   refine w_idx h c hxl ?_
   refine w_join h (fun _=>blk b [.sl s,.int .u64 v.2]^arr s K_u6b3 xs) (fun (y:Int)=>y=abvF p above) (fun (y:Int) w hy h=>?_) ?_
   ·refine w_deref (w_ldE h s i.toNat hxk rfl ?_)
    refine w_call (flying_tri p) h fun r w h=>?_
    obtain ⟨hr,h⟩:=h.purP
    have hw:IntKind.i64.wrap (i - 1)=i - 1:=wi (by omega) (by omega)
    have hhit:(r && decide (y ≥ 3))=hitF p above:=by rw [hr,hy];rfl
    have hk2:(i - 1+1).toNat=k:=by omega
    have ht:v.1.take (k+1)=v.1.take k++[p]:=by rw [List.take_add_one,hp];rfl
    have hlt:(v.1.take k).length=k:=by rw [List.length_take];omega
    refine w_ite (fun c2=>?_) fun c2=>?_
    ·rw [hhit] at c2
     rw [c2] at hpass
     simp only [if_true] at hpass
     refine w_deref (w_stA h s i.toNat 8 p (setLo p true) hxk rfl (by decide) (by simp) rfl fun w h=>?_)
     have hset:xs.set i.toNat (setLo p true)=v.1.take k++(passF (v.1.drop k)).1:=by
      rw [hpass,hxs,hk0,ht,List.append_assoc,List.set_append_right _ _ (by omega),hlt]
      simp
     have hx2:(xs.set i.toNat (setLo p true))[i.toNat]?=some (setLo p true):=by rw [List.getElem?_set_self hxl]
     refine w_drw h fun w h=>?_
     refine w_deref (w_deref ?_)
     refine w_ldA h s i.toNat 1 _ hx2 rfl (by decide) rfl ?_
     refine w_ldA h s i.toNat 0 _ hx2 rfl (by decide) rfl ?_
     rw [hw]
     refine ⟨⟨⟨⟨by show (-1:Int)≤i - 1;omega,by show i - 1 < _;omega⟩,?_,?_⟩,?_⟩,by show (i - 1+1).toNat < (i+1).toNat;omega⟩
     ·show _=(passF (v.1.drop (i - 1+1).toNat)).2.1
      rw [hk2,hpass];rfl
     ·show y=(passF (v.1.drop (i - 1+1).toNat)).2.2
      rw [hk2,hpass];exact hy
     ·show Own _ _ _ _ (blk b [.sl s,.int .u64 v.2]^arr s K_u6b3 (v.1.take (i - 1+1).toNat++(passF (v.1.drop (i - 1+1).toNat)).1))
      rw [hk2,← hset]
      exact h.fin
    ·rw [hhit] at c2
     rw [c2] at hpass
     simp only [Bool.false_eq_true,if_false] at hpass
     rw [hw]
     have hsame:xs=v.1.take k++(passF (v.1.drop k)).1:=by rw [hpass,hxs,ht];simp
     refine ⟨⟨⟨⟨by show (-1:Int)≤i - 1;omega,by show i - 1 < _;omega⟩,?_,?_⟩,?_⟩,by show (i - 1+1).toNat < (i+1).toNat;omega⟩
     ·show _=(passF (v.1.drop (i - 1+1).toNat)).2.1
      rw [hk2,hpass]
     ·show y=(passF (v.1.drop (i - 1+1).toNat)).2.2
      rw [hk2,hpass];exact hy
     ·show Own _ _ _ _ (blk b [.sl s,.int .u64 v.2]^arr s K_u6b3 (v.1.take (i - 1+1).toNat++(passF (v.1.drop (i - 1+1).toNat)).1))
      rw [hk2,← hsame]
      exact h.fin
   ·refine w_deref (w_ldA h s i.toNat 7 p hxk rfl (by decide) rfl ?_)
    refine w_ite (fun c2=>?_) fun c2=>?_
    ·exact ⟨by have c2:pSk p=true:=c2;simp [abvF,c2],h⟩
    ·exact ⟨by have c2:pSk p=false:=c2;simp [abvF,c2],h⟩
  ·have c:i=-1:=by simp at c;omega
   rw [c] at h2 h3 h
   simp only [show ((-1:Int)+1).toNat=0 from rfl,List.drop_zero,List.take_zero,List.nil_append] at h2 h
   refine Own.retP h2 ?_
   exact (h.mkBrd b s (passF v.1).1 v.2).fin
def setSk (p:Pc):Pc:=(p.1,p.2.1,p.2.2.1,p.2.2.2.1,p.2.2.2.2.1,p.2.2.2.2.2.1,p.2.2.2.2.2.2.1,true,false)
def toldP (upto:Int) (xs:List (Int × Int)) (p:Pc):Bool:=!pSk p && (decide (p.2.1≤upto) || xs.any (inF p))
def markP (upto:Int) (xs:List (Int × Int)) (p:Pc):Pc:=if toldP upto xs p then setSk p else p
def toldL (upto:Int) (xs:List (Int × Int)) (l:List Pc):List Pc:=l.filter (toldP upto xs)
def restL (upto:Int) (xs:List (Int × Int)) (l:List Pc):List Pc:=(l.filter (fun p=>!decide (p.2.1≤upto))).map (markP upto xs)
theorem toldL_take {upto:Int} {xs:List (Int × Int)} {l:List Pc} {k:Nat} {p:Pc} (h:l[k]?=some p):toldL upto xs (l.take (k+1))=toldL upto xs (l.take k)++(if toldP upto xs p then [p] else []):=by
 rw [List.take_add_one,h,toldL,List.filter_append,toldL];congr 1
 simp [List.filter_cons]
theorem restL_take {upto:Int} {xs:List (Int × Int)} {l:List Pc} {k:Nat} {p:Pc} (h:l[k]?=some p):restL upto xs (l.take (k+1))=restL upto xs (l.take k)++(if p.2.1≤upto then [] else [markP upto xs p]):=by
 rw [List.take_add_one,h,restL,List.filter_append,List.map_append,restL];congr 1
 by_cases hc:p.2.1≤upto<;>simp [hc]
theorem toldL_len (upto:Int) (xs:List (Int × Int)) (l:List Pc) (k:Nat):(toldL upto xs (l.take k)).length≤k:=Nat.le_trans (List.length_filter_le _ _) (by rw [List.length_take];omega)
theorem restL_len (upto:Int) (xs:List (Int × Int)) (l:List Pc) (k:Nat):(restL upto xs (l.take k)).length≤k:=by rw [restL,List.length_map];exact Nat.le_trans (List.length_filter_le _ _) (by rw [List.length_take];omega)
theorem ack_no2_tri (b:Nat) (v:List Pc × Int) (upto:Int) (s:Sl) (xs:List (Ks.T KR)) (hx:xs.length≤4294967296) (hm:mayF v upto xs=false) :
  Tri Tryz.prog N_board_Board_Ack [.lf (.ptr (some ⟨b,0⟩)),.lf (.int .u64 upto),.lf (.sl s)] [.lf .sl,.lf (.int .u64),.lf (.int .i64)] (brd b v^rarr s KR xs) (fun r=>pur (r.1=⟨none,0,0⟩∧r.2.1=0∧r.2.2=11) (brd b v)) :=
 tri_0 (call_board_Board_Ack _ _ _) fun w S R h=>by
  unfold W_board_Board_Ack
  refine w_ite (fun c=>(by cases c)) fun c=>?_
  refine w_callL (may_tri b v upto s xs hx) h fun r w h=>?_
  obtain ⟨hr,h⟩:=h.purP
  refine w_ite (fun c=>?_) fun c=>?_
  ·exact Own.retP ⟨rfl,rfl,rfl⟩ h.fin
  ·rw [hr,hm] at c;cases c
theorem ack_tri (b:Nat) (v:List Pc × Int) (upto:Int) (a:Sl) (xs:List (Ks.T KR)) (hl:v.1.length≤4294967295) (hx:xs.length≤4294967296) (hm:mayF v upto xs=true) :
  Tri Tryz.prog N_board_Board_Ack [.lf (.ptr (some ⟨b,0⟩)),.lf (.int .u64 upto),.lf (.sl a)] [.lf .sl,.lf (.int .u64),.lf (.int .i64)] (brd b v^rarr a KR xs)
   (fun r=>pur (r.2.1=(passF (restL upto xs v.1)).2.1∧r.2.2=0) (arr r.1 K_u6b3 (toldL upto xs v.1)^brd b ((passF (restL upto xs v.1)).1,v.2))) :=
 tri_0 (call_board_Board_Ack _ _ _) fun w S R h=>by
  unfold W_board_Board_Ack
  refine w_ite (fun c=>(by cases c)) fun c=>?_
  refine w_callL (Q:=rarr a KR xs) (may_tri b v upto a xs hx) h fun r w h=>?_
  obtain ⟨hr,h⟩:=h.purP
  refine w_ite (fun c=>by rw [hr,hm] at c;cases c) fun c=>?_
  obtain ⟨s,h⟩:=h.brd b
  have hs:=(h.rd (s:=s)).2
  refine w_deref (w_ld h rfl ?_)
  have h:=(h.nil K_u6b3)
  have h:=(h.nil K_u6b3)
  have h:=(h.take (blk b [.sl s,.int .u64 v.2]^arr s K_u6b3 v.1^arr ⟨none,0,0⟩ K_u6b3 []^arr ⟨none,0,0⟩ K_u6b3 []^rarr a KR xs)).keep
  refine w_loop (fun (y:Sl × Sl × Int)=>blk b [.sl s,.int .u64 v.2]^arr s K_u6b3 v.1^arr y.1 K_u6b3 (toldL upto xs (v.1.take y.2.2.toNat))^arr y.2.1 K_u6b3 (restL upto xs (v.1.take y.2.2.toNat))^rarr a KR xs)
   (fun (y:Sl × Sl × Int)=>0≤y.2.2∧y.2.2.toNat≤v.1.length) (fun (y:Sl × Sl × Int)=>v.1.length - y.2.2.toNat) h ⟨Int.le_refl 0,Nat.zero_le _⟩ ?_
  rintro (⟨ts,rs,i⟩:Sl × Sl × Int) w ⟨h0,h1⟩ h
  dsimp only at h0 h1 h ⊢
  refine w_ite (fun c=>?_) fun c=>?_
  ·have hi:i.toNat < v.1.length:=by simp at c;omega
   obtain ⟨p,hp⟩:∃ p,v.1[i.toNat]?=some p:=⟨_,at_some hi⟩
   have ht:=toldL_take (upto:=upto) (xs:=xs) hp
   have hrt:=restL_take (upto:=upto) (xs:=xs) hp
   have hw:IntKind.i64.wrap (i+1)=i+1:=wi (by omega) (by omega)
   have hi1:(i+1).toNat=i.toNat+1:=by omega
   refine w_idx h h0 hi ?_
   refine w_ldE h s i.toNat hp rfl ?_
   refine w_new h fun n8 w h=>?_
   refine w_setAll h (by rfl) fun w h=>?_
   refine w_ld h rfl ?_
   refine w_join h (fun (y:Sl)=>blk n8 (Ks.mk K_u6b3 (markP upto xs p))^blk b [.sl s,.int .u64 v.2]^arr s K_u6b3 v.1^arr y K_u6b3 (toldL upto xs (v.1.take (i.toNat+1)))^arr rs K_u6b3 (restL upto xs (v.1.take i.toNat))^rarr a KR xs) (fun _=>True) (fun (y:Sl) w _ h=>?_) ?_
   ·refine w_ite (fun c2=>?_) fun c2=>?_
    ·have c2:p.2.1≤upto:=by simpa using c2
     rw [hw]
     rw [if_pos c2,List.append_nil] at hrt
     refine ⟨⟨⟨by show (0:Int)≤i+1;omega,by show (i+1).toNat≤_;omega⟩,?_⟩,by show _ - (i+1).toNat < _;omega⟩
     show Own _ _ _ _ (blk b [.sl s,.int .u64 v.2]^arr s K_u6b3 v.1^arr y K_u6b3 (toldL upto xs (v.1.take (i+1).toNat))^arr rs K_u6b3 (restL upto xs (v.1.take (i+1).toNat))^rarr a KR xs)
     rw [hi1,hrt]
     exact h.fin
    ·have c2:¬ p.2.1≤upto:=by simpa using c2
     rw [if_neg c2] at hrt
     refine w_ldAll h rfl ?_
     refine w_new h fun n21 w h=>?_
     have h:=h.blkArr n21 K_u6b3 [markP upto xs p] rfl (by simp)
     have hlr:=restL_len upto xs v.1 i.toNat
     refine w_app (K:=K_u6b3) h rfl (by simp;omega) fun s22 w hl2 h=>?_
     rw [hw]
     refine ⟨⟨⟨by show (0:Int)≤i+1;omega,by show (i+1).toNat≤_;omega⟩,?_⟩,by show _ - (i+1).toNat < _;omega⟩
     show Own _ _ _ _ (blk b [.sl s,.int .u64 v.2]^arr s K_u6b3 v.1^arr y K_u6b3 (toldL upto xs (v.1.take (i+1).toNat))^arr s22 K_u6b3 (restL upto xs (v.1.take (i+1).toNat))^rarr a KR xs)
     rw [hi1,hrt]
     exact h.fin
   ·refine w_join h (fun _=>blk n8 (Ks.mk K_u6b3 p)^blk b [.sl s,.int .u64 v.2]^arr s K_u6b3 v.1^arr ts K_u6b3 (toldL upto xs (v.1.take i.toNat))^arr rs K_u6b3 (restL upto xs (v.1.take i.toNat))^rarr a KR xs) (fun (y:Bool)=>y=toldP upto xs p) (fun (y:Bool) w hy h=>?_) ?_
    ·refine w_ite (fun c2=>?_) fun c2=>?_
     ·rw [c2] at hy
      rw [← hy,if_pos rfl] at ht
      have hmk:markP upto xs p=setSk p:=by rw [markP,← hy];rfl
      refine w_ldAll h rfl ?_
      refine w_new h fun n18 w h=>?_
      have h:=h.blkArr n18 K_u6b3 [p] rfl (by simp)
      have hlr:=toldL_len upto xs v.1 i.toNat
      refine w_app (K:=K_u6b3) h rfl (by simp;omega) fun s19 w hl2 h=>?_
      refine w_set h rfl fun w h=>?_
      refine w_set h rfl fun w h=>?_
      refine ⟨trivial,?_⟩
      rw [ht,hmk]
      have h:Own _ _ _ _ (blk n8 (Ks.mk K_u6b3 (setSk p))^_):=h
      exact h.fin
     ·rw [c2] at hy
      rw [← hy] at ht
      have hmk:markP upto xs p=p:=by rw [markP,← hy];rfl
      refine ⟨trivial,?_⟩
      rw [ht,hmk]
      simp only [Bool.false_eq_true,if_false,List.append_nil]
      exact h.fin
    ·refine w_ld h rfl ?_
     refine w_ite (fun c2=>?_) fun c2=>?_
     ·have c2:(!pSk p)=true:=c2
      refine w_ite (fun c3=>?_) fun c3=>?_
      ·exact ⟨by have c3:decide (p.2.1≤upto)=true:=c3;simp [toldP,c2,c3],h.fin⟩
      ·refine w_ldAll h rfl ?_
       refine w_callL (A:=emp) (Q:=rarr a KR xs) (holds_tri p a xs hx) h fun r w h=>?_
       obtain ⟨hr2,h⟩:=h.purP
       exact ⟨by have c3:decide (p.2.1≤upto)=false:=c3;rw [hr2,toldP,c2,c3];simp,h.fin⟩
     ·exact ⟨by have c2:(!pSk p)=false:=c2;simp [toldP,c2],h.fin⟩
  ·have hi:i.toNat=v.1.length:=by simp at c;omega
   rw [hi,List.take_length] at h
   refine w_deref (w_set h rfl fun w h=>?_)
   dsimp only [upd,over] at h
   have h:=h.mkBrd b rs (restL upto xs v.1) v.2
   have hrl:(restL upto xs v.1).length≤4294967296:=by
    have:=restL_len upto xs v.1 v.1.length
    rw [List.take_length] at this;omega
   refine w_call (passed_tri b (restL upto xs v.1,v.2) hrl) h fun r w h=>?_
   obtain ⟨hr2,h⟩:=h.purP
   exact Own.retP ⟨hr2,rfl⟩ h.fin
abbrev s0:Snt:=(0,0,0,0,false)
def pK (z:Int) (k:Nat):Pc:=mkPc ((k:Int) * z) (((k:Int)+1) * z) ((k:Int),0,0,0,false)
def c1 (z y:Int):List (Int × Int):=[(z+1,2 * z+y),(2 * z+1,3 * z)]
def c2 (z y:Int):List (Int × Int):=[(z,2 * z+y)]
abbrev q1 (z:Int):Pc:=setSk (pK z 1)
def loseP (p:Pc):Pc:=if flyP p then setLo p true else p
theorem lose_tri (b:Nat) (v:List Pc × Int) (hl:v.1.length≤4294967296):Tri Tryz.prog N_board_Board_Lose [.lf (.ptr (some ⟨b,0⟩))] [.lf (.int .u64)] (brd b v) (fun r=>pur (r=flightF v.1) (brd b (v.1.map loseP,v.2))) :=
 tri_0 (call_board_Board_Lose _) fun w S R h=>by
  unfold W_board_Board_Lose
  refine w_ite (fun c=>(by cases c)) fun c=>?_
  obtain ⟨s,h⟩:=h.brd b
  have hs:=(h.rd (s:=s)).2
  refine w_deref (w_ld h rfl ?_)
  have h:=(h.take (blk b [.sl s,.int .u64 v.2]^arr s K_u6b3 v.1)).keep
  refine w_loop (fun (y:Int × Int)=>blk b [.sl s,.int .u64 v.2]^arr s K_u6b3 ((v.1.take y.2.toNat).map loseP++v.1.drop y.2.toNat)) (fun (y:Int × Int)=>(0≤y.2∧y.2.toNat≤v.1.length)∧y.1=flightF (v.1.take y.2.toNat)) (fun (y:Int × Int)=>v.1.length - y.2.toNat) h ⟨⟨Int.le_refl 0,Nat.zero_le _⟩,rfl⟩ ?_
  rintro (⟨t,i⟩:Int × Int) w ⟨⟨h0,h1⟩,h2⟩ h
  dsimp only at h0 h1 h2 h ⊢
  obtain ⟨xs,hxs⟩:∃ xs,xs=(v.1.take i.toNat).map loseP++v.1.drop i.toNat:=⟨_,rfl⟩
  rw [← hxs] at h
  have hxl:xs.length=v.1.length:=by rw [hxs];simp;omega
  refine w_ite (fun c=>?_) fun c=>?_
  ·have hi:i.toNat < v.1.length:=by simp at c;omega
   obtain ⟨p,hp⟩:∃ p,v.1[i.toNat]?=some p:=⟨_,at_some hi⟩
   have hml:((v.1.take i.toNat).map loseP).length=i.toNat:=by simp;omega
   have hxp:xs[i.toNat]?=some p:=by
    rw [hxs,List.getElem?_append_right (by omega),hml,drop_at hp];simp
   have hw:IntKind.i64.wrap (i+1)=i+1:=wi (by omega) (by omega)
   have hi1:(i+1).toNat=i.toNat+1:=by omega
   have hset:(v.1.take (i.toNat+1)).map loseP++v.1.drop (i.toNat+1)=xs.set i.toNat (loseP p):=by
    rw [hxs,List.set_append_right _ _ (by omega),hml,drop_at hp,List.take_add_one,hp];simp
   have hft:=flight_take hp
   refine w_idx h h0 (by omega) ?_
   refine w_ldE h s i.toNat hxp rfl ?_
   refine w_new h fun n7 w h=>?_
   refine w_setAll h (by rfl) fun w h=>?_
   refine w_ldAll h rfl ?_
   refine w_call (flying_tri p) h fun r w h=>?_
   obtain ⟨hr,h⟩:=h.purP
   refine w_ite (fun c2=>?_) fun c2=>?_
   ·have hf:flyP p=true:=by rw [← hr];exact c2
    refine w_deref (w_ld h rfl ?_)
    refine w_idx h h0 (by omega) ?_
    refine w_stA h s i.toNat 8 p (setLo p true) hxp rfl (by decide) (by simp) rfl fun w h=>?_
    refine w_ld h rfl ?_
    refine w_ld h rfl ?_
    rw [hw]
    have hlp:loseP p=setLo p true:=by rw [loseP,if_pos hf]
    refine ⟨⟨⟨⟨by show (0:Int)≤i+1;omega,by show (i+1).toNat≤_;omega⟩,?_⟩,?_⟩,by show _ - (i+1).toNat < _;omega⟩
    ·show _=flightF (v.1.take (i+1).toNat)
     rw [hi1,hft,addF,if_pos hf,h2]
    ·show Own _ _ _ _ (blk b [.sl s,.int .u64 v.2]^arr s K_u6b3 ((v.1.take (i+1).toNat).map loseP++v.1.drop (i+1).toNat))
     rw [hi1,hset,hlp]
     exact h.fin
   ·have hf:flyP p=false:=by rw [← hr];exact c2
    rw [hw]
    have hlp:loseP p=p:=by rw [loseP,if_neg (by rw [hf];simp)]
    refine ⟨⟨⟨⟨by show (0:Int)≤i+1;omega,by show (i+1).toNat≤_;omega⟩,?_⟩,?_⟩,by show _ - (i+1).toNat < _;omega⟩
    ·show t=flightF (v.1.take (i+1).toNat)
     rw [hi1,hft,addF,if_neg (by rw [hf];simp),h2]
    ·show Own _ _ _ _ (blk b [.sl s,.int .u64 v.2]^arr s K_u6b3 ((v.1.take (i+1).toNat).map loseP++v.1.drop (i+1).toNat))
     have hself:xs.set i.toNat p=xs:=by
      obtain ⟨hl2,he⟩:=List.getElem?_eq_some_iff.1 hxp
      rw [← he];exact List.set_getElem_self hl2
     rw [hi1,hset,hlp,hself]
     exact h.fin
  ·have hi:i.toNat=v.1.length:=by simp at c;omega
   rw [hi] at h2 hxs
   simp at hxs h2
   rw [hxs] at h
   exact Own.retP h2 (h.mkBrd b s (v.1.map loseP) v.2).fin
theorem lost_tri (b:Nat) (v:List Pc × Int) (hl:v.1.length≤4294967296):Tri Tryz.prog N_board_Board_lost [.lf (.ptr (some ⟨b,0⟩))] [.lf (.int .i64)] (brd b v) (fun r=>pur (r=fI pLo v.1) (brd b v)) :=
 tri_n (W:=fun n R=>W_board_Board_lost n (some ⟨b,0⟩) R) (call_board_Board_lost _) fun w S R h=>by
  unfold W_board_Board_lost
  refine w_new h fun n1 w h=>?_
  refine w_new h fun n2 w h=>?_
  refine w_set h rfl fun w h=>?_
  dsimp only [upd,over] at h
  refine w_call (all_tri b) (h.le (star_emp _)) fun f w h=>?_
  obtain ⟨n,h⟩:=h.exP
  obtain ⟨hf,h⟩:=h.purP
  rw [hf]
  have h:=(h.take (blk n1 [.int .i64 0]^blk n2 [.int .i64 ((0:Nat):Int)])).toPur (p:=∀ j y,j < 0→v.1[j]?=some y→pLo y=false) (fun j y hj=>by omega)
  refine w_range (all_iter n b v hl) (fun i=>pur (∀ j y,j < i→v.1[j]?=some y→pLo y=false) (blk n1 [.int .i64 0]^blk n2 [.int .i64 (i:Int)])) (fun j=>pur (j=1) (blk n1 [.int .i64 (fI pLo v.1)])) h ?_ ?_ ?_
  ·intro i x hx w S R mid next jump rdy bsy hmid hnext hjump h
   have hi:i < v.1.length:=(List.getElem?_eq_some_iff.1 hx).1
   refine w_new h fun n8 w h=>?_
   refine w_setAll h (by rfl) fun w h=>?_
   refine hmid h fun w h=>?_
   have h:=h.take (pur (∀ j y,j < i→v.1[j]?=some y→pLo y=false) (blk n1 [.int .i64 0]^blk n2 [.int .i64 (i:Int)]))
   obtain ⟨hno,h⟩:=h.purP
   refine w_ld h rfl ?_
   refine w_ite (fun c=>?_) fun c=>?_
   ·refine w_ld h rfl ?_
    refine w_set h rfl fun w h=>?_
    dsimp only [upd,over] at h
    have e:fI pLo v.1=(i:Int):=fI_at hx c hno
    rw [← e] at h
    have h:=(h.take (blk n1 [.int .i64 (fI pLo v.1)])).toPur (p:=1=1) rfl
    exact hjump 1 (by decide) h
   ·refine w_ld h rfl ?_
    refine w_set h rfl fun w h=>?_
    dsimp only [upd,over] at h
    rw [wi (by omega) (by omega)] at h
    have h:Own _ _ _ _ (blk n2 [.int .i64 ((i+1:Nat):Int)]^_):=h
    have h:=(h.take (blk n1 [.int .i64 0]^blk n2 [.int .i64 ((i+1:Nat):Int)])).toPur (p:=∀ j y,j < i+1→v.1[j]?=some y→pLo y=false) (fun j y hj hy=>by
     by_cases hji:j=i
     ·rw [hji,hx] at hy;cases hy;exact c
     ·exact hno j y (by omega) hy)
    exact hnext h
  ·intro w h
   have h:=h.take (pur (∀ j y,j < v.1.length→v.1[j]?=some y→pLo y=false) (blk n1 [.int .i64 0]^blk n2 [.int .i64 (v.1.length:Int)]))
   obtain ⟨hno,h⟩:=h.purP
   refine w_set h rfl fun w h=>?_
   dsimp only [upd,over] at h
   refine w_ld h rfl ?_
   refine w_leave h fun w h=>?_
   refine Own.retP ?_ h.fin
   rw [fI_none]
   intro y hy
   obtain ⟨j,hj,rfl⟩:=List.mem_iff_getElem.1 hy
   exact hno j _ hj (at_some hj)
  ·intro j w hj h
   have h:=h.take (pur (j=1) (blk n1 [.int .i64 (fI pLo v.1)]))
   obtain ⟨hj1,h⟩:=h.purP
   rw [hj1]
   refine w_ld h rfl ?_
   refine w_leave h fun w h=>?_
   exact Own.retP rfl h.fin
theorem fI_some {α:Type} {p:α→Bool} {xs:List α} (h:0≤fI p xs):∃ x,xs[(fI p xs).toNat]?=some x∧p x=true∧(fI p xs).toNat < xs.length∧((fI p xs).toNat:Int)=fI p xs:=by
 unfold fI at h ⊢
 cases hf:xs.findIdx? p with
 | none=>rw [hf] at h;simp at h
 | some i =>
  obtain ⟨hl,hp,_⟩:=List.findIdx?_eq_some_iff_getElem.1 hf
  exact ⟨xs[i],by simp [hl],hp,by simpa using hl,by simp⟩
def lostF (l:List Pc):(Int × Int) × Bool:=match l[(fI pLo l).toNat]? with
 | some p=>if fI pLo l < 0 then ((0,0),false) else ((p.1,p.2.1),true)
 | none=>((0,0),false)
theorem lostF_no {l:List Pc} (h:fI pLo l < 0):lostF l=((0,0),false):=by
 unfold lostF
 split
 ·rw [if_pos h]
 ·rfl
theorem lostF_yes {l:List Pc} {p:Pc} (h:0≤fI pLo l) (hp:l[(fI pLo l).toNat]?=some p):lostF l=((p.1,p.2.1),true):=by
 unfold lostF
 rw [hp]
 simp only
 rw [if_neg (by omega)]
theorem Lost_tri (b:Nat) (v:List Pc × Int) (hl:v.1.length≤4294967296):Tri Tryz.prog N_board_Board_Lost [.lf (.ptr (some ⟨b,0⟩))] [.agg KR,.lf .bool] (brd b v) (fun r=>pur (r=lostF v.1) (brd b v)) :=
 tri_0 (call_board_Board_Lost _) fun w S R h=>by
  unfold W_board_Board_Lost
  refine w_new h fun n1 w h=>?_
  refine w_call (lost_tri b v hl) h fun r w h=>?_
  obtain ⟨hr,h⟩:=h.purP
  rw [hr]
  refine w_ite (fun c=>?_) fun c=>?_
  ·refine w_set h rfl fun w h=>?_
   dsimp only [upd,over] at h
   refine w_ldAll (x:=(0,0)) h rfl ?_
   exact Own.retP (lostF_no (by simpa using c)).symm h.fin
  ·have c:0≤fI pLo v.1:=by simpa using c
   obtain ⟨p,hp,hpl,hlt,_⟩:=fI_some c
   refine w_drw h fun w h=>?_
   obtain ⟨s,h⟩:=h.brd b
   refine w_deref (w_deref (w_ld h rfl (w_ld h rfl ?_)))
   refine w_idx h c hlt ?_
   refine w_idx h c hlt ?_
   refine w_ldA h s _ 0 p hp rfl (by decide) rfl ?_
   refine w_ldA h s _ 1 p hp rfl (by decide) rfl ?_
   refine w_set h rfl fun w h=>?_
   dsimp only [upd,over] at h
   refine w_ldAll (x:=(p.1,p.2.1)) h rfl ?_
   exact Own.retP (lostF_yes c hp).symm (h.mkBrd b s v.1 v.2).fin
theorem all_iterS (n b:Nat) (s:Sl) (v:List Pc × Int) (hl:v.1.length≤4294967296):Iter Tryz.prog (mkAll n) (blk n [.ptr (some ⟨b,0⟩)]^blk b [.sl s,.int .u64 v.2]^arr s K_u6b3 v.1) [.agg K_u6b3] v.1:=by
 intro y I D hy
 refine Tri.g (f:=N_board_Board_All_c1) (args:=[.lf (.fn y)]) (caps:=[.lf (.ptr (some ⟨n,0⟩))]) (tri_0 (call_board_Board_All_c1 y ⟨n,0⟩) fun w S R h=>?_)
 unfold W_board_Board_All_c1
 refine w_ld h rfl ?_
 refine w_ite (fun c=>(by cases c)) fun c=>?_
 refine w_ld h rfl ?_
 have hs:=(h.rd (s:=s)).2
 refine w_deref (w_ld h rfl ?_)
 have h:Own _ _ _ _ (blk b [.sl s,.int .u64 v.2]^arr s K_u6b3 v.1^blk n [.ptr (some ⟨b,0⟩)]^I 0):=h.fin
 refine w_loop (fun (y:Int)=>blk b [.sl s,.int .u64 v.2]^arr s K_u6b3 v.1^blk n [.ptr (some ⟨b,0⟩)]^I y.toNat) (fun (y:Int)=>0≤y∧y.toNat≤v.1.length) (fun (y:Int)=>v.1.length - y.toNat) h ⟨Int.le_refl 0,by simp⟩ ?_
 rintro (i:Int) w ⟨h0,h1⟩ h
 refine w_ite (fun c=>?_) fun c=>?_
 ·have hi:i.toNat < v.1.length:=by simp at c;omega
  refine w_idx h h0 hi ?_
  refine w_ldE h s i.toNat (at_some hi) rfl ?_
  refine w_new h fun n9 w h=>?_
  refine w_setAll h (by rfl) fun w h=>?_
  refine w_ldAll h rfl ?_
  refine w_callv (hy i.toNat _ (at_some hi)) h fun r w h=>?_
  refine w_ite (fun c=>?_) fun c=>?_
  ·have hr:r=false:=by simpa using c
   rw [hr] at h
   have h:Own _ _ _ _ (D^_):=h
   have h:=h.eitherR (I v.1.length)
   exact h.fin
  ·have hr:r=true:=by simpa using c
   rw [hr] at h
   have h:Own _ _ _ _ (I (i.toNat+1)^_):=h
   rw [wi (by omega) (by omega)]
   have e:(i+1).toNat=i.toNat+1:=by omega
   refine ⟨⟨⟨(by show (0:Int)≤i+1;omega),(by show (i+1).toNat≤_;omega)⟩,?_⟩,(by show _ - (i+1).toNat < _;omega)⟩
   show Own _ _ _ _ (blk b [.sl s,.int .u64 v.2]^arr s K_u6b3 v.1^blk n [.ptr (some ⟨b,0⟩)]^I (i+1).toNat)
   rw [e]
   exact h.fin
 ·have hi:i.toNat=v.1.length:=by simp at c;omega
  rw [hi] at h
  have h:=h.take (I v.1.length)
  have h:=h.eitherL D
  exact h.fin
theorem lost_triS (b:Nat) (s:Sl) (v:List Pc × Int) (hl:v.1.length≤4294967296):Tri Tryz.prog N_board_Board_lost [.lf (.ptr (some ⟨b,0⟩))] [.lf (.int .i64)] (blk b [.sl s,.int .u64 v.2]^arr s K_u6b3 v.1) (fun r=>pur (r=fI pLo v.1) (blk b [.sl s,.int .u64 v.2]^arr s K_u6b3 v.1)) :=
 tri_n (W:=fun n R=>W_board_Board_lost n (some ⟨b,0⟩) R) (call_board_Board_lost _) fun w S R h=>by
  unfold W_board_Board_lost
  refine w_new h fun n1 w h=>?_
  refine w_new h fun n2 w h=>?_
  refine w_set h rfl fun w h=>?_
  dsimp only [upd,over] at h
  refine w_call (all_tri b) (h.le (star_emp _)) fun f w h=>?_
  obtain ⟨n,h⟩:=h.exP
  obtain ⟨hf,h⟩:=h.purP
  rw [hf]
  have h:=(h.take (blk n1 [.int .i64 0]^blk n2 [.int .i64 ((0:Nat):Int)])).toPur (p:=∀ j y,j < 0→v.1[j]?=some y→pLo y=false) (fun j y hj=>by omega)
  refine w_range (all_iterS n b s v hl) (fun i=>pur (∀ j y,j < i→v.1[j]?=some y→pLo y=false) (blk n1 [.int .i64 0]^blk n2 [.int .i64 (i:Int)])) (fun j=>pur (j=1) (blk n1 [.int .i64 (fI pLo v.1)])) h ?_ ?_ ?_
  ·intro i x hx w S R mid next jump rdy bsy hmid hnext hjump h
   have hi:i < v.1.length:=(List.getElem?_eq_some_iff.1 hx).1
   refine w_new h fun n8 w h=>?_
   refine w_setAll h (by rfl) fun w h=>?_
   refine hmid h fun w h=>?_
   have h:=h.take (pur (∀ j y,j < i→v.1[j]?=some y→pLo y=false) (blk n1 [.int .i64 0]^blk n2 [.int .i64 (i:Int)]))
   obtain ⟨hno,h⟩:=h.purP
   refine w_ld h rfl ?_
   refine w_ite (fun c=>?_) fun c=>?_
   ·refine w_ld h rfl ?_
    refine w_set h rfl fun w h=>?_
    dsimp only [upd,over] at h
    have e:fI pLo v.1=(i:Int):=fI_at hx c hno
    rw [← e] at h
    have h:=(h.take (blk n1 [.int .i64 (fI pLo v.1)])).toPur (p:=1=1) rfl
    exact hjump 1 (by decide) h
   ·refine w_ld h rfl ?_
    refine w_set h rfl fun w h=>?_
    dsimp only [upd,over] at h
    rw [wi (by omega) (by omega)] at h
    have h:Own _ _ _ _ (blk n2 [.int .i64 ((i+1:Nat):Int)]^_):=h
    have h:=(h.take (blk n1 [.int .i64 0]^blk n2 [.int .i64 ((i+1:Nat):Int)])).toPur (p:=∀ j y,j < i+1→v.1[j]?=some y→pLo y=false) (fun j y hj hy=>by
     by_cases hji:j=i
     ·rw [hji,hx] at hy;cases hy;exact c
     ·exact hno j y (by omega) hy)
    exact hnext h
  ·intro w h
   have h:=h.take (pur (∀ j y,j < v.1.length→v.1[j]?=some y→pLo y=false) (blk n1 [.int .i64 0]^blk n2 [.int .i64 (v.1.length:Int)]))
   obtain ⟨hno,h⟩:=h.purP
   refine w_set h rfl fun w h=>?_
   dsimp only [upd,over] at h
   refine w_ld h rfl ?_
   refine w_leave h fun w h=>?_
   refine Own.retP ?_ h.fin
   rw [fI_none]
   intro y hy
   obtain ⟨j,hj,rfl⟩:=List.mem_iff_getElem.1 hy
   exact hno j _ hj (at_some hj)
  ·intro j w hj h
   have h:=h.take (pur (j=1) (blk n1 [.int .i64 (fI pLo v.1)]))
   obtain ⟨hj1,h⟩:=h.purP
   rw [hj1]
   refine w_ld h rfl ?_
   refine w_leave h fun w h=>?_
   exact Own.retP rfl h.fin
def againP (p:Pc) (s:Snt):Pc:=(p.1,p.2.1,s.1,s.2.1,s.2.2.1,s.2.2.2.1,s.2.2.2.2,p.2.2.2.2.2.2.2.1,false)
def againF (l:List Pc) (s:Snt):List Pc:=match l[(fI pLo l).toNat]? with
 | some p=>if fI pLo l < 0 then l else l.set (fI pLo l).toNat (againP p s)
 | none=>l
theorem Again_tri (b:Nat) (s:Snt) (v:List Pc × Int) (hl:v.1.length≤4294967296):Tri Tryz.prog N_board_Board_Again [.lf (.ptr (some ⟨b,0⟩)),.agg (Ks.mk K_u4b s)] [.agg KR,.lf .bool] (brd b v) (fun r=>pur (r=lostF v.1) (brd b (againF v.1 s,v.2))) :=
 tri_0 (call_board_Board_Again _ s) fun w S R h=>by
  unfold W_board_Board_Again
  refine w_new h fun n1 w h=>?_
  refine w_new h fun n2 w h=>?_
  refine w_call (Lost_tri b v hl) h fun r w h=>?_
  obtain ⟨hr,h⟩:=h.purP
  rw [hr]
  refine w_new h fun n4 w h=>?_
  refine w_setAll h (by rfl) fun w h=>?_
  refine w_join h (fun _=>blk n4 (Ks.mk KR (lostF v.1).1)^blk n2 [.int .u64 0,.int .u64 0]^brd b (againF v.1 s,v.2)) (fun _=>True) (fun x w _ h=>?_) ?_
  ·refine w_ldAll h rfl ?_
   refine w_setAll h (by rfl) fun w h=>?_
   refine w_ldAll h rfl ?_
   exact Own.retP rfl h.fin
  ·by_cases c:0≤fI pLo v.1
   ·obtain ⟨p,hp,hpl,hlt,_⟩:=fI_some c
    have he:=lostF_yes c hp
    have ha:againF v.1 s=v.1.set (fI pLo v.1).toNat (againP p s):=by
     unfold againF
     rw [hp]
     simp only
     rw [if_neg (by omega)]
    refine w_ite (fun c2=>?_) fun c2=>by rw [he] at c2;cases c2
    refine w_drw h fun w h=>?_
    obtain ⟨sl,h⟩:=h.brd b
    refine w_deref (w_ld h rfl ?_)
    refine w_call (lost_triS b sl v hl) h fun r9 w h=>?_
    obtain ⟨hr9,h⟩:=h.purP
    rw [hr9]
    refine w_chk h rfl ?_
    refine w_idx h c hlt ?_
    refine w_drw h fun w h=>?_
    refine w_ldAll (x:=s) h rfl ?_
    refine w_deref ?_
    refine w_stA h sl (fI pLo v.1).toNat 8 p (setLo p false) hp rfl (by decide) (by simp) rfl fun w h=>?_
    refine w_chkAll h ?_
    refine w_deref ?_
    have hp2:(v.1.set (fI pLo v.1).toNat (setLo p false))[(fI pLo v.1).toNat]?=some (setLo p false):=by rw [List.getElem?_set_self hlt]
    refine w_stA h sl (fI pLo v.1).toNat 2 (setLo p false) (againP p s) hp2 rfl (by rw [Ks.len];decide) (by simp [Ks.mk]) rfl fun w h=>?_
    rw [List.set_set] at h
    rw [ha]
    exact ⟨trivial,(h.mkBrd b sl (v.1.set (fI pLo v.1).toNat (againP p s)) v.2).fin⟩
   ·have c:fI pLo v.1 < 0:=by omega
    have he:=lostF_no c
    have ha:againF v.1 s=v.1:=by
     unfold againF
     split
     ·rw [if_pos c]
     ·rfl
    refine w_ite (fun c2=>by rw [he] at c2;cases c2) fun c2=>?_
    rw [ha]
    exact ⟨trivial,h.fin⟩
theorem flight_still:∀ (B:List Pc) (n:Int),(∀ p∈B,flyP p=false)→B.foldl addF n=n
 | [],_,_=>rfl
 | p :: B,n,h=>by
  have hp:=h p List.mem_cons_self
  rw [List.foldl_cons,addF,if_neg (by rw [hp];simp)]
  exact flight_still B n (fun q hq=>h q (List.mem_cons_of_mem _ hq))
def f1 (i:Nat) (p:Pc):Pc:=match i with | 0=>p | _=>setSk p
def f2 (_:Nat) (p:Pc):Pc:=setSk p
theorem lose_none (l:List Pc):flightF (l.map loseP)=0:=by
 rw [flightF]
 refine flight_still _ 0 fun p hp=>?_
 obtain ⟨q,_,rfl⟩:=List.mem_map.1 hp
 rw [loseP]
 split
 ·simp [flyP,pLo,setLo]
 ·rename_i h;simpa using h
end Board

namespace Target
open Arith ArithC
abbrev KP:Ks:=[.int .u64,.int .u64]
def scF:Int→List (Int × Int)→Int
 | v,[]=>v
 | v,p :: r=>if v=0 then v else scF (mdI v p.1 p.2) r
theorem sc_tri (v:Int) (s:Sl) (ps:List (Int × Int)) (hv:U v) (hp:∀ p∈ps,U p.1∧U p.2) (hl:ps.length≤1000000) :
  Tri Tryz.prog N_target_scaled [.lf (.int .u64 v),.lf (.sl s)] [.lf (.int .u64)] (arr s KP ps) (fun r=>pur (r=scF v ps) (arr s KP ps)) :=
 tri_0 (call_target_scaled v s) fun w0 S R h=>by
  unfold W_target_scaled
  have h:Own w0 S R w0 (arr s KP ps^emp):=h.le (star_emp _)
  have hs:=(h.rd (s:=s)).2
  refine w_loop (fun (_:Int × Int)=>arr s KP ps^emp) (fun (y:Int × Int)=>((0≤y.2∧y.2≤ps.length)∧U y.1)∧scF y.1 (ps.drop y.2.toNat)=scF v ps) (fun (y:Int × Int)=>ps.length - y.2.toNat) h ⟨⟨⟨by simp,by simp⟩,hv⟩,rfl⟩ ?_
  rintro (⟨n,i⟩:Int × Int) w ⟨⟨⟨h0,h1⟩,hn⟩,h2⟩ h
  dsimp only at h0 h1 h2 hn h ⊢
  refine w_ite (fun c=>?_) fun c=>?_
  ·have hi:i.toNat < ps.length:=by simp at c;omega
   obtain ⟨p,hpp⟩:∃ p,ps[i.toNat]?=some p:=⟨_,at_some hi⟩
   have hU:=hp p (List.mem_of_getElem? hpp)
   rw [drop_at hpp,scF] at h2
   refine w_idx h h0 hi (w_ldE h s i.toNat hpp rfl ?_)
   refine w_new h fun n5 w h=>?_
   refine w_setAll h (by rfl) fun w h=>?_
   refine w_ite (fun c2=>?_) fun c2=>?_
   ·have c2:n=0:=by simpa using c2
    rw [if_pos c2] at h2
    exact Own.retP h2 h.fin
   have c2:¬ n=0:=by simpa using c2
   rw [if_neg c2] at h2
   have h:Own w0 S R w (blk n5 [.int .u64 p.1,.int .u64 p.2]^arr s KP ps^emp):=h
   refine ⟨by decide,w_ld h rfl ⟨by decide,w_ld h rfl ?_⟩⟩
   refine w_call (md_tri n p.1 p.2 hn hU.1 hU.2) h fun r w h=>?_
   obtain ⟨hr,h⟩:=h.purP
   rw [hr,wi (n:=i+1) (by omega) (by omega)]
   refine ⟨⟨⟨⟨⟨by show 0≤i+1;omega,by show i+1≤_;omega⟩,U_md hn hU.1 hU.2⟩,?_⟩,h.fin⟩,by show _ - (i+1).toNat < _;omega⟩
   show scF (mdI n p.1 p.2) (ps.drop (i+1).toNat)=_
   rw [show (i+1).toNat=i.toNat+1 by omega]
   exact h2
  ·have hi:i.toNat=ps.length:=by simp at c;omega
   rw [hi,List.drop_length] at h2
   exact Own.retP h2 h.fin
theorem md0 (b c:Int):mdI 0 b c=0:=by unfold mdI;simp
theorem rate_tri (bw g:Int) (hb:U bw) (hg:U g):Tri Tryz.prog N_target_Rate [.lf (.int .u64 bw),.lf (.int .u64 g)] [.lf (.int .u64)] emp (fun r=>pur (r=rateI bw g) emp) :=
 tri_0 (call_target_Rate bw g) fun w0 S R h=>by
  unfold W_target_Rate
  refine w_new h fun n1 w h=>?_
  have h:=h.arrOf ⟨some ⟨n1,0⟩,1,1⟩ ⟨n1,0⟩ KP [(g,(256:Int))] rfl rfl (Nat.le_refl _) (by simp) (by simp) (fun i hi=>by
   have:i < 2:=hi
   match i with | 0=>rfl | 1=>rfl)
  refine w_call (sc_tri bw ⟨some ⟨n1,0⟩,1,1⟩ [(g,256)] hb (by intro p hp;rw [List.mem_singleton] at hp;rw [hp];exact ⟨hg,U_lit _⟩) (by simp)) h fun r w h=>?_
  obtain ⟨hr,h⟩:=h.purP
  refine Own.retP ?_ h.fin
  rw [hr]
  show (if bw=0 then bw else mdI bw g 256)=_
  split
  ·rename_i h;rw [h,rateI,md0]
  ·rfl
theorem bdp_tri (bw rtt g:Int) (hb:U bw) (hq:U rtt) (hg:U g):Tri Tryz.prog N_target_Bdp [.lf (.int .u64 bw),.lf (.int .u64 rtt),.lf (.int .u64 g)] [.lf (.int .u64)] emp (fun r=>pur (r=bdpI bw rtt g) emp) :=
 tri_0 (call_target_Bdp bw rtt g) fun w0 S R h=>by
  unfold W_target_Bdp
  refine w_new h fun n1 w h=>?_
  have h:=h.arrOf ⟨some ⟨n1,0⟩,2,2⟩ ⟨n1,0⟩ KP [(rtt,(1000000000:Int)),(g,(256:Int))] rfl rfl (Nat.le_refl _) (by simp) (by simp) (fun i hi=>by
   have:i < 4:=hi
   match i with | 0=>rfl | 1=>rfl | 2=>rfl | 3=>rfl)
  refine w_call (sc_tri bw ⟨some ⟨n1,0⟩,2,2⟩ [(rtt,1000000000),(g,256)] hb (by
   intro p hp
   simp only [List.mem_cons,List.not_mem_nil,or_false] at hp
   rcases hp with hp | hp<;>rw [hp]
   ·exact ⟨hq,U_lit _⟩
   ·exact ⟨hg,U_lit _⟩) (by simp)) h fun r w h=>?_
  obtain ⟨hr,h⟩:=h.purP
  refine Own.retP ?_ h.fin
  rw [hr]
  show (if bw=0 then bw else if mdI bw rtt 1000000000=0 then mdI bw rtt 1000000000 else mdI (mdI bw rtt 1000000000) g 256)=_
  unfold bdpI
  split
  ·rename_i h;rw [h,md0,md0]
  ·split
   ·rename_i h;rw [h,md0]
   ·rfl
theorem win_tri (bw rtt g tso mss:Int) (hb:U bw) (hq:U rtt) (hg:U g) (ht:U tso) (hm:U mss):Tri Tryz.prog N_target_Window [.lf (.int .u64 bw),.lf (.int .u64 rtt),.lf (.int .u64 g),.lf (.int .u64 tso),.lf (.int .u64 mss)] [.lf (.int .u64)] emp (fun r=>pur (r=winI bw rtt g tso mss) emp) :=
 tri_0 (call_target_Window bw rtt g tso mss) fun w0 S R h=>by
  unfold W_target_Window
  refine w_ite (fun c=>?_) fun c=>?_
  ·repeat' (first
    | (refine w_drw h fun w h=>?_)
    | (refine w_deref ?_)
    | (refine w_ldAll h rfl ?_)
    | (refine w_ld h rfl ?_)
    | (refine w_chkAll h ?_)
    | (refine w_chk h rfl ?_)
    | (refine w_setAll h (by rfl) fun w h=>?_)
    | (refine w_new h fun n w h=>?_)
    | (refine w_leave h fun w h=>?_)
    | (refine w_set h rfl fun w h=>?_;dsimp only [upd,over] at h)
    | (refine w_call (satmul_tri 10 mss (U_lit _) hm) h fun r w h=>?_;obtain ⟨hr,h⟩:=h.purP;(try dsimp only at hr h);try rw [hr]))
   exact Own.retP (by unfold winI;rw [if_pos (show rtt=0 by simpa using c)]) h.fin
  ·repeat' (first
    | (refine w_drw h fun w h=>?_)
    | (refine w_deref ?_)
    | (refine w_ldAll h rfl ?_)
    | (refine w_ld h rfl ?_)
    | (refine w_chkAll h ?_)
    | (refine w_chk h rfl ?_)
    | (refine w_setAll h (by rfl) fun w h=>?_)
    | (refine w_new h fun n w h=>?_)
    | (refine w_leave h fun w h=>?_)
    | (refine w_set h rfl fun w h=>?_;dsimp only [upd,over] at h)
    | (refine w_call (bdp_tri bw rtt g hb hq hg) h fun r w h=>?_;obtain ⟨hr,h⟩:=h.purP;(try dsimp only at hr h);try rw [hr])
    | (refine w_call (satmul_tri 3 tso (U_lit _) ht) h fun r w h=>?_;obtain ⟨hr,h⟩:=h.purP;(try dsimp only at hr h);try rw [hr])
    | (refine w_call (satmul_tri 4 mss (U_lit _) hm) h fun r w h=>?_;obtain ⟨hr,h⟩:=h.purP;(try dsimp only at hr h);try rw [hr])
    | (refine w_call (satadd_tri (bdpI bw rtt g) (mulI 3 tso) (U_bdp hb hq hg) (U_mul (U_lit _) ht)) h fun r w h=>?_;obtain ⟨hr,h⟩:=h.purP;(try dsimp only at hr h);try rw [hr]))
   exact Own.retP (by unfold winI;rw [if_neg (show ¬ rtt=0 by simpa using c)]) h.fin
end Target

namespace BbrP
open Arith ArithC _root_.Go.X.Target BbrM
theorem wnew_tri (w:Int):Tri Tryz.prog N_winmax_New [.lf (.int .u64 w)] [.lf .ptr] emp (fun r=>ex fun n:Nat=>pur (r=some ⟨n,0⟩) (blk n (BbrLs.lsW ((Wn.mk w 0 0 0 0 0 0 0))))) :=
 tri_0 (call_winmax_New w) fun w0 S R h=>by
  unfold W_winmax_New
  refine w_new h fun n w h=>?_
  exact Own.retE n (Own.retP rfl h.fin)
theorem best_tri (b:Nat) (v:Wn):Tri Tryz.prog N_winmax_Max_Best [.lf (.ptr (some ⟨b,0⟩))] [.lf (.int .u64)] (blk b (BbrLs.lsW v)) (fun r=>pur (r=v.v0) (blk b (BbrLs.lsW v))) :=
 tri_0 (call_winmax_Max_Best _) fun w0 S R h=>by
  unfold W_winmax_Max_Best
  refine w_ite (fun c=>(by cases c)) fun _=>?_
  refine w_deref ⟨by decide,w_ld h rfl ?_⟩
  exact Own.retP rfl h.fin
theorem near_tri (t s v w:Int) (ht:U t) (hs:U s):Tri Tryz.prog N_winmax_near [.lf (.int .u64 t),.agg (Ks.mk KP (s,v)),.lf (.int .u64 w)] [.lf .bool] emp (fun r=>pur (r=!decide (far t s w)) emp) :=
 tri_0 (call_winmax_near t (s,v) w) fun w0 S R h=>by
  unfold W_winmax_near
  refine w_new h fun n w h=>?_
  refine w_ld h rfl ?_
  rw [rsub_eq ht hs]
  exact Own.retP (by unfold far;rw [Bool.eq_iff_iff];simp) h.fin
theorem push_tri (b:Nat) (v:Wn) (t x:Int):Tri Tryz.prog N_winmax_Max_push [.lf (.ptr (some ⟨b,0⟩)),.agg (Ks.mk KP (t,x))] [] (blk b (BbrLs.lsW v)) (fun _=>blk b (BbrLs.lsW ((v.push t x)))) :=
 tri_0 (call_winmax_Max_push _ (t,x)) fun w0 S R h=>by
  unfold W_winmax_Max_push
  refine w_new h fun n w h=>?_
  refine w_drw h fun w h=>?_
  refine w_ldAll h rfl ?_
  refine w_deref (w_deref (w_deref (w_deref (w_deref ⟨by decide,by decide,w_ld h rfl (w_ld h rfl ⟨by decide,?_⟩)⟩))))
  refine w_set h rfl fun w h=>?_
  dsimp only [upd,over] at h
  refine w_chkAll h ⟨by decide,?_⟩
  refine w_set h rfl fun w h=>?_
  dsimp only [upd,over] at h
  refine w_chkAll h ⟨by decide,?_⟩
  refine w_set h rfl fun w h=>?_
  dsimp only [upd,over] at h
  exact Own.keep (A:=blk b (BbrLs.lsW ((v.push t x)))) h
def stA (v:Wn) (f t x:Int) (i:Int):Wn:={ v with
 t0:=if f=0∧0 < i then t else v.t0,v0:=if f=0∧0 < i then x else v.v0
 t1:=if f≤1∧1 < f+i then t else v.t1,v1:=if f≤1∧1 < f+i then x else v.v1
 t2:=if 2 < f+i then t else v.t2,v2:=if 2 < f+i then x else v.v2 }
theorem all_tri (b : Nat) (v : Wn) (f t x : Int) (hf : f = 0 ∨ f = 1 ∨ f = 2) : Tri Tryz.prog N_winmax_Max_all [.lf (.ptr (some ⟨b, 0⟩)), .lf (.int .i64 f), .agg (Ks.mk KP (t, x))] [] (blk b (BbrLs.lsW v))
    (fun _ => blk b (BbrLs.lsW ((if f = 0 then v.all t x else if f = 1 then v.s12 t x else v.s2 t x)))) :=
  tri_0 (call_winmax_Max_all _ f (t, x)) fun w0 S R h => by
    unfold W_winmax_Max_all
    refine w_new h fun n w h => ?_
    refine w_deref ?_
    refine ⟨⟨rfl, fun _ => by simp⟩, f.toNat, 3, 3, ?_, rfl, rfl, ⟨by omega, Nat.le_refl _, Nat.le_refl _⟩, ?_⟩
    · show f = f.toNat; omega
    have h : Own w0 S R w (blk b (BbrLs.lsW ((stA v f t x 0))) ^ blk n (Ks.mk KP (t, x)) ^ emp) := by
      have h := h.blkEq (b := b) (L' := (BbrLs.lsW ((stA v f t x 0)))) (by rcases hf with rfl | rfl | rfl <;> simp [stA])
      exact h
    have hlen : ((Sl.sub ⟨some ⟨b, 0 + 1⟩, 3, 3⟩ f.toNat 3 3 2).len : Int) = 3 - f := by
      show ((3 - f.toNat : Nat) : Int) = _; omega
    refine w_loop (fun i : Int => blk b (BbrLs.lsW ((stA v f t x i))) ^ blk n (Ks.mk KP (t, x)) ^ emp) (fun i : Int => 0 ≤ i ∧ i ≤ 3 - f) (fun i : Int => 3 - i.toNat) h ⟨Int.le_refl _, by omega⟩ ?_
    rintro (i : Int) w ⟨h0, h1⟩ h
    rw [hlen]
    refine w_ite (fun c => ?_) fun c => ?_
    · have c : i < 3 - f := by simpa using c
      refine w_drw h fun w h => w_ldAll h rfl (w_deref ?_)
      rw [wi (n := f + i) (by omega) (by omega), wi (n := i + 1) (by omega) (by omega)]
      refine ⟨by omega, ?_⟩
      have hi : (f = 0 ∧ i = 0) ∨ (f = 0 ∧ i = 1) ∨ (f = 0 ∧ i = 2) ∨ (f = 1 ∧ i = 0) ∨ (f = 1 ∧ i = 1) ∨ (f = 2 ∧ i = 0) := by omega
      refine w_setTo h b (BbrLs.lsW ((stA v f t x (i + 1)))) rfl ?_ ?_ fun w h => ?_
      · rcases hi with ⟨rfl, rfl⟩ | ⟨rfl, rfl⟩ | ⟨rfl, rfl⟩ | ⟨rfl, rfl⟩ | ⟨rfl, rfl⟩ | ⟨rfl, rfl⟩ <;> rfl
      · rcases hi with ⟨rfl, rfl⟩ | ⟨rfl, rfl⟩ | ⟨rfl, rfl⟩ | ⟨rfl, rfl⟩ | ⟨rfl, rfl⟩ | ⟨rfl, rfl⟩ <;> rfl
      · exact ⟨⟨⟨by show 0 ≤ i + 1; omega, by show i + 1 ≤ _; omega⟩, h⟩, by show 3 - (i + 1).toNat < 3 - i.toNat; omega⟩
    · have c : i = 3 - f := by have : ¬ i < 3 - f := by simpa using c
                               omega
      subst c
      refine Own.keep (A := blk b (BbrLs.lsW ((if f = 0 then v.all t x else if f = 1 then v.s12 t x else v.s2 t x)))) (h.blkEq (b := b) ?_)
      rcases hf with rfl | rfl | rfl <;> simp [stA, Wn.all, Wn.s12, Wn.s2]
theorem reset_tri (b:Nat) (v:Wn) (t x:Int):Tri Tryz.prog N_winmax_Max_Reset [.lf (.ptr (some ⟨b,0⟩)),.lf (.int .u64 t),.lf (.int .u64 x)] [] (blk b (BbrLs.lsW v)) (fun _=>blk b (BbrLs.lsW (((v.tick t).all t x)))) :=
 tri_0 (call_winmax_Max_Reset _ t x) fun w0 S R h=>by
  unfold W_winmax_Max_Reset
  refine w_ite (fun c=>(by cases c)) fun _=>?_
  refine w_deref (w_ld h rfl (w_deref ?_))
  refine w_setTo h b (BbrLs.lsW ((v.tick t))) rfl rfl rfl fun w h=>?_
  refine w_call (all_tri b (v.tick t) 0 t x (.inl rfl)) h fun r w h=>?_
  exact Own.keep (A:=blk b (BbrLs.lsW (((v.tick t).all t x)))) h
end BbrP

namespace BbrW
open Arith ArithC _root_.Go.X.Target BbrM BbrP
theorem U4 {w:Int} (h:U w):IntKind.u64.wrap (w.tdiv 4)=w / 4:=by
 unfold U at h;rw [Int.tdiv_eq_ediv_of_nonneg h.1,wu (by omega) (by omega)]
theorem U2 {w:Int} (h:U w):IntKind.u64.wrap (w.tdiv 2)=w / 2:=by
 unfold U at h;rw [Int.tdiv_eq_ediv_of_nonneg h.1,wu (by omega) (by omega)]
theorem maxupd_tri (b : Nat) (v : Wn) (hv : OkW v) (t x : Int) (ht : U t) (hx : U x) : Tri Tryz.prog N_winmax_Max_Update [.lf (.ptr (some ⟨b, 0⟩)), .lf (.int .u64 t), .lf (.int .u64 x)] [.lf (.int .u64)] (blk b (BbrLs.lsW v))
    (fun r => pur (r = (wUpd v t x).v0) (blk b (BbrLs.lsW ((wUpd v t x))))) :=
  tri_0 (call_winmax_Max_Update _ t x) fun w0 S R h => by
    unfold W_winmax_Max_Update
    refine w_ite (fun c => (by cases c)) fun _ => ?_
    refine w_deref (w_ld h rfl (w_deref ?_))
    refine w_setTo h b (BbrLs.lsW ((v.tick t))) rfl rfl rfl fun w h => ?_
    have hu := hv.tick ht
    have e0 : wUpd v t x = wU (v.tick t) (v.tick t).la x := rfl
    rw [e0]
    generalize v.tick t = u at *
    refine w_deref (w_ld h rfl ?_)
    refine w_new h fun n w h => ?_
    refine w_setTo h n [.int .u64 u.la, .int .u64 x] rfl rfl rfl fun w h => ?_
    have h : Own w0 S R w (blk b (BbrLs.lsW u) ^ blk n [.int .u64 u.la, .int .u64 x]) := h.fin
    refine w_join h (fun _ => blk b (BbrLs.lsW u) ^ blk n [.int .u64 u.la, .int .u64 x]) (fun y : Bool => y = decide (x ≥ u.v0 ∨ far u.la u.t2 u.w)) (fun (y : Bool) w hy h => ?_) ?_
    · rw [hy]
      refine w_ite (fun c => ?_) fun c => ?_
      · have c : x ≥ u.v0 ∨ far u.la u.t2 u.w := by simpa using c
        refine w_ld h rfl ?_
        refine w_call (reset_tri b u u.la x) h fun r w h => ?_
        have e : wU u u.la x = u.all u.la x := by unfold wU; rw [if_pos c]
        rw [e]
        have e2 : u.tick u.la = u := by unfold Wn.tick; simp
        rw [e2] at h
        exact Own.retP rfl h.keep
      have c : ¬ (x ≥ u.v0 ∨ far u.la u.t2 u.w) := by simpa using c
      have e : wU u u.la x = wS2 (wS1 u u.la x) u.la x := by unfold wU; rw [if_neg c]
      rw [e]
      refine w_join h (fun _ => blk b (BbrLs.lsW ((wS1 u u.la x))) ^ blk n [.int .u64 u.la, .int .u64 x]) (fun _ => True) (fun _ w _ h => ?_) ?_
      · have hs := hu.wS1 hu.la hx
        have hT := hu.la
        generalize u.la = T at *
        generalize wS1 u T x = s at *
        refine w_join h (fun _ => blk b (BbrLs.lsW ((wS2 s T x))) ^ blk n [.int .u64 T, .int .u64 x]) (fun _ => True) (fun _ w _ h => ?_) ?_
        · refine w_deref ⟨by decide, w_ld h rfl ?_⟩
          exact Own.retP rfl h.keep
        refine w_drw h fun w h => w_ld h rfl (w_deref (w_deref ⟨by decide, w_ld h rfl (w_ld (x := (s.t0, s.v0)) h rfl ?_)⟩))
        refine w_call (near_tri T s.t0 s.v0 s.w hT hs.t0) h fun r w h => ?_
        obtain ⟨hr, h⟩ := h.purP
        rw [hr, Bool.not_not]
        refine w_ite (fun c1 => ?_) fun c1 => ?_
        · have c1 : far T s.t0 s.w := by simpa using c1
          refine w_ldAll (x := (T, x)) h rfl ?_
          refine w_call (push_tri b s T x) h fun r w h => ?_
          refine w_drw h fun w h => w_ld h rfl (w_deref (w_deref ⟨by decide, w_ld h rfl (w_ld (x := (s.t1, s.v1)) h rfl ?_)⟩))
          refine w_call (near_tri T s.t1 s.v1 s.w hT hs.t1) h fun r w h => ?_
          obtain ⟨hr, h⟩ := h.purP
          rw [hr, Bool.not_not]
          refine w_ite (fun c2 => ?_) fun c2 => ?_
          · have c2 : far T s.t1 s.w := by simpa using c2
            refine w_ldAll (x := (T, x)) h rfl ?_
            refine w_call (push_tri b (s.push T x) T x) h fun r w h => ?_
            have e : wS2 s T x = (s.push T x).push T x := by unfold wS2; rw [if_pos c1, if_pos c2]
            rw [e]
            exact ⟨trivial, h.fin⟩
          · have c2 : ¬ far T s.t1 s.w := by simpa using c2
            have e : wS2 s T x = s.push T x := by unfold wS2; rw [if_pos c1, if_neg c2]
            rw [e]
            exact ⟨trivial, h.fin⟩
        have c1 : ¬ far T s.t0 s.w := by simpa using c1
        have hf : ∀ k, (wS2 s T x = k) = ((if s.t1 = s.t0 ∧ far T s.t0 (s.w / 4) then s.s12 T x else if s.t2 = s.t1 ∧ far T s.t0 (s.w / 2) then s.s2 T x else s) = k) := fun k => by unfold wS2; rw [if_neg c1]
        refine w_join h (fun _ => blk b (BbrLs.lsW s) ^ blk n [.int .u64 T, .int .u64 x]) (fun y : Bool => y = decide (s.t1 = s.t0 ∧ far T s.t0 (s.w / 4))) (fun (y : Bool) w hy h => ?_) ?_
        · rw [hy]
          refine w_ite (fun c2 => ?_) fun c2 => ?_
          · have c2 : s.t1 = s.t0 ∧ far T s.t0 (s.w / 4) := by simpa using c2
            refine w_ldAll (x := (T, x)) h rfl ?_
            refine w_call (all_tri b s 1 T x (.inr (.inl rfl))) h fun r w h => ?_
            have e : wS2 s T x = s.s12 T x := by rw [hf, if_pos c2]
            rw [e]
            have h : Own w0 S R w (blk b (BbrLs.lsW ((s.s12 T x))) ^ blk n [.int .u64 T, .int .u64 x]) := h
            exact ⟨trivial, h⟩
          have c2 : ¬ (s.t1 = s.t0 ∧ far T s.t0 (s.w / 4)) := by simpa using c2
          refine w_join h (fun _ => blk b (BbrLs.lsW s) ^ blk n [.int .u64 T, .int .u64 x]) (fun y : Bool => y = decide (s.t2 = s.t1 ∧ far T s.t0 (s.w / 2))) (fun (y : Bool) w hy h => ?_) ?_
          · rw [hy]
            refine w_ite (fun c3 => ?_) fun c3 => ?_
            · have c3 : s.t2 = s.t1 ∧ far T s.t0 (s.w / 2) := by simpa using c3
              refine w_ldAll (x := (T, x)) h rfl ?_
              refine w_call (all_tri b s 2 T x (.inr (.inr rfl))) h fun r w h => ?_
              have e : wS2 s T x = s.s2 T x := by rw [hf, if_neg c2, if_pos c3]
              rw [e]
              have h : Own w0 S R w (blk b (BbrLs.lsW ((s.s2 T x))) ^ blk n [.int .u64 T, .int .u64 x]) := h
              exact ⟨trivial, h⟩
            · have c3 : ¬ (s.t2 = s.t1 ∧ far T s.t0 (s.w / 2)) := by simpa using c3
              have e : wS2 s T x = s := by rw [hf, if_neg c2, if_neg c3]
              rw [e]
              exact ⟨trivial, h.fin⟩
          · refine w_drw h fun w h => w_deref (w_deref ⟨by decide, by decide, w_ld h rfl (w_ld h rfl ?_)⟩)
            refine w_ite (fun c3 => ?_) fun c3 => ?_
            · have c3 : s.t2 = s.t1 := by simpa using c3
              refine w_ld h rfl (w_deref (w_deref ⟨by decide, w_ld h rfl (w_ld (x := (s.t0, s.v0)) h rfl ?_)⟩))
              rw [U2 hs.w]
              refine w_call (near_tri T s.t0 s.v0 (s.w / 2) hT hs.t0) h fun r w h => ?_
              obtain ⟨hr, h⟩ := h.purP
              exact ⟨by rw [hr, Bool.not_not]; simp [c3], h.fin⟩
            · have c3 : ¬ s.t2 = s.t1 := by simpa using c3
              exact ⟨by simp [c3], h.fin⟩
        · refine w_drw h fun w h => w_deref (w_deref ⟨by decide, by decide, w_ld h rfl (w_ld h rfl ?_)⟩)
          refine w_ite (fun c3 => ?_) fun c3 => ?_
          · have c3 : s.t1 = s.t0 := by simpa using c3
            refine w_ld h rfl (w_deref (w_deref ⟨by decide, w_ld h rfl (w_ld (x := (s.t0, s.v0)) h rfl ?_)⟩))
            rw [U4 hs.w]
            refine w_call (near_tri T s.t0 s.v0 (s.w / 4) hT hs.t0) h fun r w h => ?_
            obtain ⟨hr, h⟩ := h.purP
            exact ⟨by rw [hr, Bool.not_not]; simp [c3], h.fin⟩
          · have c3 : ¬ s.t1 = s.t0 := by simpa using c3
            exact ⟨by simp [c3], h.fin⟩
      · refine w_loop (fun _ : Int => blk b (BbrLs.lsW u) ^ blk n [.int .u64 u.la, .int .u64 x]) (fun i : Int => (0 ≤ i ∧ i ≤ 3) ∧ (i ≥ 2 → ¬ x ≥ u.v1) ∧ (i ≥ 3 → ¬ x ≥ u.v2)) (fun i : Int => 3 - i.toNat) h ⟨⟨by simp, by simp⟩, by simp, by simp⟩ ?_
        rintro (i : Int) w ⟨⟨h0, h1⟩, h2, h3⟩ h
        refine w_ite (fun c => ?_) fun c => ?_
        · have c : i < 3 := by simpa using c
          have hi : i = 0 ∨ i = 1 ∨ i = 2 := by omega
          refine w_join h (fun _ => blk b (BbrLs.lsW u) ^ blk n [.int .u64 u.la, .int .u64 x]) (fun y : Bool => y = (decide (i = 1 ∧ x ≥ u.v1) || decide (i = 2 ∧ x ≥ u.v2))) (fun (y : Bool) w hy h => ?_) ?_
          · rw [hy]
            refine w_ite (fun c2 => ?_) fun c2 => ?_
            · refine w_ldAll (x := (u.la, x)) h rfl ?_
              refine w_call (all_tri b u i u.la x hi) h fun r w h => ?_
              have c2 : (i = 1 ∧ x ≥ u.v1) ∨ (i = 2 ∧ x ≥ u.v2) := by simpa using c2
              have e : wS1 u u.la x = if i = 0 then u.all u.la x else if i = 1 then u.s12 u.la x else u.s2 u.la x := by
                unfold wS1
                rcases c2 with ⟨rfl, cc⟩ | ⟨rfl, cc⟩
                · rw [if_pos cc]; rfl
                · rw [if_neg (h2 (by omega)), if_pos cc]; rfl
              rw [e]
              exact ⟨trivial, h.fin⟩
            · have c2 : ¬ ((i = 1 ∧ x ≥ u.v1) ∨ (i = 2 ∧ x ≥ u.v2)) := by simpa using c2
              rw [wi (n := i + 1) (by omega) (by omega)]
              refine ⟨⟨⟨⟨by omega, by omega⟩, fun hh => ?_, fun hh => ?_⟩, h⟩, by omega⟩
              · by_cases hi1 : i = 1
                · intro hx1; exact c2 (.inl ⟨hi1, hx1⟩)
                · exact h2 (by omega)
              · intro hx1; exact c2 (.inr ⟨by omega, hx1⟩)
          · refine w_ite (fun c2 => ?_) fun c2 => ?_
            · have c2 : i > 0 := by simpa using c2
              refine w_deref ⟨⟨h0, c⟩, ?_⟩
              have hi : i = 1 ∨ i = 2 := by omega
              rcases hi with rfl | rfl
              · exact w_ld h rfl ⟨by simp, h⟩
              · exact w_ld h rfl ⟨by simp, h⟩
            · have c2 : i = 0 := by have : ¬ i > 0 := by simpa using c2
                                    omega
              exact ⟨by simp [c2], h⟩
        · have c : i = 3 := by have : ¬ i < 3 := by simpa using c
                               omega
          have e : wS1 u u.la x = u := by unfold wS1; rw [if_neg (h2 (by omega)), if_neg (h3 (by omega))]
          rw [e]
          exact ⟨trivial, h⟩
    · refine w_drw h fun w h => w_deref ⟨by decide, w_ld h rfl ?_⟩
      refine w_ite (fun c => ?_) fun c => ?_
      · have c : x ≥ u.v0 := by simpa using c
        exact ⟨by simp [c], h⟩
      · have c : ¬ x ≥ u.v0 := by simpa using c
        refine w_ld h rfl (w_deref (w_deref ⟨by decide, w_ld h rfl (w_ld (x := (u.t2, u.v2)) h rfl ?_)⟩))
        refine w_call (near_tri u.la u.t2 u.v2 u.w hu.la hu.t2) h fun r w h => ?_
        obtain ⟨hr, h⟩ := h.purP
        exact ⟨by rw [hr, Bool.not_not]; simp [c], h.fin⟩
end BbrW

namespace BbrQ
open Arith ArithC _root_.Go.X.Target BbrM
theorem rnew_tri:Tri Tryz.prog N_rounds_New [] [.lf .ptr] emp (fun r=>ex fun n:Nat=>pur (r=some ⟨n,0⟩) (blk n (BbrLs.lsR ((Rnd.mk 0 0))))) :=
 tri_0 call_rounds_New fun w0 S R h=>by
  unfold W_rounds_New
  refine w_new h fun n w h=>?_
  exact Own.retE n (Own.retP rfl h.fin)
theorem pnew_tri:Tri Tryz.prog N_pipe_New [] [.lf .ptr] emp (fun r=>ex fun n:Nat=>pur (r=some ⟨n,0⟩) (blk n (BbrLs.lsP ((Pp.mk 0 0 false))))) :=
 tri_0 call_pipe_New fun w0 S R h=>by
  unfold W_pipe_New
  refine w_new h fun n w h=>?_
  exact Own.retE n (Own.retP rfl h.fin)
theorem cnew_tri:Tri Tryz.prog N_cycle_New [] [.lf .ptr] emp (fun r=>ex fun n:Nat=>pur (r=some ⟨n,0⟩) (blk n (BbrLs.lsC ((Cy.mk 0 0))))) :=
 tri_0 call_cycle_New fun w0 S R h=>by
  unfold W_cycle_New
  refine w_new h fun n w h=>?_
  exact Own.retE n (Own.retP rfl h.fin)
theorem bnew_tri:Tri Tryz.prog N_probe_New [] [.lf .ptr] emp (fun r=>ex fun n:Nat=>pur (r=some ⟨n,0⟩) (blk n (BbrLs.lsB ((Pb.mk 0 0 false 0 false))))) :=
 tri_0 call_probe_New fun w0 S R h=>by
  unfold W_probe_New
  refine w_new h fun n w h=>?_
  exact Own.retE n (Own.retP rfl h.fin)
theorem lnew_tri:Tri Tryz.prog N_policer_New [] [.lf .ptr] emp (fun r=>ex fun n:Nat=>pur (r=some ⟨n,0⟩) (blk n (BbrLs.lsL ((Pl.mk false false 0 0 0 0 0 0))))) :=
 tri_0 call_policer_New fun w0 S R h=>by
  unfold W_policer_New
  refine w_new h fun n w h=>?_
  exact Own.retE n (Own.retP rfl h.fin)
theorem count_tri (b:Nat) (r:Rnd):Tri Tryz.prog N_rounds_Rounds_Count [.lf (.ptr (some ⟨b,0⟩))] [.lf (.int .u64)] (blk b (BbrLs.lsR r)) (fun x=>pur (x=r.n) (blk b (BbrLs.lsR r))) :=
 tri_0 (call_rounds_Rounds_Count _) fun w0 S R h=>by
  unfold W_rounds_Rounds_Count
  refine w_ite (fun c=>(by cases c)) fun _=>w_deref (w_ld h rfl ?_)
  exact Own.retP rfl h.fin
theorem phase_tri (b:Nat) (c:Cy):Tri Tryz.prog N_cycle_Cycle_Phase [.lf (.ptr (some ⟨b,0⟩))] [.lf (.int .i64)] (blk b (BbrLs.lsC c)) (fun x=>pur (x=c.ph) (blk b (BbrLs.lsC c))) :=
 tri_0 (call_cycle_Cycle_Phase _) fun w0 S R h=>by
  unfold W_cycle_Cycle_Phase
  refine w_ite (fun c=>(by cases c)) fun _=>w_deref (w_ld h rfl ?_)
  exact Own.retP rfl h.fin
theorem full_tri (b:Nat) (p:Pp):Tri Tryz.prog N_pipe_Pipe_Full [.lf (.ptr (some ⟨b,0⟩))] [.lf .bool] (blk b (BbrLs.lsP p)) (fun x=>pur (x=p.full) (blk b (BbrLs.lsP p))) :=
 tri_0 (call_pipe_Pipe_Full _) fun w0 S R h=>by
  unfold W_pipe_Pipe_Full
  refine w_ite (fun _=>w_deref (w_ld h rfl ?_)) fun c=>(by cases c)
  exact Own.retP rfl h.fin
theorem bbest_tri (b:Nat) (v:Pb):Tri Tryz.prog N_probe_Probe_Best [.lf (.ptr (some ⟨b,0⟩))] [.lf (.int .u64)] (blk b (BbrLs.lsB v)) (fun x=>pur (x=v.best) (blk b (BbrLs.lsB v))) :=
 tri_0 (call_probe_Probe_Best _) fun w0 S R h=>by
  unfold W_probe_Probe_Best
  refine w_ite (fun c=>(by cases c)) fun _=>w_deref (w_ld h rfl ?_)
  exact Own.retP rfl h.fin
theorem gain_tri (b:Nat) (c:Cy):Tri Tryz.prog N_cycle_Cycle_Gain [.lf (.ptr (some ⟨b,0⟩))] [.lf (.int .u64)] (blk b (BbrLs.lsC c)) (fun x=>pur (x=cG c) (blk b (BbrLs.lsC c))) :=
 tri_0 (call_cycle_Cycle_Gain _) fun w0 S R h=>by
  unfold W_cycle_Cycle_Gain
  refine w_ite (fun _=>w_deref (w_ld h rfl ?_)) fun c=>(by cases c)
  refine w_ite (fun c1=>?_) fun c1=>?_
  ·exact Own.retP (by unfold cG;rw [if_pos (by simpa using c1)]) h.fin
  refine w_ite (fun c2=>?_) fun c2=>?_
  ·exact Own.retP (by unfold cG;rw [if_neg (by simpa using c1),if_pos (by simpa using c2)]) h.fin
  ·exact Own.retP (by unfold cG;rw [if_neg (by simpa using c1),if_neg (by simpa using c2)]) h.fin
theorem luse_tri (b:Nat) (q:Pl):Tri Tryz.prog N_policer_Policer_Use [.lf (.ptr (some ⟨b,0⟩))] [.lf (.int .u64),.lf .bool] (blk b (BbrLs.lsL q)) (fun x=>pur (x=(if q.use then q.bw else 0,q.use)) (blk b (BbrLs.lsL q))) :=
 tri_0 (call_policer_Policer_Use _) fun w0 S R h=>by
  unfold W_policer_Policer_Use
  refine w_join h (fun _=>blk b (BbrLs.lsL q)) (fun _=>q.use=true) (fun _ w hu h=>?_) ?_
  ·refine w_deref (w_ld h rfl ?_)
   exact Own.retP (by rw [hu];rfl) h
  ·refine w_ite (fun c=>(by cases c)) fun _=>w_deref (w_ld h rfl ?_)
   refine w_ite (fun c=>?_) fun c=>?_
   ·have c:q.use=false:=by simpa using c
    exact Own.retP (by rw [c];rfl) h
   ·exact ⟨by simpa using c,h⟩
theorem rupd_tri (b:Nat) (r:Rnd) (s:Sm):Tri Tryz.prog N_rounds_Rounds_Update [.lf (.ptr (some ⟨b,0⟩)),.agg (Ks.mk K_u8b s)] [.lf .bool] (blk b (BbrLs.lsR r)) (fun x=>pur (x=rB r s) (blk b (BbrLs.lsR ((rU r s))))) :=
 tri_0 (call_rounds_Rounds_Update _ _) fun w0 S R h=>by
  unfold W_rounds_Rounds_Update
  refine w_new h fun n w h=>?_
  refine w_loop (fun _:Bool=>blk n (Ks.mk K_u8b s)^blk b (BbrLs.lsR r)) (fun y:Bool=>y=false) (fun _=>0) h rfl ?_
  rintro (y:Bool) w hy h
  rw [hy]
  refine w_join h (fun _=>blk n (Ks.mk K_u8b s)^blk b (BbrLs.lsR r)) (fun _=>sAck s > 0) (fun _ w c1 h=>?_) ?_
  ·refine w_drw h fun w h=>w_ld h rfl (w_deref (w_ld h rfl ?_))
   refine w_ite (fun c2=>?_) fun c2=>?_
   ·have e:rB r s=false:=by unfold rB;simp at c2 ⊢;intro _;exact c2
    have e2:rU r s=r:=by unfold rU;rw [e];rfl
    rw [e2]
    exact Own.retP e.symm h.fin
   ·have e:rB r s=true:=by unfold rB;simp at c2 ⊢;exact ⟨c1,c2⟩
    have e2:rU r s=⟨IntKind.u64.wrap (r.n+1),sDel s⟩:=by unfold rU;rw [e];rfl
    rw [e2]
    refine w_ld h rfl (w_deref ?_)
    refine w_setTo h b [.int .u64 r.n,.int .u64 (sDel s)] rfl rfl rfl fun w h=>?_
    refine w_deref (w_ld h rfl (w_deref ?_))
    refine w_setTo h b [.int .u64 (IntKind.u64.wrap (r.n+1)),.int .u64 (sDel s)] rfl rfl rfl fun w h=>?_
    exact Own.retP e.symm h.fin
  ·refine w_ite (fun _=>w_ld h rfl ?_) fun c=>(by cases c)
   refine w_ite (fun c=>?_) fun c=>?_
   ·exact ⟨by simpa using c,h⟩
   ·have e:rB r s=false:=by unfold rB;rw [show decide (sAck s > 0)=false from c];rfl
    have e2:rU r s=r:=by unfold rU;rw [e];rfl
    rw [e2]
    exact Own.retP e.symm h.fin
theorem pupd_tri (b:Nat) (p:Pp) (hp:OkP p) (a l:Bool) (bw:Int) (hb:U bw):Tri Tryz.prog N_pipe_Pipe_Update [.lf (.ptr (some ⟨b,0⟩)),.lf (.bool a),.lf (.bool l),.lf (.int .u64 bw)] [.lf .bool] (blk b (BbrLs.lsP p)) (fun x=>pur (x=(pU p a l bw).full) (blk b (BbrLs.lsP ((pU p a l bw))))) :=
 tri_0 (call_pipe_Pipe_Update _ _ _ _) fun w0 S R h=>by
  unfold W_pipe_Pipe_Update
  refine w_join h (fun _=>blk b (BbrLs.lsP ((pU p a l bw)))) (fun _=>True) (fun _ w _ h=>?_) ?_
  ·refine w_call (full_tri b (pU p a l bw)) h fun r w h=>?_
   obtain ⟨hr,h⟩:=h.purP
   exact Own.retP hr h.fin
  refine w_loop (fun _:Unit=>blk b (BbrLs.lsP p)) (fun _:Unit=>True) (fun _=>0) h trivial ?_
  rintro _ w _ h
  refine w_join h (fun _=>blk b (BbrLs.lsP p)) (fun _=>(!p.full && a && !l)=true) (fun _ w c h=>?_) ?_
  ·refine w_deref (w_ld h rfl ?_)
   refine w_call (md_tri p.best 320 256 hp.best (U_lit _) (U_lit _)) h fun r w h=>?_
   obtain ⟨hr,h⟩:=h.purP
   rw [hr]
   refine w_ite (fun c2=>?_) fun c2=>?_
   ·have c2:bw ≥ mdI p.best 320 256:=by simpa using c2
    have e:pU p a l bw=⟨bw,0,p.full⟩:=by unfold pU;rw [if_pos c,if_pos c2]
    rw [e]
    refine w_deref (w_setTo h b [.int .u64 bw,.int .i64 p.n,.bool p.full] rfl rfl rfl fun w h=>?_)
    refine w_deref (w_setTo h b [.int .u64 bw,.int .i64 0,.bool p.full] rfl rfl rfl fun w h=>?_)
    exact ⟨trivial,h.fin⟩
   ·have c2:¬ bw ≥ mdI p.best 320 256:=by simpa using c2
    have e:pU p a l bw=⟨p.best,p.n+1,decide (p.n+1=3)⟩:=by unfold pU;rw [if_pos c,if_neg c2]
    rw [e]
    have hn:=hp.n
    refine w_deref (w_ld h rfl (w_deref ?_))
    rw [wi (n:=p.n+1) (by omega) (by omega)]
    refine w_setTo h b [.int .u64 p.best,.int .i64 (p.n+1),.bool p.full] rfl rfl rfl fun w h=>?_
    refine w_deref (w_ld h rfl (w_deref ?_))
    refine w_setTo h b [.int .u64 p.best,.int .i64 (p.n+1),.bool (decide (p.n+1=3))] rfl rfl rfl fun w h=>?_
    exact ⟨trivial,h.fin⟩
  ·refine w_ite (fun _=>w_deref (w_ld h rfl ?_)) fun c=>(by cases c)
   refine w_ite (fun c=>?_) fun c=>?_
   ·exact ⟨c,h⟩
   ·have e:pU p a l bw=p:=by unfold pU;rw [if_neg (by rw [c];simp)]
    rw [e]
    exact ⟨trivial,h⟩
theorem ph8 {ph:Int} (h0:0≤ph) (h1:ph≤1000):(IntKind.i64.wrap (ph.tmod 8+8)).tmod 8=ph % 8:=by
 rw [Int.tmod_eq_emod_of_nonneg h0,wi (by omega) (by omega),Int.tmod_eq_emod_of_nonneg (by omega)];omega
theorem cst_tri (b:Nat) (c:Cy) (now ph:Int) (h0:0≤ph) (h1:ph≤1000):Tri Tryz.prog N_cycle_Cycle_Start [.lf (.ptr (some ⟨b,0⟩)),.lf (.int .u64 now),.lf (.int .i64 ph)] [] (blk b (BbrLs.lsC c)) (fun _=>blk b (BbrLs.lsC ((cSt now ph)))) :=
 tri_0 (call_cycle_Cycle_Start _ _ _) fun w0 S R h=>by
  unfold W_cycle_Cycle_Start
  refine w_ite (fun _=>?_) fun c=>(by cases c)
  rw [ph8 h0 h1]
  refine w_deref (w_setTo h b [.int .i64 (ph % 8),.int .u64 c.at'] rfl rfl rfl fun w h=>?_)
  refine w_deref (w_setTo h b [.int .i64 (ph % 8),.int .u64 now] rfl rfl rfl fun w h=>?_)
  exact Own.keep (A:=blk b (BbrLs.lsC ((cSt now ph)))) h
def cE (c:Cy) (over:Bool) (lost fl up one:Int):Bool:=if c.ph=0 then over && (decide (lost > 0) || decide (fl ≥ up)) else if c.ph=1 then over || decide (fl≤one) else over
theorem cE_B (c:Cy) (now rtt lost fl up one:Int):cE c (decide (subI now c.at' > rtt)) lost fl up one=cB c now rtt lost fl up one:=rfl
theorem cends_tri (b:Nat) (c:Cy) (over:Bool) (lost fl up one:Int):Tri Tryz.prog N_cycle_Cycle_ends [.lf (.ptr (some ⟨b,0⟩)),.lf (.bool over),.lf (.int .u64 lost),.lf (.int .u64 fl),.lf (.int .u64 up),.lf (.int .u64 one)] [.lf .bool] (blk b (BbrLs.lsC c)) (fun x=>pur (x=cE c over lost fl up one) (blk b (BbrLs.lsC c))) :=
 tri_0 (call_cycle_Cycle_ends _ _ _ _ _ _) fun w0 S R h=>by
  unfold W_cycle_Cycle_ends
  refine w_deref (w_ld h rfl ?_)
  refine w_ite (fun c1=>?_) fun c1=>?_
  ·exact Own.retP (by unfold cE;rw [if_pos (by simpa using c1)]) h.fin
  refine w_ite (fun c2=>?_) fun c2=>?_
  ·exact Own.retP (by unfold cE;rw [if_neg (by simpa using c1),if_pos (by simpa using c2)]) h.fin
  ·exact Own.retP (by unfold cE;rw [if_neg (by simpa using c1),if_neg (by simpa using c2)]) h.fin
theorem cupd_tri (b:Nat) (c:Cy) (hc:OkC c) (now rtt lost fl up one:Int) (hn:U now):Tri Tryz.prog N_cycle_Cycle_Update [.lf (.ptr (some ⟨b,0⟩)),.lf (.int .u64 now),.lf (.int .u64 rtt),.lf (.int .u64 lost),.lf (.int .u64 fl),.lf (.int .u64 up),.lf (.int .u64 one)] [.lf .bool] (blk b (BbrLs.lsC c)) (fun x=>blk b (BbrLs.lsC ((cU c now rtt lost fl up one)))) :=
 tri_0 (call_cycle_Cycle_Update _ _ _ _ _ _ _) fun w0 S R h=>by
  unfold W_cycle_Cycle_Update
  refine w_loop (fun _:Bool=>blk b (BbrLs.lsC c)) (fun _:Bool=>True) (fun _=>0) h trivial ?_
  rintro _ w _ h
  refine w_join h (fun _=>blk b (BbrLs.lsC c)) (fun _=>cB c now rtt lost fl up one=true) (fun _ w c1 h=>?_) ?_
  ·have hp:=hc.ph
   refine w_deref (w_ld h rfl ?_)
   rw [wi (n:=c.ph+1) (by omega) (by omega)]
   refine w_call (cst_tri b c now (c.ph+1) (by omega) (by omega)) (h.le (star_emp _)) fun r w h=>?_
   have e:cU c now rtt lost fl up one=cSt now (c.ph+1):=by unfold cU;rw [if_pos c1]
   rw [e]
   exact h.keep
  ·refine w_ite (fun _=>w_deref (w_ld h rfl ?_)) fun c=>(by cases c)
   refine w_call (satsub_tri now c.at' hn hc.at') h fun r w h=>?_
   obtain ⟨hr,h⟩:=h.purP
   rw [hr]
   refine w_call (cends_tri b c _ lost fl up one) h fun r w h=>?_
   obtain ⟨hr,h⟩:=h.purP
   rw [hr,cE_B]
   refine w_ite (fun c1=>?_) fun c1=>?_
   ·exact ⟨c1,h.fin⟩
   ·have e:cU c now rtt lost fl up one=c:=by unfold cU;rw [c1];rfl
    rw [e]
    exact h.fin
end BbrQ

end Go.X
