/- Contracts and plain facts: Target BbrP BbrW BbrV BbrL. -/
import Derived.Test.YtkideobegadadaaGreatB0
import Derived.Test.YtkideobegadadaaGreatB1
import Derived.Test.YtkideobegadadaaGreatK
import Derived.Test.YtkideobegadadaaGreatF0
import Derived.Test.YtkideobegadadaaGreatF1
import Derived.Test.YtkideobegadadaaGreatF2
set_option linter.unusedVariables false
set_option linter.unusedSimpArgs false
set_option linter.unusedSectionVars false
namespace Go.X
open Go.Proofs
namespace Target
open Arith ArithC
abbrev KP:Ks:=[.int .u64,.int .u64]
def scF:Int→List (Int × Int)→Int
 | v,[]=>v
 | v,p :: r=>if v=0 then v else scF (mdI v p.1 p.2) r
theorem sc_tri (v:Int) (s:Sl) (ps:List (Int × Int)) (hv:U v) (hp:∀ p∈ps,U p.1∧U p.2) (hl:ps.length≤1000000) :
  Tri Tryz.prog N_target_scaled [.lf (.int .u64 v),.lf (.sl s)] [.lf (.int .u64)] (arr s KP ps) (fun r=>pur (r=scF v ps) (arr s KP ps)) :=
 tri_0 (call_target_scaled v s) fun w0 S R h=>by
  unfold W_target_scaled
  have h:Own w0 S R w0 (arr s KP ps^emp):=h.le (star_emp _)
  have hs:=(h.rd (s:=s)).2
  refine w_loop (fun (_:Int × Int)=>arr s KP ps^emp) (fun (y:Int × Int)=>((0≤y.2∧y.2≤ps.length)∧U y.1)∧scF y.1 (ps.drop y.2.toNat)=scF v ps) (fun (y:Int × Int)=>ps.length - y.2.toNat) h ⟨⟨⟨by simp,by simp⟩,hv⟩,rfl⟩ ?_
  rintro (⟨n,i⟩:Int × Int) w ⟨⟨⟨h0,h1⟩,hn⟩,h2⟩ h
  dsimp only at h0 h1 h2 hn h ⊢
  refine w_ite (fun c=>?_) fun c=>?_
  ·have hi:i.toNat < ps.length:=by simp at c;omega
   obtain ⟨p,hpp⟩:∃ p,ps[i.toNat]?=some p:=⟨_,at_some hi⟩
   have hU:=hp p (List.mem_of_getElem? hpp)
   rw [drop_at hpp,scF] at h2
   refine w_idx h h0 hi (w_ldE h s i.toNat hpp rfl ?_)
   refine w_new h fun n5 w h=>?_
   refine w_setAll h (by rfl) fun w h=>?_
   refine w_ite (fun c2=>?_) fun c2=>?_
   ·have c2:n=0:=by simpa using c2
    rw [if_pos c2] at h2
    exact Own.retP h2 h.fin
   have c2:¬ n=0:=by simpa using c2
   rw [if_neg c2] at h2
   have h:Own w0 S R w (blk n5 [.int .u64 p.1,.int .u64 p.2]^arr s KP ps^emp):=h
   refine ⟨by decide,w_ld h rfl ⟨by decide,w_ld h rfl ?_⟩⟩
   refine w_call (md_tri n p.1 p.2 hn hU.1 hU.2) h fun r w h=>?_
   obtain ⟨hr,h⟩:=h.purP
   rw [hr,wi (n:=i+1) (by omega) (by omega)]
   refine ⟨⟨⟨⟨⟨by show 0≤i+1;omega,by show i+1≤_;omega⟩,U_md hn hU.1 hU.2⟩,?_⟩,h.fin⟩,by show _ - (i+1).toNat < _;omega⟩
   show scF (mdI n p.1 p.2) (ps.drop (i+1).toNat)=_
   rw [show (i+1).toNat=i.toNat+1 by omega]
   exact h2
  ·have hi:i.toNat=ps.length:=by simp at c;omega
   rw [hi,List.drop_length] at h2
   exact Own.retP h2 h.fin
theorem md0 (b c:Int):mdI 0 b c=0:=by unfold mdI;simp
theorem rate_tri (bw g:Int) (hb:U bw) (hg:U g):Tri Tryz.prog N_target_Rate [.lf (.int .u64 bw),.lf (.int .u64 g)] [.lf (.int .u64)] emp (fun r=>pur (r=rateI bw g) emp) :=
 tri_0 (call_target_Rate bw g) fun w0 S R h=>by
  unfold W_target_Rate
  refine w_new h fun n1 w h=>?_
  have h:=h.arrOf ⟨some ⟨n1,0⟩,1,1⟩ ⟨n1,0⟩ KP [(g,(256:Int))] rfl rfl (Nat.le_refl _) (by simp) (by simp) (fun i hi=>by
   have:i < 2:=hi
   match i with | 0=>rfl | 1=>rfl)
  refine w_call (sc_tri bw ⟨some ⟨n1,0⟩,1,1⟩ [(g,256)] hb (by intro p hp;rw [List.mem_singleton] at hp;rw [hp];exact ⟨hg,U_lit _⟩) (by simp)) h fun r w h=>?_
  obtain ⟨hr,h⟩:=h.purP
  refine Own.retP ?_ h.fin
  rw [hr]
  show (if bw=0 then bw else mdI bw g 256)=_
  split
  ·rename_i h;rw [h,rateI,md0]
  ·rfl
theorem bdp_tri (bw rtt g:Int) (hb:U bw) (hq:U rtt) (hg:U g):Tri Tryz.prog N_target_Bdp [.lf (.int .u64 bw),.lf (.int .u64 rtt),.lf (.int .u64 g)] [.lf (.int .u64)] emp (fun r=>pur (r=bdpI bw rtt g) emp) :=
 tri_0 (call_target_Bdp bw rtt g) fun w0 S R h=>by
  unfold W_target_Bdp
  refine w_new h fun n1 w h=>?_
  have h:=h.arrOf ⟨some ⟨n1,0⟩,2,2⟩ ⟨n1,0⟩ KP [(rtt,(1000000000:Int)),(g,(256:Int))] rfl rfl (Nat.le_refl _) (by simp) (by simp) (fun i hi=>by
   have:i < 4:=hi
   match i with | 0=>rfl | 1=>rfl | 2=>rfl | 3=>rfl)
  refine w_call (sc_tri bw ⟨some ⟨n1,0⟩,2,2⟩ [(rtt,1000000000),(g,256)] hb (by
   intro p hp
   simp only [List.mem_cons,List.not_mem_nil,or_false] at hp
   rcases hp with hp | hp<;>rw [hp]
   ·exact ⟨hq,U_lit _⟩
   ·exact ⟨hg,U_lit _⟩) (by simp)) h fun r w h=>?_
  obtain ⟨hr,h⟩:=h.purP
  refine Own.retP ?_ h.fin
  rw [hr]
  show (if bw=0 then bw else if mdI bw rtt 1000000000=0 then mdI bw rtt 1000000000 else mdI (mdI bw rtt 1000000000) g 256)=_
  unfold bdpI
  split
  ·rename_i h;rw [h,md0,md0]
  ·split
   ·rename_i h;rw [h,md0]
   ·rfl
theorem win_tri (bw rtt g tso mss:Int) (hb:U bw) (hq:U rtt) (hg:U g) (ht:U tso) (hm:U mss):Tri Tryz.prog N_target_Window [.lf (.int .u64 bw),.lf (.int .u64 rtt),.lf (.int .u64 g),.lf (.int .u64 tso),.lf (.int .u64 mss)] [.lf (.int .u64)] emp (fun r=>pur (r=winI bw rtt g tso mss) emp) :=
 tri_0 (call_target_Window bw rtt g tso mss) fun w0 S R h=>by
  unfold W_target_Window
  refine w_ite (fun c=>?_) fun c=>?_
  ·repeat' (first
    | (refine w_drw h fun w h=>?_)
    | (refine w_deref ?_)
    | (refine w_ldAll h rfl ?_)
    | (refine w_ld h rfl ?_)
    | (refine w_chkAll h ?_)
    | (refine w_chk h rfl ?_)
    | (refine w_setAll h (by rfl) fun w h=>?_)
    | (refine w_new h fun n w h=>?_)
    | (refine w_leave h fun w h=>?_)
    | (refine w_set h rfl fun w h=>?_;dsimp only [upd,over] at h)
    | (refine w_call (satmul_tri 10 mss (U_lit _) hm) h fun r w h=>?_;obtain ⟨hr,h⟩:=h.purP;(try dsimp only at hr h);try rw [hr]))
   exact Own.retP (by unfold winI;rw [if_pos (show rtt=0 by simpa using c)]) h.fin
  ·repeat' (first
    | (refine w_drw h fun w h=>?_)
    | (refine w_deref ?_)
    | (refine w_ldAll h rfl ?_)
    | (refine w_ld h rfl ?_)
    | (refine w_chkAll h ?_)
    | (refine w_chk h rfl ?_)
    | (refine w_setAll h (by rfl) fun w h=>?_)
    | (refine w_new h fun n w h=>?_)
    | (refine w_leave h fun w h=>?_)
    | (refine w_set h rfl fun w h=>?_;dsimp only [upd,over] at h)
    | (refine w_call (bdp_tri bw rtt g hb hq hg) h fun r w h=>?_;obtain ⟨hr,h⟩:=h.purP;(try dsimp only at hr h);try rw [hr])
    | (refine w_call (satmul_tri 3 tso (U_lit _) ht) h fun r w h=>?_;obtain ⟨hr,h⟩:=h.purP;(try dsimp only at hr h);try rw [hr])
    | (refine w_call (satmul_tri 4 mss (U_lit _) hm) h fun r w h=>?_;obtain ⟨hr,h⟩:=h.purP;(try dsimp only at hr h);try rw [hr])
    | (refine w_call (satadd_tri (bdpI bw rtt g) (mulI 3 tso) (U_bdp hb hq hg) (U_mul (U_lit _) ht)) h fun r w h=>?_;obtain ⟨hr,h⟩:=h.purP;(try dsimp only at hr h);try rw [hr]))
   exact Own.retP (by unfold winI;rw [if_neg (show ¬ rtt=0 by simpa using c)]) h.fin
theorem rrate_tri (bw g:Int) (hb:U bw) (hg:U g):Tri Tryz.prog N_canterref01_Rate [.lf (.int .u64 bw),.lf (.int .u64 g)] [.lf (.int .u64)] emp (fun r=>pur (r=rateI bw g) emp) :=
 tri_0 (call_canterref01_Rate bw g) fun w0 S R h=>by
  unfold W_canterref01_Rate
  repeat' (first
   | (refine w_drw h fun w h=>?_)
   | (refine w_deref ?_)
   | (refine w_ldAll h rfl ?_)
   | (refine w_ld h rfl ?_)
   | (refine w_chkAll h ?_)
   | (refine w_chk h rfl ?_)
   | (refine w_setAll h (by rfl) fun w h=>?_)
   | (refine w_new h fun n w h=>?_)
   | (refine w_leave h fun w h=>?_)
   | (refine w_set h rfl fun w h=>?_;dsimp only [upd,over] at h)
   | (refine w_call (rmd_tri bw g 256 hb hg (U_lit _)) h fun r w h=>?_;obtain ⟨hr,h⟩:=h.purP;(try dsimp only at hr h);try rw [hr]))
  exact Own.retP rfl h.fin
theorem rbdp_tri (bw rtt g:Int) (hb:U bw) (hq:U rtt) (hg:U g):Tri Tryz.prog N_canterref01_Bdp [.lf (.int .u64 bw),.lf (.int .u64 rtt),.lf (.int .u64 g)] [.lf (.int .u64)] emp (fun r=>pur (r=bdpI bw rtt g) emp) :=
 tri_0 (call_canterref01_Bdp bw rtt g) fun w0 S R h=>by
  unfold W_canterref01_Bdp
  repeat' (first
   | (refine w_drw h fun w h=>?_)
   | (refine w_deref ?_)
   | (refine w_ldAll h rfl ?_)
   | (refine w_ld h rfl ?_)
   | (refine w_chkAll h ?_)
   | (refine w_chk h rfl ?_)
   | (refine w_setAll h (by rfl) fun w h=>?_)
   | (refine w_new h fun n w h=>?_)
   | (refine w_leave h fun w h=>?_)
   | (refine w_set h rfl fun w h=>?_;dsimp only [upd,over] at h)
   | (refine w_call (rmd_tri bw rtt 1000000000 hb hq (U_lit _)) h fun r w h=>?_;obtain ⟨hr,h⟩:=h.purP;(try dsimp only at hr h);try rw [hr])
   | (refine w_call (rmd_tri (mdI bw rtt 1000000000) g 256 (U_md hb hq (U_lit _)) hg (U_lit _)) h fun r w h=>?_;obtain ⟨hr,h⟩:=h.purP;(try dsimp only at hr h);try rw [hr]))
  exact Own.retP rfl h.fin
theorem rwin_tri (bw rtt g tso mss:Int) (hb:U bw) (hq:U rtt) (hg:U g) (ht:U tso) (hm:U mss):Tri Tryz.prog N_canterref01_Window [.lf (.int .u64 bw),.lf (.int .u64 rtt),.lf (.int .u64 g),.lf (.int .u64 tso),.lf (.int .u64 mss)] [.lf (.int .u64)] emp (fun r=>pur (r=winI bw rtt g tso mss) emp) :=
 tri_0 (call_canterref01_Window bw rtt g tso mss) fun w0 S R h=>by
  unfold W_canterref01_Window
  refine w_ite (fun c=>?_) fun c=>?_
  ·repeat' (first
    | (refine w_drw h fun w h=>?_)
    | (refine w_deref ?_)
    | (refine w_ldAll h rfl ?_)
    | (refine w_ld h rfl ?_)
    | (refine w_chkAll h ?_)
    | (refine w_chk h rfl ?_)
    | (refine w_setAll h (by rfl) fun w h=>?_)
    | (refine w_new h fun n w h=>?_)
    | (refine w_leave h fun w h=>?_)
    | (refine w_set h rfl fun w h=>?_;dsimp only [upd,over] at h)
    | (refine w_call (rmul_tri 10 mss (U_lit _) hm) h fun r w h=>?_;obtain ⟨hr,h⟩:=h.purP;(try dsimp only at hr h);try rw [hr]))
   exact Own.retP (by unfold winI;rw [if_pos (show rtt=0 by simpa using c)]) h.fin
  ·repeat' (first
    | (refine w_drw h fun w h=>?_)
    | (refine w_deref ?_)
    | (refine w_ldAll h rfl ?_)
    | (refine w_ld h rfl ?_)
    | (refine w_chkAll h ?_)
    | (refine w_chk h rfl ?_)
    | (refine w_setAll h (by rfl) fun w h=>?_)
    | (refine w_new h fun n w h=>?_)
    | (refine w_leave h fun w h=>?_)
    | (refine w_set h rfl fun w h=>?_;dsimp only [upd,over] at h)
    | (refine w_call (rbdp_tri bw rtt g hb hq hg) h fun r w h=>?_;obtain ⟨hr,h⟩:=h.purP;(try dsimp only at hr h);try rw [hr])
    | (refine w_call (rmul_tri 3 tso (U_lit _) ht) h fun r w h=>?_;obtain ⟨hr,h⟩:=h.purP;(try dsimp only at hr h);try rw [hr])
    | (refine w_call (rmul_tri 4 mss (U_lit _) hm) h fun r w h=>?_;obtain ⟨hr,h⟩:=h.purP;(try dsimp only at hr h);try rw [hr])
    | (refine w_call (radd_tri (bdpI bw rtt g) (mulI 3 tso) (U_bdp hb hq hg) (U_mul (U_lit _) ht)) h fun r w h=>?_;obtain ⟨hr,h⟩:=h.purP;(try dsimp only at hr h);try rw [hr]))
   exact Own.retP (by unfold winI;rw [if_neg (show ¬ rtt=0 by simpa using c)]) h.fin
end Target

namespace BbrP
open Arith ArithC _root_.Go.X.Target BbrM
theorem wnew_tri (w:Int):Tri Tryz.prog N_winmax_New [.lf (.int .u64 w)] [.lf .ptr] emp (fun r=>ex fun n:Nat=>pur (r=some ⟨n,0⟩) (blk n (BbrLs.lsW ((Wn.mk w 0 0 0 0 0 0 0))))) :=
 tri_0 (call_winmax_New w) fun w0 S R h=>by
  unfold W_winmax_New
  refine w_new h fun n w h=>?_
  exact Own.retE n (Own.retP rfl h.fin)
theorem best_tri (b:Nat) (v:Wn):Tri Tryz.prog N_winmax_Max_Best [.lf (.ptr (some ⟨b,0⟩))] [.lf (.int .u64)] (blk b (BbrLs.lsW v)) (fun r=>pur (r=v.v0) (blk b (BbrLs.lsW v))) :=
 tri_0 (call_winmax_Max_Best _) fun w0 S R h=>by
  unfold W_winmax_Max_Best
  refine w_ite (fun c=>(by cases c)) fun _=>?_
  refine w_deref ⟨by decide,w_ld h rfl ?_⟩
  exact Own.retP rfl h.fin
theorem near_tri (t s v w:Int) (ht:U t) (hs:U s):Tri Tryz.prog N_winmax_near [.lf (.int .u64 t),.agg (Ks.mk KP (s,v)),.lf (.int .u64 w)] [.lf .bool] emp (fun r=>pur (r=!decide (far t s w)) emp) :=
 tri_0 (call_winmax_near t (s,v) w) fun w0 S R h=>by
  unfold W_winmax_near
  refine w_new h fun n w h=>?_
  refine w_ld h rfl ?_
  rw [rsub_eq ht hs]
  exact Own.retP (by unfold far;rw [Bool.eq_iff_iff];simp) h.fin
theorem push_tri (b:Nat) (v:Wn) (t x:Int):Tri Tryz.prog N_winmax_Max_push [.lf (.ptr (some ⟨b,0⟩)),.agg (Ks.mk KP (t,x))] [] (blk b (BbrLs.lsW v)) (fun _=>blk b (BbrLs.lsW ((v.push t x)))) :=
 tri_0 (call_winmax_Max_push _ (t,x)) fun w0 S R h=>by
  unfold W_winmax_Max_push
  refine w_new h fun n w h=>?_
  refine w_drw h fun w h=>?_
  refine w_ldAll h rfl ?_
  refine w_deref (w_deref (w_deref (w_deref (w_deref ⟨by decide,by decide,w_ld h rfl (w_ld h rfl ⟨by decide,?_⟩)⟩))))
  refine w_set h rfl fun w h=>?_
  dsimp only [upd,over] at h
  refine w_chkAll h ⟨by decide,?_⟩
  refine w_set h rfl fun w h=>?_
  dsimp only [upd,over] at h
  refine w_chkAll h ⟨by decide,?_⟩
  refine w_set h rfl fun w h=>?_
  dsimp only [upd,over] at h
  exact Own.keep (A:=blk b (BbrLs.lsW ((v.push t x)))) h
def stA (v:Wn) (f t x:Int) (i:Int):Wn:={ v with
 t0:=if f=0∧0 < i then t else v.t0,v0:=if f=0∧0 < i then x else v.v0
 t1:=if f≤1∧1 < f+i then t else v.t1,v1:=if f≤1∧1 < f+i then x else v.v1
 t2:=if 2 < f+i then t else v.t2,v2:=if 2 < f+i then x else v.v2 }
theorem all_tri (b : Nat) (v : Wn) (f t x : Int) (hf : f = 0 ∨ f = 1 ∨ f = 2) : Tri Tryz.prog N_winmax_Max_all [.lf (.ptr (some ⟨b, 0⟩)), .lf (.int .i64 f), .agg (Ks.mk KP (t, x))] [] (blk b (BbrLs.lsW v))
    (fun _ => blk b (BbrLs.lsW ((if f = 0 then v.all t x else if f = 1 then v.s12 t x else v.s2 t x)))) :=
  tri_0 (call_winmax_Max_all _ f (t, x)) fun w0 S R h => by
    unfold W_winmax_Max_all
    refine w_new h fun n w h => ?_
    refine w_deref ?_
    refine ⟨⟨rfl, fun _ => by simp⟩, f.toNat, 3, 3, ?_, rfl, rfl, ⟨by omega, Nat.le_refl _, Nat.le_refl _⟩, ?_⟩
    · show f = f.toNat; omega
    have h : Own w0 S R w (blk b (BbrLs.lsW ((stA v f t x 0))) ^ blk n (Ks.mk KP (t, x)) ^ emp) := by
      have h := h.blkEq (b := b) (L' := (BbrLs.lsW ((stA v f t x 0)))) (by rcases hf with rfl | rfl | rfl <;> simp [stA])
      exact h
    have hlen : ((Sl.sub ⟨some ⟨b, 0 + 1⟩, 3, 3⟩ f.toNat 3 3 2).len : Int) = 3 - f := by
      show ((3 - f.toNat : Nat) : Int) = _; omega
    refine w_loop (fun i : Int => blk b (BbrLs.lsW ((stA v f t x i))) ^ blk n (Ks.mk KP (t, x)) ^ emp) (fun i : Int => 0 ≤ i ∧ i ≤ 3 - f) (fun i : Int => 3 - i.toNat) h ⟨Int.le_refl _, by omega⟩ ?_
    rintro (i : Int) w ⟨h0, h1⟩ h
    rw [hlen]
    refine w_ite (fun c => ?_) fun c => ?_
    · have c : i < 3 - f := by simpa using c
      refine w_drw h fun w h => w_ldAll h rfl (w_deref ?_)
      rw [wi (n := f + i) (by omega) (by omega), wi (n := i + 1) (by omega) (by omega)]
      refine ⟨by omega, ?_⟩
      have hi : (f = 0 ∧ i = 0) ∨ (f = 0 ∧ i = 1) ∨ (f = 0 ∧ i = 2) ∨ (f = 1 ∧ i = 0) ∨ (f = 1 ∧ i = 1) ∨ (f = 2 ∧ i = 0) := by omega
      refine w_setTo h b (BbrLs.lsW ((stA v f t x (i + 1)))) rfl ?_ ?_ fun w h => ?_
      · rcases hi with ⟨rfl, rfl⟩ | ⟨rfl, rfl⟩ | ⟨rfl, rfl⟩ | ⟨rfl, rfl⟩ | ⟨rfl, rfl⟩ | ⟨rfl, rfl⟩ <;> rfl
      · rcases hi with ⟨rfl, rfl⟩ | ⟨rfl, rfl⟩ | ⟨rfl, rfl⟩ | ⟨rfl, rfl⟩ | ⟨rfl, rfl⟩ | ⟨rfl, rfl⟩ <;> rfl
      · exact ⟨⟨⟨by show 0 ≤ i + 1; omega, by show i + 1 ≤ _; omega⟩, h⟩, by show 3 - (i + 1).toNat < 3 - i.toNat; omega⟩
    · have c : i = 3 - f := by have : ¬ i < 3 - f := by simpa using c
                               omega
      subst c
      refine Own.keep (A := blk b (BbrLs.lsW ((if f = 0 then v.all t x else if f = 1 then v.s12 t x else v.s2 t x)))) (h.blkEq (b := b) ?_)
      rcases hf with rfl | rfl | rfl <;> simp [stA, Wn.all, Wn.s12, Wn.s2]
theorem reset_tri (b:Nat) (v:Wn) (t x:Int):Tri Tryz.prog N_winmax_Max_Reset [.lf (.ptr (some ⟨b,0⟩)),.lf (.int .u64 t),.lf (.int .u64 x)] [] (blk b (BbrLs.lsW v)) (fun _=>blk b (BbrLs.lsW (((v.tick t).all t x)))) :=
 tri_0 (call_winmax_Max_Reset _ t x) fun w0 S R h=>by
  unfold W_winmax_Max_Reset
  refine w_ite (fun c=>(by cases c)) fun _=>?_
  refine w_deref (w_ld h rfl (w_deref ?_))
  refine w_setTo h b (BbrLs.lsW ((v.tick t))) rfl rfl rfl fun w h=>?_
  refine w_call (all_tri b (v.tick t) 0 t x (.inl rfl)) h fun r w h=>?_
  exact Own.keep (A:=blk b (BbrLs.lsW (((v.tick t).all t x)))) h
end BbrP

namespace BbrW
open Arith ArithC _root_.Go.X.Target BbrM BbrP
theorem U4 {w:Int} (h:U w):IntKind.u64.wrap (w.tdiv 4)=w / 4:=by
 unfold U at h;rw [Int.tdiv_eq_ediv_of_nonneg h.1,wu (by omega) (by omega)]
theorem U2 {w:Int} (h:U w):IntKind.u64.wrap (w.tdiv 2)=w / 2:=by
 unfold U at h;rw [Int.tdiv_eq_ediv_of_nonneg h.1,wu (by omega) (by omega)]
theorem maxupd_tri (b : Nat) (v : Wn) (hv : OkW v) (t x : Int) (ht : U t) (hx : U x) : Tri Tryz.prog N_winmax_Max_Update [.lf (.ptr (some ⟨b, 0⟩)), .lf (.int .u64 t), .lf (.int .u64 x)] [.lf (.int .u64)] (blk b (BbrLs.lsW v))
    (fun r => pur (r = (wUpd v t x).v0) (blk b (BbrLs.lsW ((wUpd v t x))))) :=
  tri_0 (call_winmax_Max_Update _ t x) fun w0 S R h => by
    unfold W_winmax_Max_Update
    refine w_ite (fun c => (by cases c)) fun _ => ?_
    refine w_deref (w_ld h rfl (w_deref ?_))
    refine w_setTo h b (BbrLs.lsW ((v.tick t))) rfl rfl rfl fun w h => ?_
    have hu := hv.tick ht
    have e0 : wUpd v t x = wU (v.tick t) (v.tick t).la x := rfl
    rw [e0]
    generalize v.tick t = u at *
    refine w_deref (w_ld h rfl ?_)
    refine w_new h fun n w h => ?_
    refine w_setTo h n [.int .u64 u.la, .int .u64 x] rfl rfl rfl fun w h => ?_
    have h : Own w0 S R w (blk b (BbrLs.lsW u) ^ blk n [.int .u64 u.la, .int .u64 x]) := h.fin
    refine w_join h (fun _ => blk b (BbrLs.lsW u) ^ blk n [.int .u64 u.la, .int .u64 x]) (fun y : Bool => y = decide (x ≥ u.v0 ∨ far u.la u.t2 u.w)) (fun (y : Bool) w hy h => ?_) ?_
    · rw [hy]
      refine w_ite (fun c => ?_) fun c => ?_
      · have c : x ≥ u.v0 ∨ far u.la u.t2 u.w := by simpa using c
        refine w_ld h rfl ?_
        refine w_call (reset_tri b u u.la x) h fun r w h => ?_
        have e : wU u u.la x = u.all u.la x := by unfold wU; rw [if_pos c]
        rw [e]
        have e2 : u.tick u.la = u := by unfold Wn.tick; simp
        rw [e2] at h
        exact Own.retP rfl h.keep
      have c : ¬ (x ≥ u.v0 ∨ far u.la u.t2 u.w) := by simpa using c
      have e : wU u u.la x = wS2 (wS1 u u.la x) u.la x := by unfold wU; rw [if_neg c]
      rw [e]
      refine w_join h (fun _ => blk b (BbrLs.lsW ((wS1 u u.la x))) ^ blk n [.int .u64 u.la, .int .u64 x]) (fun _ => True) (fun _ w _ h => ?_) ?_
      · have hs := hu.wS1 hu.la hx
        have hT := hu.la
        generalize u.la = T at *
        generalize wS1 u T x = s at *
        refine w_join h (fun _ => blk b (BbrLs.lsW ((wS2 s T x))) ^ blk n [.int .u64 T, .int .u64 x]) (fun _ => True) (fun _ w _ h => ?_) ?_
        · refine w_deref ⟨by decide, w_ld h rfl ?_⟩
          exact Own.retP rfl h.keep
        refine w_drw h fun w h => w_ld h rfl (w_deref (w_deref ⟨by decide, w_ld h rfl (w_ld (x := (s.t0, s.v0)) h rfl ?_)⟩))
        refine w_call (near_tri T s.t0 s.v0 s.w hT hs.t0) h fun r w h => ?_
        obtain ⟨hr, h⟩ := h.purP
        rw [hr, Bool.not_not]
        refine w_ite (fun c1 => ?_) fun c1 => ?_
        · have c1 : far T s.t0 s.w := by simpa using c1
          refine w_ldAll (x := (T, x)) h rfl ?_
          refine w_call (push_tri b s T x) h fun r w h => ?_
          refine w_drw h fun w h => w_ld h rfl (w_deref (w_deref ⟨by decide, w_ld h rfl (w_ld (x := (s.t1, s.v1)) h rfl ?_)⟩))
          refine w_call (near_tri T s.t1 s.v1 s.w hT hs.t1) h fun r w h => ?_
          obtain ⟨hr, h⟩ := h.purP
          rw [hr, Bool.not_not]
          refine w_ite (fun c2 => ?_) fun c2 => ?_
          · have c2 : far T s.t1 s.w := by simpa using c2
            refine w_ldAll (x := (T, x)) h rfl ?_
            refine w_call (push_tri b (s.push T x) T x) h fun r w h => ?_
            have e : wS2 s T x = (s.push T x).push T x := by unfold wS2; rw [if_pos c1, if_pos c2]
            rw [e]
            exact ⟨trivial, h.fin⟩
          · have c2 : ¬ far T s.t1 s.w := by simpa using c2
            have e : wS2 s T x = s.push T x := by unfold wS2; rw [if_pos c1, if_neg c2]
            rw [e]
            exact ⟨trivial, h.fin⟩
        have c1 : ¬ far T s.t0 s.w := by simpa using c1
        have hf : ∀ k, (wS2 s T x = k) = ((if s.t1 = s.t0 ∧ far T s.t0 (s.w / 4) then s.s12 T x else if s.t2 = s.t1 ∧ far T s.t0 (s.w / 2) then s.s2 T x else s) = k) := fun k => by unfold wS2; rw [if_neg c1]
        refine w_join h (fun _ => blk b (BbrLs.lsW s) ^ blk n [.int .u64 T, .int .u64 x]) (fun y : Bool => y = decide (s.t1 = s.t0 ∧ far T s.t0 (s.w / 4))) (fun (y : Bool) w hy h => ?_) ?_
        · rw [hy]
          refine w_ite (fun c2 => ?_) fun c2 => ?_
          · have c2 : s.t1 = s.t0 ∧ far T s.t0 (s.w / 4) := by simpa using c2
            refine w_ldAll (x := (T, x)) h rfl ?_
            refine w_call (all_tri b s 1 T x (.inr (.inl rfl))) h fun r w h => ?_
            have e : wS2 s T x = s.s12 T x := by rw [hf, if_pos c2]
            rw [e]
            have h : Own w0 S R w (blk b (BbrLs.lsW ((s.s12 T x))) ^ blk n [.int .u64 T, .int .u64 x]) := h
            exact ⟨trivial, h⟩
          have c2 : ¬ (s.t1 = s.t0 ∧ far T s.t0 (s.w / 4)) := by simpa using c2
          refine w_join h (fun _ => blk b (BbrLs.lsW s) ^ blk n [.int .u64 T, .int .u64 x]) (fun y : Bool => y = decide (s.t2 = s.t1 ∧ far T s.t0 (s.w / 2))) (fun (y : Bool) w hy h => ?_) ?_
          · rw [hy]
            refine w_ite (fun c3 => ?_) fun c3 => ?_
            · have c3 : s.t2 = s.t1 ∧ far T s.t0 (s.w / 2) := by simpa using c3
              refine w_ldAll (x := (T, x)) h rfl ?_
              refine w_call (all_tri b s 2 T x (.inr (.inr rfl))) h fun r w h => ?_
              have e : wS2 s T x = s.s2 T x := by rw [hf, if_neg c2, if_pos c3]
              rw [e]
              have h : Own w0 S R w (blk b (BbrLs.lsW ((s.s2 T x))) ^ blk n [.int .u64 T, .int .u64 x]) := h
              exact ⟨trivial, h⟩
            · have c3 : ¬ (s.t2 = s.t1 ∧ far T s.t0 (s.w / 2)) := by simpa using c3
              have e : wS2 s T x = s := by rw [hf, if_neg c2, if_neg c3]
              rw [e]
              exact ⟨trivial, h.fin⟩
          · refine w_drw h fun w h => w_deref (w_deref ⟨by decide, by decide, w_ld h rfl (w_ld h rfl ?_)⟩)
            refine w_ite (fun c3 => ?_) fun c3 => ?_
            · have c3 : s.t2 = s.t1 := by simpa using c3
              refine w_ld h rfl (w_deref (w_deref ⟨by decide, w_ld h rfl (w_ld (x := (s.t0, s.v0)) h rfl ?_)⟩))
              rw [U2 hs.w]
              refine w_call (near_tri T s.t0 s.v0 (s.w / 2) hT hs.t0) h fun r w h => ?_
              obtain ⟨hr, h⟩ := h.purP
              exact ⟨by rw [hr, Bool.not_not]; simp [c3], h.fin⟩
            · have c3 : ¬ s.t2 = s.t1 := by simpa using c3
              exact ⟨by simp [c3], h.fin⟩
        · refine w_drw h fun w h => w_deref (w_deref ⟨by decide, by decide, w_ld h rfl (w_ld h rfl ?_)⟩)
          refine w_ite (fun c3 => ?_) fun c3 => ?_
          · have c3 : s.t1 = s.t0 := by simpa using c3
            refine w_ld h rfl (w_deref (w_deref ⟨by decide, w_ld h rfl (w_ld (x := (s.t0, s.v0)) h rfl ?_)⟩))
            rw [U4 hs.w]
            refine w_call (near_tri T s.t0 s.v0 (s.w / 4) hT hs.t0) h fun r w h => ?_
            obtain ⟨hr, h⟩ := h.purP
            exact ⟨by rw [hr, Bool.not_not]; simp [c3], h.fin⟩
          · have c3 : ¬ s.t1 = s.t0 := by simpa using c3
            exact ⟨by simp [c3], h.fin⟩
      · refine w_loop (fun _ : Int => blk b (BbrLs.lsW u) ^ blk n [.int .u64 u.la, .int .u64 x]) (fun i : Int => (0 ≤ i ∧ i ≤ 3) ∧ (i ≥ 2 → ¬ x ≥ u.v1) ∧ (i ≥ 3 → ¬ x ≥ u.v2)) (fun i : Int => 3 - i.toNat) h ⟨⟨by simp, by simp⟩, by simp, by simp⟩ ?_
        rintro (i : Int) w ⟨⟨h0, h1⟩, h2, h3⟩ h
        refine w_ite (fun c => ?_) fun c => ?_
        · have c : i < 3 := by simpa using c
          have hi : i = 0 ∨ i = 1 ∨ i = 2 := by omega
          refine w_join h (fun _ => blk b (BbrLs.lsW u) ^ blk n [.int .u64 u.la, .int .u64 x]) (fun y : Bool => y = (decide (i = 1 ∧ x ≥ u.v1) || decide (i = 2 ∧ x ≥ u.v2))) (fun (y : Bool) w hy h => ?_) ?_
          · rw [hy]
            refine w_ite (fun c2 => ?_) fun c2 => ?_
            · refine w_ldAll (x := (u.la, x)) h rfl ?_
              refine w_call (all_tri b u i u.la x hi) h fun r w h => ?_
              have c2 : (i = 1 ∧ x ≥ u.v1) ∨ (i = 2 ∧ x ≥ u.v2) := by simpa using c2
              have e : wS1 u u.la x = if i = 0 then u.all u.la x else if i = 1 then u.s12 u.la x else u.s2 u.la x := by
                unfold wS1
                rcases c2 with ⟨rfl, cc⟩ | ⟨rfl, cc⟩
                · rw [if_pos cc]; rfl
                · rw [if_neg (h2 (by omega)), if_pos cc]; rfl
              rw [e]
              exact ⟨trivial, h.fin⟩
            · have c2 : ¬ ((i = 1 ∧ x ≥ u.v1) ∨ (i = 2 ∧ x ≥ u.v2)) := by simpa using c2
              rw [wi (n := i + 1) (by omega) (by omega)]
              refine ⟨⟨⟨⟨by omega, by omega⟩, fun hh => ?_, fun hh => ?_⟩, h⟩, by omega⟩
              · by_cases hi1 : i = 1
                · intro hx1; exact c2 (.inl ⟨hi1, hx1⟩)
                · exact h2 (by omega)
              · intro hx1; exact c2 (.inr ⟨by omega, hx1⟩)
          · refine w_ite (fun c2 => ?_) fun c2 => ?_
            · have c2 : i > 0 := by simpa using c2
              refine w_deref ⟨⟨h0, c⟩, ?_⟩
              have hi : i = 1 ∨ i = 2 := by omega
              rcases hi with rfl | rfl
              · exact w_ld h rfl ⟨by simp, h⟩
              · exact w_ld h rfl ⟨by simp, h⟩
            · have c2 : i = 0 := by have : ¬ i > 0 := by simpa using c2
                                    omega
              exact ⟨by simp [c2], h⟩
        · have c : i = 3 := by have : ¬ i < 3 := by simpa using c
                               omega
          have e : wS1 u u.la x = u := by unfold wS1; rw [if_neg (h2 (by omega)), if_neg (h3 (by omega))]
          rw [e]
          exact ⟨trivial, h⟩
    · refine w_drw h fun w h => w_deref ⟨by decide, w_ld h rfl ?_⟩
      refine w_ite (fun c => ?_) fun c => ?_
      · have c : x ≥ u.v0 := by simpa using c
        exact ⟨by simp [c], h⟩
      · have c : ¬ x ≥ u.v0 := by simpa using c
        refine w_ld h rfl (w_deref (w_deref ⟨by decide, w_ld h rfl (w_ld (x := (u.t2, u.v2)) h rfl ?_)⟩))
        refine w_call (near_tri u.la u.t2 u.v2 u.w hu.la hu.t2) h fun r w h => ?_
        obtain ⟨hr, h⟩ := h.purP
        exact ⟨by rw [hr, Bool.not_not]; simp [c], h.fin⟩
end BbrW

namespace BbrV
open Arith ArithC _root_.Go.X.Target BbrM BbrW
theorem vnew_tri (w:Int):Tri Tryz.prog N_canterref08_NewWin [.lf (.int .u64 w),.lf (.bool false)] [.lf .ptr] emp (fun r=>ex fun n:Nat=>pur (r=some ⟨n,0⟩) (blk n [.int .u64 (Wn.mk w 0 0 0 0 0 0 0).w,.int .u64 (Wn.mk w 0 0 0 0 0 0 0).t0,.int .u64 (Wn.mk w 0 0 0 0 0 0 0).t1,.int .u64 (Wn.mk w 0 0 0 0 0 0 0).t2,.int .u64 (Wn.mk w 0 0 0 0 0 0 0).v0,.int .u64 (Wn.mk w 0 0 0 0 0 0 0).v1,.int .u64 (Wn.mk w 0 0 0 0 0 0 0).v2,.int .u64 (Wn.mk w 0 0 0 0 0 0 0).la,.bool false])) :=
 tri_0 (call_canterref08_NewWin w false) fun w0 S R h=>by
  unfold W_canterref08_NewWin
  refine w_new h fun n w h=>?_
  refine w_ite (fun c=>(by cases c)) fun _=>?_
  exact Own.retE n (Own.retP rfl h.fin)
def vAt (v:Wn) (i:Int):Int:=if i=0 then v.v0 else if i=1 then v.v1 else v.v2
theorem beats_tri (b:Nat) (v:Wn) (x i:Int) (hi:i=0∨i=1∨i=2):Tri Tryz.prog N_canterref08_Win_beats [.lf (.ptr (some ⟨b,0⟩)),.lf (.int .u64 x),.lf (.int .i64 i)] [.lf .bool] (blk b [.int .u64 v.w,.int .u64 v.t0,.int .u64 v.t1,.int .u64 v.t2,.int .u64 v.v0,.int .u64 v.v1,.int .u64 v.v2,.int .u64 v.la,.bool false]) (fun r=>pur (r=decide (x ≥ vAt v i)) (blk b [.int .u64 v.w,.int .u64 v.t0,.int .u64 v.t1,.int .u64 v.t2,.int .u64 v.v0,.int .u64 v.v1,.int .u64 v.v2,.int .u64 v.la,.bool false])) :=
 tri_0 (call_canterref08_Win_beats _ x i) fun w0 S R h=>by
  unfold W_canterref08_Win_beats
  refine w_deref (w_ld h rfl ?_)
  refine w_ite (fun c=>(by cases c)) fun _=>w_deref ⟨by omega,?_⟩
  rcases hi with rfl | rfl | rfl
  ·exact w_ld h rfl (Own.retP rfl h.fin)
  ·exact w_ld h rfl (Own.retP rfl h.fin)
  ·exact w_ld h rfl (Own.retP rfl h.fin)
def vSet (v:Wn) (i t x:Int):Wn:=if i=1 then { v with t1:=t,v1:=x } else { v with t2:=t,v2:=x }
theorem set_tri (b:Nat) (v:Wn) (i t x:Int) (hi:i=1∨i=2):Tri Tryz.prog N_canterref08_Win_set [.lf (.ptr (some ⟨b,0⟩)),.lf (.int .i64 i),.lf (.int .u64 t),.lf (.int .u64 x)] [] (blk b [.int .u64 v.w,.int .u64 v.t0,.int .u64 v.t1,.int .u64 v.t2,.int .u64 v.v0,.int .u64 v.v1,.int .u64 v.v2,.int .u64 v.la,.bool false]) (fun _=>blk b [.int .u64 (vSet v i t x).w,.int .u64 (vSet v i t x).t0,.int .u64 (vSet v i t x).t1,.int .u64 (vSet v i t x).t2,.int .u64 (vSet v i t x).v0,.int .u64 (vSet v i t x).v1,.int .u64 (vSet v i t x).v2,.int .u64 (vSet v i t x).la,.bool false]) :=
 tri_0 (call_canterref08_Win_set _ i t x) fun w0 S R h=>by
  unfold W_canterref08_Win_set
  refine w_drw h fun w h=>w_deref (w_deref ⟨by omega,?_⟩)
  rcases hi with rfl | rfl
  ·refine w_setTo h b [.int .u64 ({ v with t1:=t }).w,.int .u64 ({ v with t1:=t }).t0,.int .u64 ({ v with t1:=t }).t1,.int .u64 ({ v with t1:=t }).t2,.int .u64 ({ v with t1:=t }).v0,.int .u64 ({ v with t1:=t }).v1,.int .u64 ({ v with t1:=t }).v2,.int .u64 ({ v with t1:=t }).la,.bool false] rfl rfl rfl fun w h=>⟨by omega,?_⟩
   refine w_setTo h b [.int .u64 ({ v with t1:=t,v1:=x }).w,.int .u64 ({ v with t1:=t,v1:=x }).t0,.int .u64 ({ v with t1:=t,v1:=x }).t1,.int .u64 ({ v with t1:=t,v1:=x }).t2,.int .u64 ({ v with t1:=t,v1:=x }).v0,.int .u64 ({ v with t1:=t,v1:=x }).v1,.int .u64 ({ v with t1:=t,v1:=x }).v2,.int .u64 ({ v with t1:=t,v1:=x }).la,.bool false] rfl rfl rfl fun w h=>?_
   exact Own.keep (A:=blk b [.int .u64 (vSet v 1 t x).w,.int .u64 (vSet v 1 t x).t0,.int .u64 (vSet v 1 t x).t1,.int .u64 (vSet v 1 t x).t2,.int .u64 (vSet v 1 t x).v0,.int .u64 (vSet v 1 t x).v1,.int .u64 (vSet v 1 t x).v2,.int .u64 (vSet v 1 t x).la,.bool false]) h
  ·refine w_setTo h b [.int .u64 ({ v with t2:=t }).w,.int .u64 ({ v with t2:=t }).t0,.int .u64 ({ v with t2:=t }).t1,.int .u64 ({ v with t2:=t }).t2,.int .u64 ({ v with t2:=t }).v0,.int .u64 ({ v with t2:=t }).v1,.int .u64 ({ v with t2:=t }).v2,.int .u64 ({ v with t2:=t }).la,.bool false] rfl rfl rfl fun w h=>⟨by omega,?_⟩
   refine w_setTo h b [.int .u64 ({ v with t2:=t,v2:=x }).w,.int .u64 ({ v with t2:=t,v2:=x }).t0,.int .u64 ({ v with t2:=t,v2:=x }).t1,.int .u64 ({ v with t2:=t,v2:=x }).t2,.int .u64 ({ v with t2:=t,v2:=x }).v0,.int .u64 ({ v with t2:=t,v2:=x }).v1,.int .u64 ({ v with t2:=t,v2:=x }).v2,.int .u64 ({ v with t2:=t,v2:=x }).la,.bool false] rfl rfl rfl fun w h=>?_
   exact Own.keep (A:=blk b [.int .u64 (vSet v 2 t x).w,.int .u64 (vSet v 2 t x).t0,.int .u64 (vSet v 2 t x).t1,.int .u64 (vSet v 2 t x).t2,.int .u64 (vSet v 2 t x).v0,.int .u64 (vSet v 2 t x).v1,.int .u64 (vSet v 2 t x).v2,.int .u64 (vSet v 2 t x).la,.bool false]) h
theorem shift_tri (b:Nat) (v:Wn) (t x:Int):Tri Tryz.prog N_canterref08_Win_shift [.lf (.ptr (some ⟨b,0⟩)),.lf (.int .u64 t),.lf (.int .u64 x)] [] (blk b [.int .u64 v.w,.int .u64 v.t0,.int .u64 v.t1,.int .u64 v.t2,.int .u64 v.v0,.int .u64 v.v1,.int .u64 v.v2,.int .u64 v.la,.bool false]) (fun _=>blk b [.int .u64 (v.push t x).w,.int .u64 (v.push t x).t0,.int .u64 (v.push t x).t1,.int .u64 (v.push t x).t2,.int .u64 (v.push t x).v0,.int .u64 (v.push t x).v1,.int .u64 (v.push t x).v2,.int .u64 (v.push t x).la,.bool false]) :=
 tri_0 (call_canterref08_Win_shift _ t x) fun w0 S R h=>by
  unfold W_canterref08_Win_shift
  refine w_drw h fun w h=>w_deref (w_deref (w_deref (w_deref ⟨by decide,by decide,by decide,by decide,w_ld h rfl (w_ld h rfl (w_ld h rfl (w_ld h rfl (w_deref ?_))))⟩)))
  refine w_setTo h b [.int .u64 ({ v with t0:=v.t1,t1:=v.t2,t2:=t }).w,.int .u64 ({ v with t0:=v.t1,t1:=v.t2,t2:=t }).t0,.int .u64 ({ v with t0:=v.t1,t1:=v.t2,t2:=t }).t1,.int .u64 ({ v with t0:=v.t1,t1:=v.t2,t2:=t }).t2,.int .u64 ({ v with t0:=v.t1,t1:=v.t2,t2:=t }).v0,.int .u64 ({ v with t0:=v.t1,t1:=v.t2,t2:=t }).v1,.int .u64 ({ v with t0:=v.t1,t1:=v.t2,t2:=t }).v2,.int .u64 ({ v with t0:=v.t1,t1:=v.t2,t2:=t }).la,.bool false] rfl rfl rfl fun w h=>w_deref ?_
  refine w_setTo h b [.int .u64 (v.push t x).w,.int .u64 (v.push t x).t0,.int .u64 (v.push t x).t1,.int .u64 (v.push t x).t2,.int .u64 (v.push t x).v0,.int .u64 (v.push t x).v1,.int .u64 (v.push t x).v2,.int .u64 (v.push t x).la,.bool false] rfl rfl rfl fun w h=>?_
  exact h.keep
theorem vreset_tri (b:Nat) (v:Wn) (t x:Int):Tri Tryz.prog N_canterref08_Win_Reset [.lf (.ptr (some ⟨b,0⟩)),.lf (.int .u64 t),.lf (.int .u64 x)] [] (blk b [.int .u64 v.w,.int .u64 v.t0,.int .u64 v.t1,.int .u64 v.t2,.int .u64 v.v0,.int .u64 v.v1,.int .u64 v.v2,.int .u64 v.la,.bool false]) (fun _=>blk b [.int .u64 ((v.tick t).all t x).w,.int .u64 ((v.tick t).all t x).t0,.int .u64 ((v.tick t).all t x).t1,.int .u64 ((v.tick t).all t x).t2,.int .u64 ((v.tick t).all t x).v0,.int .u64 ((v.tick t).all t x).v1,.int .u64 ((v.tick t).all t x).v2,.int .u64 ((v.tick t).all t x).la,.bool false]) :=
 tri_0 (call_canterref08_Win_Reset _ t x) fun w0 S R h=>by
  unfold W_canterref08_Win_Reset
  refine w_deref (w_setTo h b [.int .u64 ({ v with t0:=t,t1:=t,t2:=t }).w,.int .u64 ({ v with t0:=t,t1:=t,t2:=t }).t0,.int .u64 ({ v with t0:=t,t1:=t,t2:=t }).t1,.int .u64 ({ v with t0:=t,t1:=t,t2:=t }).t2,.int .u64 ({ v with t0:=t,t1:=t,t2:=t }).v0,.int .u64 ({ v with t0:=t,t1:=t,t2:=t }).v1,.int .u64 ({ v with t0:=t,t1:=t,t2:=t }).v2,.int .u64 ({ v with t0:=t,t1:=t,t2:=t }).la,.bool false] rfl rfl rfl fun w h=>?_)
  refine w_deref (w_setTo h b [.int .u64 (v.all t x).w,.int .u64 (v.all t x).t0,.int .u64 (v.all t x).t1,.int .u64 (v.all t x).t2,.int .u64 (v.all t x).v0,.int .u64 (v.all t x).v1,.int .u64 (v.all t x).v2,.int .u64 (v.all t x).la,.bool false] rfl rfl rfl fun w h=>?_)
  refine w_deref (w_ld h rfl (w_deref ?_))
  refine w_setTo h b [.int .u64 ((v.tick t).all t x).w,.int .u64 ((v.tick t).all t x).t0,.int .u64 ((v.tick t).all t x).t1,.int .u64 ((v.tick t).all t x).t2,.int .u64 ((v.tick t).all t x).v0,.int .u64 ((v.tick t).all t x).v1,.int .u64 ((v.tick t).all t x).v2,.int .u64 ((v.tick t).all t x).la,.bool false] rfl rfl rfl fun w h=>?_
  exact h.keep
theorem rupd_tri (b:Nat) (v:Wn) (hv:OkW v) (t x:Int) (ht:U t) (hx:U x):Tri Tryz.prog N_canterref08_Win_Update [.lf (.ptr (some ⟨b,0⟩)),.lf (.int .u64 t),.lf (.int .u64 x)] [.lf (.int .u64)] (blk b [.int .u64 v.w,.int .u64 v.t0,.int .u64 v.t1,.int .u64 v.t2,.int .u64 v.v0,.int .u64 v.v1,.int .u64 v.v2,.int .u64 v.la,.bool false])
  (fun r=>pur (r=(wUpd v t x).v0) (blk b [.int .u64 (wUpd v t x).w,.int .u64 (wUpd v t x).t0,.int .u64 (wUpd v t x).t1,.int .u64 (wUpd v t x).t2,.int .u64 (wUpd v t x).v0,.int .u64 (wUpd v t x).v1,.int .u64 (wUpd v t x).v2,.int .u64 (wUpd v t x).la,.bool false])) :=
 tri_0 (call_canterref08_Win_Update _ t x) fun w0 S R h=>by
  unfold W_canterref08_Win_Update
  refine w_deref (w_ld h rfl ?_)
  have hT:(if v.la > t then v.la else t)=(v.tick t).la:=by
   show _=if t > v.la then t else v.la
   (repeat' split)<;>omega
  simp only [hT]
  refine w_deref (w_setTo h b [.int .u64 (v.tick t).w,.int .u64 (v.tick t).t0,.int .u64 (v.tick t).t1,.int .u64 (v.tick t).t2,.int .u64 (v.tick t).v0,.int .u64 (v.tick t).v1,.int .u64 (v.tick t).v2,.int .u64 (v.tick t).la,.bool false] rfl rfl rfl fun w h=>?_)
  have hu:=hv.tick ht
  have e0:wUpd v t x=wU (v.tick t) (v.tick t).la x:=rfl
  rw [e0]
  generalize v.tick t=u at *
  have hla:=hu.la
  have ht2:=hu.t2
  have hw:=hu.w
  unfold U at hla ht2 hw
  refine w_join h (fun _=>blk b [.int .u64 u.w,.int .u64 u.t0,.int .u64 u.t1,.int .u64 u.t2,.int .u64 u.v0,.int .u64 u.v1,.int .u64 u.v2,.int .u64 u.la,.bool false]^emp) (fun y:Bool=>y=decide (x ≥ u.v0∨far u.la u.t2 u.w)) (fun (y:Bool) w hy h=>?_) ?_
  ·rw [hy]
   refine w_ite (fun c=>?_) fun c=>?_
   ·have c:x ≥ u.v0∨far u.la u.t2 u.w:=by simpa using c
    refine w_call (vreset_tri b u u.la x) h fun r w h=>?_
    have e:wU u u.la x=u.all u.la x:=by unfold wU;rw [if_pos c]
    rw [e]
    have e2:u.tick u.la=u:=by unfold Wn.tick;simp
    rw [e2] at h
    exact Own.retP rfl h.keep
   have c:¬ (x ≥ u.v0∨far u.la u.t2 u.w):=by simpa using c
   have e:wU u u.la x=wS2 (wS1 u u.la x) u.la x:=by unfold wU;rw [if_neg c]
   rw [e]
   refine w_join h (fun _=>blk b [.int .u64 (wS1 u u.la x).w,.int .u64 (wS1 u u.la x).t0,.int .u64 (wS1 u u.la x).t1,.int .u64 (wS1 u u.la x).t2,.int .u64 (wS1 u u.la x).v0,.int .u64 (wS1 u u.la x).v1,.int .u64 (wS1 u u.la x).v2,.int .u64 (wS1 u u.la x).la,.bool false]^emp) (fun _=>True) (fun _ w _ h=>?_) ?_
   ·have hs:=hu.wS1 hu.la hx
    have hT:=hu.la
    generalize u.la=T at *
    generalize wS1 u T x=s at *
    refine w_deref ⟨by decide,w_ld h rfl ?_⟩
    refine w_call (rsub_tri T s.t0 hT hs.t0) h fun r w h=>?_
    obtain ⟨hr,h⟩:=h.purP;rw [hr]
    refine w_join h (fun _=>blk b [.int .u64 (wS2 s T x).w,.int .u64 (wS2 s T x).t0,.int .u64 (wS2 s T x).t1,.int .u64 (wS2 s T x).t2,.int .u64 (wS2 s T x).v0,.int .u64 (wS2 s T x).v1,.int .u64 (wS2 s T x).v2,.int .u64 (wS2 s T x).la,.bool false]^emp) (fun _=>True) (fun _ w _ h=>?_) ?_
    ·refine w_deref ⟨by decide,w_ld h rfl ?_⟩
     exact Own.retP rfl h.keep
    refine w_deref (w_ld h rfl ?_)
    refine w_ite (fun c1=>?_) fun c1=>?_
    ·have c1:far T s.t0 s.w:=of_decide_eq_true c1
     refine w_call (shift_tri b s T x) h fun _ w h=>?_
     refine w_drw h fun w h=>w_deref (w_deref ⟨by decide,w_ld h rfl (w_ld h rfl ?_)⟩)
     refine w_call (rsub_tri T s.t1 hT hs.t1) h fun r w h=>?_
     obtain ⟨hr,h⟩:=h.purP;rw [hr]
     refine w_chk h rfl ?_
     refine w_ite (fun c2=>?_) fun c2=>?_
     ·have c2:far T s.t1 s.w:=of_decide_eq_true c2
      refine w_call (shift_tri b (s.push T x) T x) h fun _ w h=>?_
      have e:wS2 s T x=(s.push T x).push T x:=by unfold wS2;rw [if_pos c1,if_pos c2]
      rw [e]
      exact ⟨trivial,h.fin⟩
     ·have c2:¬ far T s.t1 s.w:=of_decide_eq_false c2
      have e:wS2 s T x=s.push T x:=by unfold wS2;rw [if_pos c1,if_neg c2]
      rw [e]
      exact ⟨trivial,h.fin⟩
    have c1:¬ far T s.t0 s.w:=of_decide_eq_false c1
    have hf:∀ k,(wS2 s T x=k)=((if s.t1=s.t0∧far T s.t0 (s.w / 4) then s.s12 T x else if s.t2=s.t1∧far T s.t0 (s.w / 2) then s.s2 T x else s)=k):=fun k=>by unfold wS2;rw [if_neg c1]
    have h:Own w0 S R _ (blk b [.int .u64 s.w,.int .u64 s.t0,.int .u64 s.t1,.int .u64 s.t2,.int .u64 s.v0,.int .u64 s.v1,.int .u64 s.v2,.int .u64 s.la,.bool false]^emp):=h.fin
    refine w_join h (fun _=>blk b [.int .u64 s.w,.int .u64 s.t0,.int .u64 s.t1,.int .u64 s.t2,.int .u64 s.v0,.int .u64 s.v1,.int .u64 s.v2,.int .u64 s.la,.bool false]^emp) (fun y:Bool=>y=decide (s.t1=s.t0∧far T s.t0 (s.w / 4))) (fun (y:Bool) w hy h=>?_) ?_
    ·rw [hy]
     refine w_ite (fun c2=>?_) fun c2=>?_
     ·have c2:s.t1=s.t0∧far T s.t0 (s.w / 4):=by simpa using c2
      refine w_call (set_tri b s 1 T x (.inl rfl)) h fun r w h=>?_
      refine w_call (set_tri b (vSet s 1 T x) 2 T x (.inr rfl)) h fun r w h=>?_
      have e:wS2 s T x=s.s12 T x:=by rw [hf,if_pos c2]
      rw [e]
      have h:Own w0 S R w (blk b [.int .u64 (s.s12 T x).w,.int .u64 (s.s12 T x).t0,.int .u64 (s.s12 T x).t1,.int .u64 (s.s12 T x).t2,.int .u64 (s.s12 T x).v0,.int .u64 (s.s12 T x).v1,.int .u64 (s.s12 T x).v2,.int .u64 (s.s12 T x).la,.bool false]^emp):=h
      exact ⟨trivial,h⟩
     have c2:¬ (s.t1=s.t0∧far T s.t0 (s.w / 4)):=by simpa using c2
     refine w_drw h fun w h=>w_deref (w_deref ⟨by decide,by decide,w_ld h rfl (w_ld h rfl ?_)⟩)
     refine w_ite (fun c3=>?_) fun c3=>?_
     ·have c3:s.t2=s.t1:=by simpa using c3
      refine w_deref (w_ld h rfl ?_)
      rw [U2 hs.w]
      refine w_ite (fun c4=>?_) fun c4=>?_
      ·have c4:far T s.t0 (s.w / 2):=of_decide_eq_true c4
       refine w_call (set_tri b s 2 T x (.inr rfl)) h fun r w h=>?_
       have e:wS2 s T x=s.s2 T x:=by rw [hf,if_neg c2,if_pos ⟨c3,c4⟩]
       rw [e]
       have h:Own w0 S R w (blk b [.int .u64 (s.s2 T x).w,.int .u64 (s.s2 T x).t0,.int .u64 (s.s2 T x).t1,.int .u64 (s.s2 T x).t2,.int .u64 (s.s2 T x).v0,.int .u64 (s.s2 T x).v1,.int .u64 (s.s2 T x).v2,.int .u64 (s.s2 T x).la,.bool false]^emp):=h
       exact ⟨trivial,h⟩
      ·have c4:¬ far T s.t0 (s.w / 2):=of_decide_eq_false c4
       have e:wS2 s T x=s:=by rw [hf,if_neg c2,if_neg (fun hh=>c4 hh.2)]
       rw [e]
       exact ⟨trivial,h⟩
     ·have c3:¬ s.t2=s.t1:=by simpa using c3
      have e:wS2 s T x=s:=by rw [hf,if_neg c2,if_neg (fun hh=>c3 hh.1)]
      rw [e]
      exact ⟨trivial,h⟩
    ·refine w_drw h fun w h=>w_deref (w_deref ⟨by decide,by decide,w_ld h rfl (w_ld h rfl ?_)⟩)
     refine w_ite (fun c3=>?_) fun c3=>?_
     ·have c3:s.t1=s.t0:=by simpa using c3
      refine w_deref (w_ld h rfl ?_)
      rw [U4 hs.w]
      exact ⟨by rw [Bool.eq_iff_iff];simp [c3,far],h⟩
     ·have c3:¬ s.t1=s.t0:=by simpa using c3
      exact ⟨by simp [c3],h⟩
   ·refine w_call (beats_tri b u x 1 (by omega)) h fun r w h=>?_
    obtain ⟨hr,h⟩:=h.purP;rw [hr]
    refine w_ite (fun c1=>?_) fun c1=>?_
    ·have c1:x ≥ u.v1:=of_decide_eq_true c1
     refine w_call (set_tri b u 1 u.la x (.inl rfl)) h fun r w h=>?_
     refine w_call (set_tri b (vSet u 1 u.la x) 2 u.la x (.inr rfl)) h fun r w h=>?_
     have e:wS1 u u.la x=u.s12 u.la x:=by unfold wS1;rw [if_pos c1]
     rw [e]
     have h:Own w0 S R w (blk b [.int .u64 (u.s12 u.la x).w,.int .u64 (u.s12 u.la x).t0,.int .u64 (u.s12 u.la x).t1,.int .u64 (u.s12 u.la x).t2,.int .u64 (u.s12 u.la x).v0,.int .u64 (u.s12 u.la x).v1,.int .u64 (u.s12 u.la x).v2,.int .u64 (u.s12 u.la x).la,.bool false]^emp):=h
     exact ⟨trivial,h⟩
    have c1:¬ x ≥ u.v1:=of_decide_eq_false c1
    refine w_call (beats_tri b u x 2 (by omega)) h fun r w h=>?_
    obtain ⟨hr,h⟩:=h.purP;rw [hr]
    refine w_ite (fun c2=>?_) fun c2=>?_
    ·have c2:x ≥ u.v2:=of_decide_eq_true c2
     refine w_call (set_tri b u 2 u.la x (.inr rfl)) h fun r w h=>?_
     have e:wS1 u u.la x=u.s2 u.la x:=by unfold wS1;rw [if_neg c1,if_pos c2]
     rw [e]
     have h:Own w0 S R w (blk b [.int .u64 (u.s2 u.la x).w,.int .u64 (u.s2 u.la x).t0,.int .u64 (u.s2 u.la x).t1,.int .u64 (u.s2 u.la x).t2,.int .u64 (u.s2 u.la x).v0,.int .u64 (u.s2 u.la x).v1,.int .u64 (u.s2 u.la x).v2,.int .u64 (u.s2 u.la x).la,.bool false]^emp):=h
     exact ⟨trivial,h⟩
    ·have c2:¬ x ≥ u.v2:=of_decide_eq_false c2
     have e:wS1 u u.la x=u:=by unfold wS1;rw [if_neg c1,if_neg c2]
     rw [e]
     exact ⟨trivial,h⟩
  ·refine w_drw h fun w h=>?_
   refine w_call (beats_tri b u x 0 (by omega)) h fun r w h=>?_
   obtain ⟨hr,h⟩:=h.purP;rw [hr]
   refine w_ite (fun c1=>?_) fun c1=>?_
   ·have c1:x ≥ u.v0:=of_decide_eq_true c1
    exact ⟨by simp [c1],h⟩
   have c1:¬ x ≥ u.v0:=of_decide_eq_false c1
   refine w_deref ⟨by decide,w_ld h rfl ?_⟩
   refine w_ite (fun c2=>?_) fun c2=>?_
   ·have c2:u.la > u.t2:=of_decide_eq_true c2
    refine w_deref (w_deref ⟨by decide,w_ld h rfl (w_ld h rfl ?_)⟩)
    rw [wu (n:=u.la - u.t2) (by omega) (by omega)]
    have:subI u.la u.t2=u.la - u.t2:=by unfold subI;rw [if_neg (by omega)]
    exact ⟨by rw [Bool.eq_iff_iff];simp [c1,far,this],h⟩
   ·have c2:¬ u.la > u.t2:=of_decide_eq_false c2
    have:¬ far u.la u.t2 u.w:=by unfold far subI;split<;>omega
    exact ⟨by simp [c1,this],h⟩
end BbrV

namespace BbrL
open Arith ArithC _root_.Go.X.Target BbrM
theorem blv_tri (b:Nat) (v:Pb) (now fl floor:Int) (st:Bool) (hn:U now):Tri Tryz.prog N_probe_Probe_leaves [.lf (.ptr (some ⟨b,0⟩)),.lf (.int .u64 now),.lf (.bool st),.lf (.int .u64 fl),.lf (.int .u64 floor)] [.lf .bool] (blk b (BbrLs.lsB v))
  (fun x=>pur (x=(bLv v now st fl floor).1) (blk b (BbrLs.lsB ((bLv v now st fl floor).2)))) :=
 tri_0 (call_probe_Probe_leaves _ _ _ _ _) fun w0 S R h=>by
  unfold W_probe_Probe_leaves
  refine w_deref (w_ld h rfl ?_)
  refine w_ite (fun c1=>?_) fun c1=>?_
  ·have c1:v.til=0:=by simpa using c1
   refine w_ite (fun c2=>?_) fun c2=>?_
   ·have c2:fl≤floor:=by simpa using c2
    have e:bLv v now st fl floor=(false,{ v with til:=addI now 200000000,rd:=false }):=by unfold bLv;rw [if_pos c1,if_pos c2]
    rw [e]
    refine w_call (satadd_tri now 200000000 hn (U_lit _)) (h.le (star_emp _)) fun r w h=>?_
    obtain ⟨hr,h⟩:=h.purP
    rw [hr]
    refine w_deref (w_setTo h b [.int .u64 v.best,.int .u64 v.at',.bool v.on,.int .u64 (addI now 200000000),.bool v.rd] rfl rfl rfl fun w h=>?_)
    refine w_deref (w_setTo h b [.int .u64 v.best,.int .u64 v.at',.bool v.on,.int .u64 (addI now 200000000),.bool false] rfl rfl rfl fun w h=>?_)
    exact Own.retP rfl h.fin
   ·have c2:¬ fl≤floor:=by simpa using c2
    have e:bLv v now st fl floor=(false,v):=by unfold bLv;rw [if_pos c1,if_neg c2]
    rw [e]
    exact Own.retP rfl h.fin
  ·have c1:¬ v.til=0:=by simpa using c1
   refine w_deref (w_ld h rfl (w_deref ?_))
   refine w_setTo h b [.int .u64 v.best,.int .u64 v.at',.bool v.on,.int .u64 v.til,.bool (v.rd || st)] rfl rfl rfl fun w h=>?_
   have h:Own w0 S R w (blk b [.int .u64 v.best,.int .u64 v.at',.bool v.on,.int .u64 v.til,.bool (v.rd || st)]):=h.fin
   refine w_join h (fun _=>blk b [.int .u64 v.best,.int .u64 v.at',.bool v.on,.int .u64 v.til,.bool (v.rd || st)]) (fun _=>(v.rd || st)=true∧¬ now≤v.til) (fun _ w hc h=>?_) ?_
   ·have e:bLv v now st fl floor=(true,{ v with rd:=v.rd || st,at':=now,on:=false }):=by unfold bLv;rw [if_neg c1,if_neg (by rw [hc.1];simp),if_neg hc.2]
    rw [e]
    refine w_deref (w_setTo h b [.int .u64 v.best,.int .u64 now,.bool v.on,.int .u64 v.til,.bool (v.rd || st)] rfl rfl rfl fun w h=>?_)
    refine w_deref (w_setTo h b [.int .u64 v.best,.int .u64 now,.bool false,.int .u64 v.til,.bool (v.rd || st)] rfl rfl rfl fun w h=>?_)
    exact Own.retP rfl h.fin
   ·refine w_deref (w_ld h rfl ?_)
    refine w_ite (fun c2=>?_) fun c2=>?_
    ·have e:bLv v now st fl floor=(false,{ v with rd:=v.rd || st }):=by unfold bLv;rw [if_neg c1,if_pos c2]
     rw [e]
     exact Own.retP rfl h.fin
    ·refine w_deref (w_ld h rfl ?_)
     refine w_ite (fun c3=>?_) fun c3=>?_
     ·have c3:now≤v.til:=by simpa using c3
      have e:bLv v now st fl floor=(false,{ v with rd:=v.rd || st }):=by unfold bLv;rw [if_neg c1,if_neg (by rw [c2];simp),if_pos c3]
      rw [e]
      exact Own.retP rfl h.fin
     ·have c4:∀ x:Bool,(!x)=false→x=true:=by decide
      exact ⟨⟨c4 _ c2,by simpa using c3⟩,h⟩
theorem bupd_tri (b:Nat) (v:Pb) (hv:OkB v) (now rtt fl floor:Int) (st:Bool) (hn:U now) (hq:U rtt):Tri Tryz.prog N_probe_Probe_Update [.lf (.ptr (some ⟨b,0⟩)),.lf (.int .u64 now),.lf (.int .u64 rtt),.lf (.bool st),.lf (.int .u64 fl),.lf (.int .u64 floor)] [.lf .bool,.lf .bool] (blk b (BbrLs.lsB v))
  (fun x=>pur (x=(bU v now rtt st fl floor).1) (blk b (BbrLs.lsB ((bU v now rtt st fl floor).2)))) :=
 tri_0 (call_probe_Probe_Update _ _ _ _ _ _) fun w0 S R h=>by
  unfold W_probe_Probe_Update
  refine w_loop (fun _:Bool × Bool=>blk b (BbrLs.lsB v)) (fun y:Bool × Bool=>y=(false,false)) (fun _=>0) h rfl ?_
  rintro (⟨y1,y2⟩:Bool × Bool) w hy h
  cases hy
  refine w_ite (fun _=>?_) fun c=>(by cases c)
  refine w_join h (fun _=>blk b (BbrLs.lsB v)) (fun y:Bool=>y=bOld v now) (fun (y:Bool) w hy h=>?_) ?_
  ·rw [hy]
   refine w_join h (fun _=>blk b (BbrLs.lsB ((bNew v now rtt)))) (fun _=>True) (fun _ w _ h=>?_) ?_
   ·have on_eq:(bNew v now rtt).on=v.on:=by unfold bNew;split<;>rfl
    refine w_join h (fun _=>blk b (BbrLs.lsB ((bNew v now rtt)))) (fun y:Bool=>y=(bOld v now && !v.on)) (fun (y:Bool) w hy h=>?_) ?_
    ·rw [hy]
     refine w_ite (fun c=>?_) fun c=>?_
     ·have e:bU v now rtt st fl floor=((true,false),{ bNew v now rtt with on:=true,til:=0,rd:=false }):=by unfold bU;rw [if_pos c]
      rw [e]
      generalize bNew v now rtt=u at *
      refine w_deref (w_setTo h b [.int .u64 u.best,.int .u64 u.at',.bool true,.int .u64 u.til,.bool u.rd] rfl rfl rfl fun w h=>?_)
      refine w_deref (w_setTo h b [.int .u64 u.best,.int .u64 u.at',.bool true,.int .u64 0,.bool u.rd] rfl rfl rfl fun w h=>?_)
      refine w_deref (w_setTo h b [.int .u64 u.best,.int .u64 u.at',.bool true,.int .u64 0,.bool false] rfl rfl rfl fun w h=>?_)
      exact Own.retP rfl h.fin
     ·refine w_deref (w_ld h rfl ?_)
      rw [on_eq]
      refine w_ite (fun c2=>?_) fun c2=>?_
      ·have e:bU v now rtt st fl floor=((false,(bLv (bNew v now rtt) now st fl floor).1),(bLv (bNew v now rtt) now st fl floor).2):=by unfold bU;rw [if_neg (by rw [c];simp),if_pos c2]
       rw [e]
       refine w_call (blv_tri b (bNew v now rtt) now fl floor st hn) (h.le (star_emp _)) fun r w h=>?_
       obtain ⟨hr,h⟩:=h.purP
       exact Own.retP (by rw [hr]) h.fin
      ·have e:bU v now rtt st fl floor=((false,false),bNew v now rtt):=by unfold bU;rw [if_neg (by rw [c];simp),if_neg (by rw [c2];simp)]
       rw [e]
       exact Own.retP rfl h.fin
    ·refine w_ite (fun c=>?_) fun c=>?_
     ·refine w_deref (w_ld h rfl ?_)
      exact ⟨by rw [on_eq,c];rfl,h⟩
     ·exact ⟨by rw [c];rfl,h⟩
   ·refine w_join h (fun _=>blk b (BbrLs.lsB v)) (fun y:Bool=>y=bTake v now rtt) (fun (y:Bool) w hy h=>?_) ?_
    ·rw [hy]
     refine w_ite (fun c=>?_) fun c=>?_
     ·have e:bNew v now rtt={ v with best:=rtt,at':=now }:=by unfold bNew;rw [if_pos c]
      rw [e]
      refine w_deref (w_setTo h b [.int .u64 rtt,.int .u64 v.at',.bool v.on,.int .u64 v.til,.bool v.rd] rfl rfl rfl fun w h=>?_)
      refine w_deref (w_setTo h b [.int .u64 rtt,.int .u64 now,.bool v.on,.int .u64 v.til,.bool v.rd] rfl rfl rfl fun w h=>?_)
      exact ⟨trivial,h.fin⟩
     ·have e:bNew v now rtt=v:=by unfold bNew;rw [if_neg (by rw [c];simp)]
      rw [e]
      exact ⟨trivial,h⟩
    ·refine w_ite (fun c=>?_) fun c=>?_
     ·refine w_deref (w_ld h rfl ?_)
      refine w_ite (fun c2=>?_) fun c2=>?_
      ·exact ⟨by unfold bTake;rw [show decide (rtt > 0)=true from c,show decide (v.best=0)=true by simpa using c2];rfl,h⟩
      ·refine w_deref (w_ld h rfl ?_)
       exact ⟨by unfold bTake;rw [show decide (rtt > 0)=true from c,show decide (v.best=0)=false by simpa using c2];rfl,h⟩
     ·exact ⟨by unfold bTake;rw [show decide (rtt > 0)=false from c];rfl,h⟩
  ·refine w_deref (w_ld h rfl ?_)
   refine w_ite (fun c=>?_) fun c=>?_
   ·refine w_deref (w_ld h rfl ?_)
    refine w_call (satadd_tri v.at' 10000000000 hv.at' (U_lit _)) (h.le (star_emp _)) fun r w h=>?_
    obtain ⟨hr,h⟩:=h.purP
    exact ⟨by rw [hr];unfold bOld;rw [show decide (v.best > 0)=true from c];rfl,h.fin⟩
   ·exact ⟨by unfold bOld;rw [show decide (v.best > 0)=false from c];rfl,h⟩
theorem lbegin_tri (b:Nat) (q:Pl) (s:Sm):Tri Tryz.prog N_policer_Policer_begin [.lf (.ptr (some ⟨b,0⟩)),.agg (Ks.mk K_u8b s)] [] (blk b (BbrLs.lsL q)) (fun _=>blk b (BbrLs.lsL ((qBegin q s)))) :=
 tri_0 (call_policer_Policer_begin _ _) fun w0 S R h=>by
  unfold W_policer_Policer_begin
  refine w_new h fun n w h=>?_
  refine w_drw h fun w h=>w_ld h rfl (w_ld h rfl (w_deref (w_ld h rfl (w_deref ?_))))
  refine w_setTo h b [.bool q.use,.bool true,.int .u64 q.bw,.int .i64 q.n,.int .u64 q.lost,.int .u64 q.t0,.int .u64 q.d0,.int .u64 q.l0] rfl rfl rfl fun w h=>?_
  refine w_chk h rfl (w_chk h rfl (w_deref ?_))
  refine w_setTo h b [.bool q.use,.bool true,.int .u64 q.bw,.int .i64 0,.int .u64 q.lost,.int .u64 q.t0,.int .u64 q.d0,.int .u64 q.l0] rfl rfl rfl fun w h=>?_
  refine w_chk h rfl (w_chk h rfl (w_deref ?_))
  refine w_setTo h b [.bool q.use,.bool true,.int .u64 q.bw,.int .i64 0,.int .u64 q.lost,.int .u64 (sNow s),.int .u64 (sDel s),.int .u64 q.lost] rfl rfl rfl fun w h=>?_
  exact Own.keep (A:=blk b (BbrLs.lsL ((qBegin q s)))) h
theorem lleave_tri (b:Nat) (q:Pl):Tri Tryz.prog N_policer_Policer_leave [.lf (.ptr (some ⟨b,0⟩))] [] (blk b (BbrLs.lsL q)) (fun _=>blk b (BbrLs.lsL ((qLeave q)))) :=
 tri_0 (call_policer_Policer_leave _) fun w0 S R h=>by
  unfold W_policer_Policer_leave
  refine w_deref (w_setTo h b [.bool false,.bool q.mea,.int .u64 q.bw,.int .i64 q.n,.int .u64 q.lost,.int .u64 q.t0,.int .u64 q.d0,.int .u64 q.l0] rfl rfl rfl fun w h=>?_)
  refine w_deref (w_setTo h b [.bool false,.bool false,.int .u64 q.bw,.int .i64 q.n,.int .u64 q.lost,.int .u64 q.t0,.int .u64 q.d0,.int .u64 q.l0] rfl rfl rfl fun w h=>?_)
  refine w_deref (w_setTo h b [.bool false,.bool false,.int .u64 0,.int .i64 q.n,.int .u64 q.lost,.int .u64 q.t0,.int .u64 q.d0,.int .u64 q.l0] rfl rfl rfl fun w h=>?_)
  exact Own.keep (A:=blk b (BbrLs.lsL ((qLeave q)))) h
theorem apart_eq {a b:Int} (ha:U a) (hb:U b):IntKind.u64.wrap ((if b > a then b else a) - (if b < a then b else a))=apart a b:=by
 unfold U apart at *
 by_cases h:a < b
 ·rw [if_pos (show b > a by omega),if_neg (show ¬ b < a by omega),if_pos h,wu (by omega) (by omega)]
 ·rw [if_neg (show ¬ b > a by omega),if_neg h]
  split
  ·rw [wu (by omega) (by omega)]
  ·rw [wu (by omega) (by omega)];omega
theorem apart_tri (a b:Int) (ha:U a) (hb:U b):Tri Tryz.prog N_policer_apart [.lf (.int .u64 a),.lf (.int .u64 b)] [.lf (.int .u64)] emp (fun x=>pur (x=apart a b) emp) :=
 tri_0 (call_policer_apart _ _) fun w0 S R h=>by
  unfold W_policer_apart
  exact Own.retP (apart_eq ha hb) h.fin
theorem U8 {w:Int} (h:U w):IntKind.u64.wrap (w.tdiv 8)=w / 8:=by
 unfold U at h;rw [Int.tdiv_eq_ediv_of_nonneg h.1,wu (by omega) (by omega)]
theorem lmeas_tri (b:Nat) (q:Pl) (hq:OkL q) (s:Sm) (hs:OkS s):Tri Tryz.prog N_policer_Policer_measured [.lf (.ptr (some ⟨b,0⟩)),.agg (Ks.mk K_u8b s)] [.lf (.int .u64),.lf .bool] (blk b (BbrLs.lsL q))
  (fun x=>pur (x=match qMeas q s with | none=>(0,false) | some r=>(r,true)) (blk b (BbrLs.lsL q))) :=
 tri_0 (call_policer_Policer_measured _ _) fun w0 S R h=>by
  unfold W_policer_Policer_measured
  refine w_new h fun n w h=>?_
  have h:Own w0 S R w (blk n (Ks.mk K_u8b s)^blk b (BbrLs.lsL q)^emp):=h.le (star_mono Le.rfl (star_emp _))
  refine w_drw h fun w h=>w_ld h rfl (w_deref (w_deref (w_deref (w_ld h rfl (w_deref (w_ld h rfl (w_ld h rfl (w_ld h rfl (w_ld h rfl ?_)))))))))
  refine w_call (satsub_tri (sDel s) q.d0 hs.del hq.d0) h fun r w h=>?_
  obtain ⟨hr,h⟩:=h.purP
  rw [hr]
  refine w_chk h rfl (w_chk h rfl (w_chk h rfl (w_chk h rfl ?_)))
  refine w_call (satsub_tri q.lost q.l0 hq.lost hq.l0) h fun r w h=>?_
  obtain ⟨hr,h⟩:=h.purP
  rw [hr]
  refine w_chk h rfl (w_chk h rfl ?_)
  refine w_call (satsub_tri (sNow s) q.t0 hs.now hq.t0) h fun r w h=>?_
  obtain ⟨hr,h⟩:=h.purP
  rw [hr]
  refine w_ite (fun c=>?_) fun c=>?_
  ·have c:subI (sDel s) q.d0=0∨subI (sNow s) q.t0=0:=by simpa using c
   have e:qMeas q s=none:=by unfold qMeas;rw [if_pos c]
   rw [e]
   exact Own.retP rfl h.fin
  have c:¬ (subI (sDel s) q.d0=0∨subI (sNow s) q.t0=0):=fun hh=>by
   rcases hh with hh | hh<;>simp [hh] at c
  refine w_call (md_tri (subI (sDel s) q.d0) 50 256 (U_sub hs.del hq.d0) (U_lit _) (U_lit _)) h fun r w h=>?_
  obtain ⟨hr,h⟩:=h.purP
  rw [hr]
  refine w_ite (fun c2=>?_) fun c2=>?_
  ·have c2:subI q.lost q.l0 < mdI (subI (sDel s) q.d0) 50 256:=by simpa using c2
   have e:qMeas q s=none:=by unfold qMeas;rw [if_neg c,if_pos c2]
   rw [e]
   exact Own.retP rfl h.fin
  have c2:¬ subI q.lost q.l0 < mdI (subI (sDel s) q.d0) 50 256:=by simpa using c2
  refine w_call (md_tri (subI (sDel s) q.d0) 1000000000 (subI (sNow s) q.t0) (U_sub hs.del hq.d0) (U_lit _) (U_sub hs.now hq.t0)) h fun r w h=>?_
  obtain ⟨hr,h⟩:=h.purP
  rw [hr]
  have e:qMeas q s=some (mdI (subI (sDel s) q.d0) 1000000000 (subI (sNow s) q.t0)):=by unfold qMeas;rw [if_neg c,if_neg c2]
  rw [e]
  exact Own.retP rfl h.fin
theorem and1 (a b:Int) (ha:U a) (hb:U b):((BitVec.ofInt IntKind.u64.bits (IntKind.u64.wrap ((BitVec.ofInt IntKind.u64.bits a &&& BitVec.ofInt IntKind.u64.bits b).toNat:Int)) &&& BitVec.ofInt IntKind.u64.bits (1:Int)).toNat:Int)=(a % 2+b % 2) / 2:=by
 show ((BitVec.ofInt 64 (IntKind.u64.wrap ((BitVec.ofInt 64 a &&& BitVec.ofInt 64 b).toNat:Int)) &&& BitVec.ofInt 64 1).toNat:Int)=_
 obtain ⟨x,hx⟩:∃ x,(BitVec.ofInt 64 a &&& BitVec.ofInt 64 b).toNat=x:=⟨_,rfl⟩
 have hx2:x % 2=(a.toNat &&& b.toNat) % 2:=by rw [← hx,BitVec.toNat_and,bvu ha,bvu hb]
 have hlt:x < 18446744073709551616:=by rw [← hx];exact BitVec.isLt _
 rw [hx,wu (by omega) (by omega)]
 rw [BitVec.toNat_and,bvu (show U (x:Int) by unfold U;omega),show (BitVec.ofInt 64 1).toNat=2^1 - 1 by decide,Nat.and_two_pow_sub_one_eq_mod]
 have h3:(a.toNat &&& b.toNat) % 2=(a.toNat % 2) * (b.toNat % 2):=by
  have e:=Nat.and_mod_two_pow (a:=a.toNat) (b:=b.toNat) (n:=1)
  rw [show (2:Nat)^1=2 from rfl] at e
  rw [e]
  have h1:a.toNat % 2=0∨a.toNat % 2=1:=by omega
  have h2:b.toNat % 2=0∨b.toNat % 2=1:=by omega
  rcases h1 with h1 | h1<;>rcases h2 with h2 | h2<;>rw [h1,h2]<;>rfl
 show ((((x:Int).toNat) % 2:Nat):Int)=_
 rw [Int.toNat_natCast,hx2,h3]
 unfold U at ha hb
 have h1:a % 2=0∨a % 2=1:=by omega
 have h2:b % 2=0∨b % 2=1:=by omega
 rcases h1 with h1 | h1<;>rcases h2 with h2 | h2
 ·rw [show a.toNat % 2=0 by omega,h1,h2];simp
 ·rw [show a.toNat % 2=0 by omega,h1,h2];simp
 ·rw [show b.toNat % 2=0 by omega,h1,h2];simp
 ·rw [show a.toNat % 2=1 by omega,show b.toNat % 2=1 by omega,h1,h2];simp
theorem avg_eq {a b:Int} (ha:U a) (hb:U b):IntKind.u64.wrap ((IntKind.u64.wrap ((IntKind.u64.wrap (a.tdiv (2:Int)))+(IntKind.u64.wrap (b.tdiv (2:Int)))))+(IntKind.u64.wrap (BitVec.ofInt IntKind.u64.bits (IntKind.u64.wrap (BitVec.ofInt IntKind.u64.bits a &&& BitVec.ofInt IntKind.u64.bits b).toNat) &&& BitVec.ofInt IntKind.u64.bits (1:Int)).toNat))=avg a b:=by
 rw [and1 a b ha hb,Int.tdiv_eq_ediv_of_nonneg ha.1,Int.tdiv_eq_ediv_of_nonneg hb.1]
 unfold U avg at *
 simp only [wm]
 omega
theorem lend_tri (b:Nat) (q:Pl) (hq:OkL q) (s:Sm) (hs:OkS s):Tri Tryz.prog N_policer_Policer_end [.lf (.ptr (some ⟨b,0⟩)),.agg (Ks.mk K_u8b s)] [] (blk b (BbrLs.lsL q)) (fun _=>blk b (BbrLs.lsL ((qEnd q s)))) :=
 tri_0 (call_policer_Policer_end _ _) fun w0 S R h=>by
  unfold W_policer_Policer_end
  refine w_new h fun n w h=>?_
  refine w_ldAll (x:=s) h rfl ?_
  refine w_call (lmeas_tri b q hq s hs) h fun r w h=>?_
  obtain ⟨hr,h⟩:=h.purP
  rw [hr]
  cases hm:qMeas q s with
  | none =>
   have e:qEnd q s=q:=by unfold qEnd;rw [hm]
   rw [e]
   refine w_ite (fun c=>?_) fun c=>(by cases c)
   exact h.fin
  | some r =>
   have e:qEnd q s=qGot q s r:=by unfold qEnd;rw [hm]
   rw [e]
   have hU:=U_meas hq hs hm
   refine w_ite (fun c=>(by cases c)) fun c=>?_
   show join _ _ _ _
   refine w_join h (fun _=>blk b (BbrLs.lsL q)^blk n (Ks.mk K_u8b s)) (fun y:Bool=>y=decide (q.bw > 0∧apart q.bw r≤q.bw / 8)) (fun (y:Bool) w hy h=>?_) ?_
   ·rw [hy]
    refine w_ite (fun c=>?_) fun c=>?_
    ·have c:q.bw > 0∧apart q.bw r≤q.bw / 8:=by simpa using c
     have e:qGot q s r={ q with bw:=avg q.bw r,use:=true,n:=0 }:=by unfold qGot;rw [if_pos c]
     rw [e]
     refine w_drw h fun w h=>w_deref (w_deref (w_ld h rfl (w_ld h rfl (w_deref ?_))))
     dsimp only
     rw [avg_eq hq.bw hU]
     refine w_setTo h b [.bool q.use,.bool q.mea,.int .u64 (avg q.bw r),.int .i64 q.n,.int .u64 q.lost,.int .u64 q.t0,.int .u64 q.d0,.int .u64 q.l0] rfl rfl rfl fun w h=>?_
     refine w_deref (w_setTo h b [.bool true,.bool q.mea,.int .u64 (avg q.bw r),.int .i64 q.n,.int .u64 q.lost,.int .u64 q.t0,.int .u64 q.d0,.int .u64 q.l0] rfl rfl rfl fun w h=>?_)
     refine w_deref (w_setTo h b [.bool true,.bool q.mea,.int .u64 (avg q.bw r),.int .i64 0,.int .u64 q.lost,.int .u64 q.t0,.int .u64 q.d0,.int .u64 q.l0] rfl rfl rfl fun w h=>?_)
     exact h.keep
    ·have c:¬ (q.bw > 0∧apart q.bw r≤q.bw / 8):=by simpa using c
     have e:qGot q s r=qBegin { q with bw:=r } s:=by unfold qGot;rw [if_neg c]
     rw [e]
     refine w_deref (w_setTo h b (BbrLs.lsL ({ q with bw:=r })) rfl rfl rfl fun w h=>?_)
     refine w_ldAll (x:=s) h rfl ?_
     refine w_call (lbegin_tri b { q with bw:=r } s) h fun _ w h=>?_
     exact h.keep
   ·refine w_drw h fun w h=>w_deref (w_ld h rfl ?_)
    refine w_ite (fun c=>?_) fun c=>?_
    ·have c:q.bw > 0:=by simpa using c
     refine w_deref (w_deref (w_ld h rfl (w_ld h rfl ?_)))
     refine w_call (apart_tri q.bw r hq.bw hU) (h.le ((star_mono Le.rfl (star_emp _)))) fun x w h=>?_
     obtain ⟨hx,h⟩:=h.purP
     rw [hx,U8 hq.bw]
     refine w_chk h rfl ?_
     exact ⟨by simp [c],h.fin⟩
    ·have c:¬ q.bw > 0:=by simpa using c
     exact ⟨by simp [c],h.fin⟩
theorem tick_ok {q:Pl} (h:OkL q) (o:Bool) (hn:(qTick q o).use=false→(qTick q o).n≤16) (hu:(qTick q o).use=false):OkL (qTick q o):=by
 cases o with
 | false=>exact h
 | true =>
  have h0:=h.n.1
  have h1:=hn hu
  have hu:q.use=false:=hu
  have h1:q.n+1≤16:=h1
  exact ⟨h.bw,⟨(by show 0≤q.n+1;omega),(by show q.n+1≤48;omega)⟩,h.lost,h.t0,h.d0,h.l0,(fun hh=>by have hh:q.use=true:=hh;rw [hu] at hh;cases hh),fun _ _=>h1⟩
theorem lupd_tri (b : Nat) (q : Pl) (hq : OkL q) (o : Bool) (s : Sm) (hs : OkS s) : Tri Tryz.prog N_policer_Policer_Update [.lf (.ptr (some ⟨b, 0⟩)), .lf (.bool o), .agg (Ks.mk K_u8b s)] [] (blk b (BbrLs.lsL q)) (fun _ => blk b (BbrLs.lsL ((qUpd q o s)))) :=
  tri_0 (call_policer_Policer_Update _ _ _) fun w0 S R h => by
    unfold W_policer_Policer_Update
    refine w_new h fun n w h => ?_
    have h : Own w0 S R w (blk n (Ks.mk K_u8b s) ^ blk b (BbrLs.lsL q) ^ emp) := h.le (star_mono Le.rfl (star_emp _))
    refine w_loop (fun _ : Unit => blk n (Ks.mk K_u8b s) ^ blk b (BbrLs.lsL q) ^ emp) (fun _ : Unit => True) (fun _ => 0) h trivial ?_
    rintro _ w _ h
    refine w_ite (fun _ => ?_) fun c => (by cases c)
    refine w_drw h fun w h => w_deref (w_ld h rfl (w_ld h rfl ?_))
    refine w_call (satadd_tri q.lost (sLost s) hq.lost hs.lost) h fun r w h => ?_
    obtain ⟨hr, h⟩ := h.purP
    rw [hr]
    refine w_deref (w_setTo h b (BbrLs.lsL ((qAdd q s))) rfl rfl rfl fun w h => ?_)
    have hq1 := hq.add hs
    have hu : (qAdd q s).use = q.use := rfl
    have hm : (qAdd q s).mea = q.mea := rfl
    have hdef : qUpd q o s = if (qAdd q s).use = false ∧ (qAdd q s).mea = false then (if sLost s > 0 then qBegin (qAdd q s) s else qAdd q s)
        else if (qAdd q s).use = false ∧ sLim s = true then qLeave (qAdd q s) else qGo (qTick (qAdd q s) o) o s := rfl
    rw [hdef]
    generalize qAdd q s = u at *
    have h : Own w0 S R w (blk n (Ks.mk K_u8b s) ^ blk b (BbrLs.lsL u)) := h.fin
    refine w_join h (fun _ => blk n (Ks.mk K_u8b s) ^ blk b (BbrLs.lsL u)) (fun y : Bool => y = decide (u.use = false ∧ u.mea = false)) (fun (y : Bool) w hy h => ?_) ?_
    · rw [hy]
      refine w_ite (fun c => ?_) fun c => ?_
      · have c : u.use = false ∧ u.mea = false := by simpa using c
        rw [if_pos c]
        refine w_ld h rfl ?_
        refine w_ite (fun c2 => ?_) fun c2 => ?_
        · have c2 : sLost s > 0 := by simpa using c2
          rw [if_pos c2]
          refine w_ldAll (x := s) h rfl ?_
          refine w_call (lbegin_tri b u s) (h.le (star_mono Le.rfl (star_emp _))) fun _ w h => ?_
          exact h.keep
        · have c2 : ¬ sLost s > 0 := by simpa using c2
          rw [if_neg c2]
          exact h.fin
      have c : ¬ (u.use = false ∧ u.mea = false) := by simpa using c
      rw [if_neg c]
      refine w_join h (fun _ => blk n (Ks.mk K_u8b s) ^ blk b (BbrLs.lsL u)) (fun _ => ¬ (u.use = false ∧ sLim s = true)) (fun _ w c2 h => ?_) ?_
      · rw [if_neg c2]
        have hn := hq1.n
        refine w_join h (fun _ => blk n (Ks.mk K_u8b s) ^ blk b (BbrLs.lsL ((qTick u o)))) (fun _ => True) (fun _ w _ h => ?_) ?_
        · have ht := tick_ok hq1 o
          generalize qTick u o = v at *
          refine w_deref (w_ld h rfl ?_)
          refine w_ite (fun c3 => ?_) fun c3 => ?_
          · have c3 : v.use = true := c3
            refine w_join h (fun _ => blk n (Ks.mk K_u8b s) ^ blk b (BbrLs.lsL v)) (fun y : Bool => y = decide (o = true ∧ v.n = 48)) (fun (y : Bool) w hy h => ?_) ?_
            · rw [hy]
              refine w_ite (fun c4 => ?_) fun c4 => ?_
              · have c4 : o = true ∧ v.n = 48 := by simpa using c4
                have e : qGo v o s = { qLeave v with n := 0 } := by unfold qGo; rw [if_pos c3, if_pos c4]
                rw [e]
                refine w_call (lleave_tri b v) (h.le (star_mono Le.rfl (star_emp _))) fun _ w h => ?_
                refine w_deref (w_setTo h b (BbrLs.lsL ({ qLeave v with n := 0 })) rfl rfl rfl fun w h => ?_)
                exact h.keep
              · have c4 : ¬ (o = true ∧ v.n = 48) := by simpa using c4
                have e : qGo v o s = v := by unfold qGo; rw [if_pos c3, if_neg c4]
                rw [e]
                exact h.fin
            · refine w_ite (fun c4 => ?_) fun c4 => ?_
              · refine w_deref (w_ld h rfl ?_)
                have c4 : o = true := c4
                exact ⟨by rw [c4, Bool.eq_iff_iff]; simp, h⟩
              · have c4 : o = false := c4
                exact ⟨by rw [c4]; rfl, h⟩
          have c3 : ¬ v.use = true := by rw [show v.use = false from c3]; simp
          have c3' : v.use = false := by simpa using c3
          refine w_deref (w_ld h rfl ?_)
          refine w_ite (fun c4 => ?_) fun c4 => ?_
          · have c4 : v.n > 16 := by simpa using c4
            have e : qGo v o s = qLeave v := by unfold qGo; rw [if_neg c3, if_pos c4]
            rw [e]
            refine w_call (lleave_tri b v) (h.le (star_mono Le.rfl (star_emp _))) fun _ w h => ?_
            exact h.keep
          have c4 : ¬ v.n > 16 := by simpa using c4
          refine w_join h (fun _ => blk n (Ks.mk K_u8b s) ^ blk b (BbrLs.lsL v)) (fun y : Bool => y = decide (v.n ≥ 4 ∧ sLost s > 0)) (fun (y : Bool) w hy h => ?_) ?_
          · rw [hy]
            refine w_ite (fun c5 => ?_) fun c5 => ?_
            · have c5 : v.n ≥ 4 ∧ sLost s > 0 := by simpa using c5
              have e : qGo v o s = qEnd v s := by unfold qGo; rw [if_neg c3, if_neg c4, if_pos c5]
              rw [e]
              refine w_ldAll (x := s) h rfl ?_
              refine w_call (lend_tri b v (ht (fun _ => by omega) c3') s hs) (h.le (star_mono Le.rfl (star_emp _))) fun _ w h => ?_
              exact h.keep
            · have c5 : ¬ (v.n ≥ 4 ∧ sLost s > 0) := by simpa using c5
              have e : qGo v o s = v := by unfold qGo; rw [if_neg c3, if_neg c4, if_neg c5]
              rw [e]
              exact h.fin
          · refine w_deref (w_ld h rfl ?_)
            refine w_ite (fun c5 => ?_) fun c5 => ?_
            · refine w_ld h rfl ?_
              have c5 : v.n ≥ 4 := by simpa using c5
              exact ⟨by rw [Bool.eq_iff_iff]; simp [c5], h⟩
            · have c5 : ¬ v.n ≥ 4 := by simpa using c5
              exact ⟨by simp [c5], h⟩
        · refine w_ite (fun c3 => ?_) fun c3 => ?_
          · have c3 : o = true := c3
            have e : qTick u o = { u with n := u.n + 1 } := by unfold qTick; rw [if_pos c3]
            rw [e]
            refine w_deref (w_ld h rfl (w_deref ?_))
            rw [wi (n := u.n + 1) (by omega) (by omega)]
            refine w_setTo h b (BbrLs.lsL ({ u with n := u.n + 1 })) rfl rfl rfl fun w h => ?_
            exact ⟨trivial, h.fin⟩
          · have c3 : o = false := c3
            have e : qTick u o = u := by unfold qTick; rw [c3]; rfl
            rw [e]
            exact ⟨trivial, h⟩
      · refine w_deref (w_ld h rfl ?_)
        refine w_ite (fun c2 => ?_) fun c2 => ?_
        · have c2 : u.use = false := by simpa using c2
          refine w_ld h rfl ?_
          refine w_ite (fun c3 => ?_) fun c3 => ?_
          · rw [if_pos ⟨c2, c3⟩]
            refine w_call (lleave_tri b u) (h.le (star_mono Le.rfl (star_emp _))) fun _ w h => ?_
            exact h.keep
          · exact ⟨fun hh => by have : sLim s = false := c3
                                rw [this] at hh; simp at hh, h⟩
        · have c2 : u.use = true := by simpa using c2
          exact ⟨(fun hh => by rw [c2] at hh; simp at hh), h⟩
    · refine w_deref (w_ld h rfl ?_)
      refine w_ite (fun c => ?_) fun c => ?_
      · have c : u.use = false := by simpa using c
        refine w_deref (w_ld h rfl ?_)
        exact ⟨by rw [c]; cases u.mea <;> rfl, h⟩
      · have c : u.use = true := by simpa using c
        exact ⟨by rw [c]; rfl, h⟩
end BbrL

end Go.X
