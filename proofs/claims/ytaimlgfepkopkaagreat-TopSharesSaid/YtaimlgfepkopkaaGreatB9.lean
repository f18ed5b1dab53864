/- Contracts and plain facts: EgS EgT EgV EgW EgY. -/
import Derived.Test.YtaimlgfepkopkaaGreatB0
import Derived.Test.YtaimlgfepkopkaaGreatB1
import Derived.Test.YtaimlgfepkopkaaGreatB2
import Derived.Test.YtaimlgfepkopkaaGreatB3
import Derived.Test.YtaimlgfepkopkaaGreatB4
import Derived.Test.YtaimlgfepkopkaaGreatB5
import Derived.Test.YtaimlgfepkopkaaGreatB6
import Derived.Test.YtaimlgfepkopkaaGreatB7
import Derived.Test.YtaimlgfepkopkaaGreatB8
import Derived.Test.YtaimlgfepkopkaaGreatK
import Derived.Test.YtaimlgfepkopkaaGreatF0
import Derived.Test.YtaimlgfepkopkaaGreatF1
import Derived.Test.YtaimlgfepkopkaaGreatF2
set_option linter.unusedVariables false
set_option linter.unusedSimpArgs false
set_option linter.unusedSectionVars false
namespace Go.X
open Go.Proofs
namespace EgS
open Arith ArithC TreeF FqM FqC SockC EgM EgA EgB EgC EgD EgE EgF EgG EgH EgI EgJ EgK EgL EgO EgQ
open SockM (Sk emitS doneS writeS loseS newS skFl skTso mayS)
open SockV (IvB)
theorem may_7 {x:Sk} (h1:(Board.lostF x.bd.1).2=false) (h2:SockA.bW x.bf - SockA.bN x.bf=0):(mayS x).1≠0:=by
 unfold mayS
 rw [if_pos ⟨h1,h2⟩]
 show (7:Int)≠0
 decide
theorem emit_7 {x:Sk} {now:Int} (h:(mayS x).1≠0):(emitS x now).1.2≠0:=by
 unfold emitS
 rw [if_pos h];exact h
theorem pump_once {i now:Int} {s:Pm} (n:Nat) (h1:(emitS s.v now).1.2=0) (h2:(emitS (emitS s.v now).2 now).1.2≠0):(pumpN i now (n+2) s).q=(enter i now s).1.q∧(pumpN i now (n+2) s).l=(enter i now s).1.l∧(pumpN i now (n+2) s).o=(enter i now s).1.o:=by
 show (if (emitS s.v now).1.2≠0 then _ else if (enter i now s).2=0 then pumpN i now (n+1) (enter i now s).1 else (enter i now s).1).q=_∧(if (emitS s.v now).1.2≠0 then _ else if (enter i now s).2=0 then pumpN i now (n+1) (enter i now s).1 else (enter i now s).1).l=_∧(if (emitS s.v now).1.2≠0 then _ else if (enter i now s).2=0 then pumpN i now (n+1) (enter i now s).1 else (enter i now s).1).o=_
 rw [if_neg (fun c=>c h1)]
 by_cases h0:(enter i now s).2=0
 ·rw [if_pos h0]
  have hv:(enter i now s).1.v=(emitS s.v now).2:=by
   unfold enter at h0 ⊢
   dsimp only at h0 ⊢
   split
   ·rfl
   ·rename_i c;rw [if_neg c] at h0;exact absurd h0 (by show ¬ (1:Int)=0;decide)
  have e:pumpN i now (n+1) (enter i now s).1={ (enter i now s).1 with v:=(emitS (enter i now s).1.v now).2 }:=by
   unfold pumpN
   rw [if_pos (by rw [hv];exact h2)]
  rw [e]
  exact ⟨rfl,rfl,rfl⟩
 ·rw [if_neg h0];exact ⟨rfl,rfl,rfl⟩
theorem enter_one {k now B n0 : Int} {i : Nat} (hi : i < 8) {s : Pm} (h : OkPm k i s) (hn : U now) (he : (emitS s.v now).1.2 = 0) (hb : Bk B (s.l i) n0) (hB : B < 1152921504606846975) :
    (enter i now s).1.o.dep = s.o.dep ∧ b0 ((enter i now s).1.l i) = b0 (s.l i) + 1 ∧
    ((sgO ((enter i now s).1.q.fl i) = sgO (s.q.fl i) ++ [drawn s.q (emitS s.v now).1.1 now] ∧ (enter i now s).1.o.dr = s.o.dr) ∨ (enter i now s).1.o.dr = s.o.dr ++ [(emitS s.v now).1.1]) := by
  have hw := went_of h.v hn he
  have hg1 : sK (emitS s.v now).1.1 = (i : Int) := hw.id.trans h.id
  have hg2 : 1 ≤ sLn (emitS s.v now).1.1 ∧ sLn (emitS s.v now).1.1 ≤ 65536 := hw.n
  obtain ⟨g, hg⟩ : ∃ g, g = (emitS s.v now).1.1 := ⟨_, rfl⟩
  rw [← hg] at hg1 hg2 ⊢
  have hin := bk_in hb (by omega)
  have een : enter i now s = if (enqF s.q g now).1.1 = 0 then (⟨(emitS s.v now).2, (enqF s.q g now).2, (noteL s.l i 0).2, s.o⟩, 0)
        else (⟨(doneS (emitS s.v now).2 g.2.2.1).2, (enqF s.q g now).2, (dropF (noteL s.l i 0).2 s.o g (enqF s.q g now).1.1).2, (dropF (noteL s.l i 0).2 s.o g (enqF s.q g now).1.1).1⟩, 1) := by
    rw [hg]; rfl
  have hgn : (sK g).toNat = i := by omega
  rcases enq_sg s.q g now (by omega) hg2 with ⟨h1, h2⟩ | ⟨h1, h2⟩
  · rw [if_pos (by rw [h1])] at een
    rw [een]
    refine ⟨rfl, ?_, .inl ⟨?_, rfl⟩⟩
    · show b0 ((noteL s.l i 0).2 i) = _
      rw [noteL_eq s.l hi, EgM.upL_same]
      exact hin.2.2.2
    · show sgO ((enqF s.q g now).2.fl i) = _
      rw [h2, hgn, if_pos rfl]
  · have hne : ¬ (enqF s.q g now).1.1 = 0 := by rcases h1 with h | h | h <;> rw [h] <;> (show ¬ (_ : Int) = 0; decide)
    have hfr : 1 ≤ (enqF s.q g now).1.1 ∧ (enqF s.q g now).1.1 ≤ 5 := by
      rcases h1 with h | h | h <;> rw [h]
      · show (1:Int) ≤ 2 ∧ (2:Int) ≤ 5; decide
      · show (1:Int) ≤ 3 ∧ (3:Int) ≤ 5; decide
      · show (1:Int) ≤ 4 ∧ (4:Int) ≤ 5; decide
    rw [if_neg hne] at een
    rw [een]
    refine ⟨rfl, ?_, .inr rfl⟩
    show b0 ((noteL (noteL s.l i 0).2 (sK g) (enqF s.q g now).1.1).2 i) = _
    rw [hg1, noteL_eq s.l hi, noteL_eq _ hi, EgM.upL_same, EgM.upL_same]
    rw [(bk_out hin.1 (by omega) (by have := hb.nn; omega) hfr).2.2.2.2.2]
    exact hin.2.2.2
end EgS

namespace EgT
open Arith ArithC TreeF FqM FqC SockC EgM EgA EgB EgC EgD EgE EgF EgG EgH EgI EgJ EgK EgL EgO EgP EgQ
open SockM (Sk emitS doneS writeS loseS newS skFl skTso mayS)
open SockV (IvB)
theorem note_b1 (c:Ct) {f:Int} (hf:f≠1):b1 (note1 c f).2=b1 c:=by
 unfold note1
 split
 ·rfl
 ·rename_i h
  have:f=0∨f=2∨f=3∨f=4∨f=5:=by omega
  rcases this with rfl | rfl | rfl | rfl | rfl
  ·rfl
  all_goals (rw [if_neg (by decide)];split<;>rfl)
theorem noteL_b1 (l:Nat→Ct) (s:Int) {f:Int} (hf:f≠1) (j:Nat):b1 ((noteL l s f).2 j)=b1 (l j):=by
 unfold noteL
 split
 ·rfl
 ·show b1 (EgM.upL l s.toNat _ j)=_
  by_cases e:j=s.toNat
  ·rw [e,EgM.upL_same];exact note_b1 _ hf
  ·rw [EgM.upL_ne _ _ e]
def tb (l:Nat→Ct):Nat→Int
 | 0=>0
 | n+1=>tb l n+b1 (l n)
theorem tb_eq {l m:Nat→Ct} (h:∀ j,b1 (l j)=b1 (m j)):∀ n,tb l n=tb m n
 | 0=>rfl
 | n+1=>by show tb l n+_=tb m n+_;rw [tb_eq h n,h n]
theorem tb_up {l m:Nat→Ct} {i:Nat} (h:∀ j,j≠i→m j=l j) (hi:b1 (m i)=b1 (l i)+1):∀ n,tb m n=tb l n+if i < n then 1 else 0
 | 0=>by simp [tb]
 | n+1=>by
  show tb m n+b1 (m n)=tb l n+b1 (l n)+_
  rw [tb_up h hi n]
  by_cases e:n=i
  ·rw [e,hi,if_neg (by omega),if_pos (by omega)];omega
  ·rw [h n e]
   by_cases e2:i < n
   ·rw [if_pos e2,if_pos (by omega)];omega
   ·rw [if_neg e2,if_neg (by omega)];omega
theorem drops_b1:∀ (ss:List Sg) (l:Nat→Ct) (o:Ou) (j:Nat),b1 ((dropsF l o ss).2 j)=b1 (l j)
 | [],_,_,_=>rfl
 | s :: ss,l,o,j=>by
  show b1 ((dropsF (dropF l o s 5).2 (dropF l o s 5).1 ss).2 j)=_
  rw [drops_b1 ss]
  exact noteL_b1 l (sK s) (by decide) j
theorem drops_dr:∀ (ss:List Sg) (l:Nat→Ct) (o:Ou),(dropsF l o ss).1.dr=o.dr++ss∧(dropsF l o ss).1.dep=o.dep
 | [],_,o=>⟨by show o.dr=o.dr++[];rw [List.append_nil],rfl⟩
 | s :: ss,l,o=>by
  obtain ⟨a,b⟩:=drops_dr ss (dropF l o s 5).2 (dropF l o s 5).1
  refine ⟨?_,b⟩
  show (dropsF (dropF l o s 5).2 (dropF l o s 5).1 ss).1.dr=_
  rw [a]
  show (o.dr++[s])++ss=o.dr++s :: ss
  rw [List.append_assoc];rfl
theorem pumpN_ac {k now : Int} {i : Nat} (hn : U now) : ∀ (n : Nat) (s : Pm), OkPm k i s → i < 8 → (∀ j, ∃ t, sgO ((pumpN i now n s).q.fl j) = sgO (s.q.fl j) ++ t) ∧ (∀ j, b1 ((pumpN i now n s).l j) = b1 (s.l j)) ∧ (pumpN i now n s).o.dep = s.o.dep ∧ (s.o.dr.length = s.o.ft.length → (pumpN i now n s).o.dr.length = (pumpN i now n s).o.ft.length)
  | 0, s, _, _ => ⟨fun _ => ⟨[], by rw [List.append_nil]; rfl⟩, fun _ => rfl, rfl, fun h => h⟩
  | n + 1, s, h, hi => by
    unfold pumpN
    by_cases he : (emitS s.v now).1.2 = 0
    · rw [if_neg (fun c => c he)]
      have h1 := (enter_ok h hn he).1
      have hw := went_of h.v hn he
      have hg1 : sK (emitS s.v now).1.1 = (i : Int) := hw.id.trans h.id
      have hg2 : 1 ≤ sLn (emitS s.v now).1.1 ∧ sLn (emitS s.v now).1.1 ≤ 65536 := hw.n
      have a : (∀ j, ∃ t, sgO ((enter i now s).1.q.fl j) = sgO (s.q.fl j) ++ t) ∧ (∀ j, b1 ((enter i now s).1.l j) = b1 (s.l j)) ∧ (enter i now s).1.o.dep = s.o.dep ∧ (s.o.dr.length = s.o.ft.length → (enter i now s).1.o.dr.length = (enter i now s).1.o.ft.length) := by
        obtain ⟨g, hg⟩ : ∃ g, g = (emitS s.v now).1.1 := ⟨_, rfl⟩
        rw [← hg] at hg1 hg2
        have een : enter i now s = if (enqF s.q g now).1.1 = 0 then (⟨(emitS s.v now).2, (enqF s.q g now).2, (noteL s.l i 0).2, s.o⟩, 0)
              else (⟨(doneS (emitS s.v now).2 g.2.2.1).2, (enqF s.q g now).2, (dropF (noteL s.l i 0).2 s.o g (enqF s.q g now).1.1).2, (dropF (noteL s.l i 0).2 s.o g (enqF s.q g now).1.1).1⟩, 1) := by
          rw [hg]; rfl
        rcases enq_sg s.q g now (by omega) hg2 with ⟨h1, h2⟩ | ⟨h1, h2⟩
        · rw [if_pos (by rw [h1])] at een
          rw [een]
          exact ⟨fun j => ⟨_, h2 j⟩, fun j => noteL_b1 s.l i (by decide) j, rfl, fun h => h⟩
        · have hne : ¬ (enqF s.q g now).1.1 = 0 := by rcases h1 with h | h | h <;> rw [h] <;> (show ¬ (_ : Int) = 0; decide)
          have h5 : (enqF s.q g now).1.1 ≠ 1 := by rcases h1 with h | h | h <;> rw [h] <;> (show ¬ (_ : Int) = 1; decide)
          rw [if_neg hne] at een
          rw [een]
          refine ⟨fun j => ⟨[], by rw [List.append_nil]; exact h2 j⟩, fun j => ?_, rfl, fun h => ?_⟩
          · show b1 ((noteL (noteL s.l i 0).2 (sK g) (enqF s.q g now).1.1).2 j) = _
            rw [noteL_b1 _ _ h5, noteL_b1 _ _ (by decide)]
          · show (s.o.dr ++ [g]).length = (s.o.ft ++ [_]).length
            rw [List.length_append, List.length_append, h]; rfl
      obtain ⟨a1, a2, a3, a4⟩ := a
      split
      · obtain ⟨p1, p2, p3, p4⟩ := pumpN_ac hn n _ h1 hi
        refine ⟨fun j => ?_, fun j => (p2 j).trans (a2 j), p3.trans a3, fun h => p4 (a4 h)⟩
        obtain ⟨t, ht⟩ := a1 j
        obtain ⟨u, hu⟩ := p1 j
        exact ⟨t ++ u, by rw [hu, ht, List.append_assoc]⟩
      · exact ⟨a1, a2, a3, a4⟩
    · rw [if_pos he]
      exact ⟨fun _ => ⟨[], by rw [List.append_nil]⟩, fun _ => rfl, rfl, fun h => h⟩
structure Acc (v:Mc) (d:Dd) (r:(Ou × Int) × Mc):Prop where
 one:r.1.1.dep.length≤1
 bad:r.1.2≠0→r.1.1=ou0
 ft:r.1.1.dr.length=r.1.1.ft.length
 fl:∀ j:Nat,j < 8→(∃ x,r.1.1.dep=[x]∧sK x=(j:Int)∧sgO (v.q.fl j)=x :: sgO (r.2.q.fl j))∨((∀ x,r.1.1.dep=[x]→sK x≠(j:Int)) ∧
  (r.1.2=0→dK d=9→dS d=(j:Int)→sgO (r.2.q.fl j)=[]∧r.1.1.dr=sgO (v.q.fl j))∧(¬ (r.1.2=0∧dK d=9∧dS d=(j:Int))→∃ t,sgO (r.2.q.fl j)=sgO (v.q.fl j)++t))
 b:tb r.2.l 8=tb v.l 8+r.1.1.dep.length
theorem acc_still {v v':Mc} {d:Dd} {e:Int} (hq:∀ j,sgO (v'.q.fl j)=sgO (v.q.fl j)) (hl:v'.l=v.l) (h9:e=0→dK d≠9):Acc v d ((ou0,e),v') where
 one:=Nat.zero_le _
 bad:=fun _=>rfl
 ft:=rfl
 fl:=fun j hj=>.inr ⟨fun x h=>(by cases h),fun h0 h1=>absurd h1 (h9 h0),fun _=>⟨[],(by rw [List.append_nil];exact hq j)⟩⟩
 b:=by rw [hl];show _=_+(0:Int);omega
theorem do_ac {k B:Int} {v:Mc} (hv:OkMc k v) (hk:k < 1000000) (hb:BkL B v.l v.q.fl) (hB:B < 1152921500000000000) (d:Dd) (xs:List (Int × Int)):Acc v d (doF v d xs):=by
 by_cases hne:(doF v d xs).1.2≠0
 ·obtain ⟨h1,h2⟩:=refused hne
  have e:doF v d xs=((ou0,(doF v d xs).1.2),v):=by
   rw [← h2]
   refine Prod.ext ?_ h1
   rfl
  rw [e]
  exact acc_still (fun _=>rfl) rfl (fun h=>absurd h hne)
 have h0:(doF v d xs).1.2=0:=Classical.not_not.1 hne
 have hs0:(stepM v d xs).1=0:=by rw [← do_err];exact h0
 have e:doF v d xs=(((stepM v d xs).2.1,0),(stepM v d xs).2.2):=by unfold doF;rw [if_neg (fun c=>c hs0)]
 rw [e]
 clear e hne h0
 unfold stepM at hs0 ⊢
 split
 ·rename_i e5;exact acc_still (fun _=>rfl) rfl (fun _=>by omega)
 ·rename_i e5
  rw [if_neg e5] at hs0
  split
  ·rename_i e6
   show Acc v d (((pullF v ou0).1,0),(pullF v ou0).2)
   unfold pullF
   rcases deq_sg hv.q hv.un (rates_U hv) with ⟨h1,h2⟩ | ⟨i,s,h1,⟨h3,h4⟩,h2⟩
   ·cases hd:deqF v.q v.now (ratesF v.so) with
    | mk x q =>
    rw [hd] at h1 h2
    dsimp only at h1
    subst h1
    dsimp only
    refine { one:=?_,bad:=fun c=>absurd rfl c,ft:=?_,fl:=fun j hj=>.inr ⟨fun x h=>?_,fun _ c=>absurd c (by omega),fun _=>⟨[],by rw [List.append_nil];exact h2 j⟩⟩,b:=?_ }
    ·split<;>exact Nat.zero_le _
    ·split<;>rfl
    ·split at h<;>cases h
    ·show tb v.l 8=tb v.l 8+_
     split<;>(show tb v.l 8=tb v.l 8+(0:Int);omega)
   ·cases hd:deqF v.q v.now (ratesF v.so) with
    | mk x q =>
    rw [hd] at h1 h2
    dsimp only at h1
    subst h1
    have hci:cnt (v.q.fl i)=cnt (q.fl i)+1:=by have:=h2 i;rw [if_pos rfl] at this;rw [cnt_sg,cnt_sg,this];simp
    have hbo:=bk_out (hb i h4) (by omega) (by rw [hci];have:=cnt_nn (q.fl i);omega) (f:=1) (by omega)
    refine { one:=Nat.le_refl _,bad:=fun c=>absurd rfl c,ft:=rfl,fl:=fun j hj=>?_,b:=?_ }
    ·by_cases ej:j=i
     ·left
      refine ⟨s,rfl,by rw [ej];exact h3,?_⟩
      have:=h2 j
      rw [if_pos ej] at this
      exact this
     ·right
      refine ⟨fun x hx=>?_,fun _ c=>absurd c (by omega),fun _=>⟨[],?_⟩⟩
      ·have hx:[s]=[x]:=hx
       cases hx
       rw [h3];omega
      ·have:=h2 j
       rw [if_neg ej,List.nil_append] at this
       rw [List.append_nil];exact this.symm
    ·show tb (noteL v.l (sK s) 1).2 8=tb v.l 8+1
     rw [h3,noteL_eq v.l h4]
     have:=tb_up (l:=v.l) (m:=EgM.upL v.l i (note1 (v.l i) 1).2) (i:=i) (fun j hj=>EgM.upL_ne _ _ hj) (by rw [EgM.upL_same];exact hbo.2.2.2.1 rfl) 8
     rw [this,if_pos h4]
  ·rename_i e6
   rw [if_neg e6] at hs0
   split
   ·rename_i e8
    show Acc v d ((ou0,0),(setM v (dC d)).2)
    have e1:(setM v (dC d)).2.l=v.l:=by unfold setM;split<;>rfl
    have e2:(setM v (dC d)).2.q.fl=v.q.fl:=by
     have e:(setF v.q (dC d)).2.fl=v.q.fl:=by unfold setF;split<;>rfl
     unfold setM;split<;>exact e
    exact acc_still (fun j=>by rw [e2]) e1 (fun _=>by omega)
   ·rename_i e8
    rw [if_neg e8] at hs0
    split
    ·rename_i e1
     rw [if_pos e1] at hs0
     unfold oneM at hs0 ⊢
     split
     ·rename_i hi;rw [if_pos hi] at hs0;cases hs0
     ·rename_i hi
      rw [if_neg hi] at hs0
      have hi:0≤dS d∧dS d < 8:=Classical.not_not.1 hi
      have hi8:(dS d).toNat < 8:=by omega
      have hid:(((dS d).toNat:Nat):Int)=dS d:=by omega
      split
      ·split
       ·rename_i e1;exact acc_still (fun _=>rfl) rfl (fun _=>by omega)
       ·rename_i hn e1
        rw [hn] at hs0
        dsimp only at hs0
        rw [if_neg e1] at hs0
        cases hs0
      ·rename_i x hx
       obtain ⟨hxi,hxd,_⟩:=hv.so _ x hx
       rw [hx] at hs0
       dsimp only at hs0
       split
       ·rename_i e1;rw [if_pos e1] at hs0;cases hs0
       ·rename_i e1
        rw [if_neg e1] at hs0
        split
        ·rename_i e9
         obtain ⟨c1,c2⟩:=close_sg v.q (dS d).toNat hi8
         obtain ⟨d1,d2⟩:=drops_dr (closeF v.q ((dS d).toNat:Int)).1 v.l ou0
         obtain ⟨d3,d4⟩:=drops_len v.l ou0 (closeF v.q ((dS d).toNat:Int)).1
         refine { one:=?_,bad:=fun c=>absurd rfl c,ft:=?_,fl:=fun j hj=>.inr ⟨fun x h=>?_,fun _ _ c=>⟨?_,?_⟩,fun c=>⟨[],?_⟩⟩,b:=?_ }
         ·show (dropsF v.l ou0 (closeF v.q ((dS d).toNat:Int)).1).1.dep.length≤1
          rw [d2];exact Nat.zero_le _
         ·show (dropsF v.l ou0 (closeF v.q ((dS d).toNat:Int)).1).1.dr.length=(dropsF v.l ou0 (closeF v.q ((dS d).toNat:Int)).1).1.ft.length
          rw [d3,d4];rfl
         ·have h:(dropsF v.l ou0 (closeF v.q ((dS d).toNat:Int)).1).1.dep=[x]:=h
          rw [d2] at h;cases h
         ·show sgO ((closeF v.q ((dS d).toNat:Int)).2.fl j)=[]
          rw [c2,if_pos (by omega)]
         ·show (dropsF v.l ou0 (closeF v.q ((dS d).toNat:Int)).1).1.dr=_
          rw [d1,c1,show j=(dS d).toNat by omega];rfl
         ·show sgO ((closeF v.q ((dS d).toNat:Int)).2.fl j)=_
          rw [c2,if_neg (fun x=>c ⟨rfl,e9,by omega⟩),List.append_nil]
         ·show tb (dropsF v.l ou0 (closeF v.q ((dS d).toNat:Int)).1).2 8=tb v.l 8+((dropsF v.l ou0 (closeF v.q ((dS d).toNat:Int)).1).1.dep.length:Int)
          rw [d2,tb_eq (drops_b1 _ _ _)]
          show tb v.l 8=tb v.l 8+(0:Int);omega
        ·rename_i e9
         rw [if_neg e9] at hs0
         obtain ⟨a,b⟩:=EgF.told_ok hxi hk hv.un d xs
         split
         ·have hpm:OkPm (k+1) ((dS d).toNat:Int) ⟨(toldF x v.now d xs).2,v.q,v.l,ou0⟩:=⟨a,b.trans hxd,hv.q⟩
          obtain ⟨p1,p2,p3,p4⟩:=pumpN_ac hv.un (fresh (toldF x v.now d xs).2+1) _ hpm hi8
          refine { one:=?_,bad:=fun c=>absurd rfl c,ft:=p4 rfl,fl:=fun j hj=>.inr ⟨fun x h=>?_,fun _ c=>absurd c e9,fun _=>p1 j⟩,b:=?_ }
          ·show (pumpF _ _ _).o.dep.length≤1
           unfold pumpF
           rw [p3];exact Nat.zero_le _
          ·have h:(pumpF _ _ _).o.dep=[x]:=h
           unfold pumpF at h
           rw [p3] at h;cases h
          ·show tb (pumpF _ _ _).l 8=tb v.l 8+((pumpF _ _ _).o.dep.length:Int)
           unfold pumpF
           rw [p3,tb_eq p2]
           show tb v.l 8=tb v.l 8+(0:Int);omega
         ·rename_i ec;rw [if_neg ec] at hs0;exact absurd hs0 ec
    ·rename_i e1;rw [if_neg e1] at hs0;cases hs0
end EgT

namespace EgV
open Arith ArithC TreeF FqM FqC SockC EgM EgA EgB EgC EgD EgE EgF EgG EgH EgI EgJ EgK EgL EgP EgQ EgT
open SockM (Sk emitS doneS writeS loseS newS skFl skTso mayS)
theorem tb_r {B:Int} {l:Nat→Ct} {fl:Nat→Option Fl} (h:BkL B l fl):∀ n,n≤8→0≤tb l n∧tb l n≤tb l 8:=by
 have st:∀ n,n < 8→tb l n≤tb l (n+1):=fun n hn=>by have:=(h n hn).p1;show tb l n≤tb l n+b1 (l n);omega
 have s0:tb l 0≤tb l 1:=st 0 (by omega)
 have s1:tb l 1≤tb l 2:=st 1 (by omega)
 have s2:tb l 2≤tb l 3:=st 2 (by omega)
 have s3:tb l 3≤tb l 4:=st 3 (by omega)
 have s4:tb l 4≤tb l 5:=st 4 (by omega)
 have s5:tb l 5≤tb l 6:=st 5 (by omega)
 have s6:tb l 6≤tb l 7:=st 6 (by omega)
 have s7:tb l 7≤tb l 8:=st 7 (by omega)
 have z:tb l 0=0:=rfl
 intro n hn
 have:n=0∨n=1∨n=2∨n=3∨n=4∨n=5∨n=6∨n=7∨n=8:=by omega
 rcases this with rfl | rfl | rfl | rfl | rfl | rfl | rfl | rfl | rfl<;>omega
section
variable {w0 w : World} {S R : Nat → Prop} {F : SP}
end
end EgV

namespace EgW
open Arith ArithC TreeF FqM FqC SockC EgM EgA EgB EgC EgD EgE EgF EgG EgH EgI EgJ EgK EgL EgO EgP EgQ EgS EgT EgV
open SockM (Sk emitS doneS writeS loseS newS skFl skTso mayS)
open SockV (IvB)
abbrev shC:Cf:=(3000,15000,512,512,10000000000,0,false,100000,1000)
theorem shC_may:may shC=true:=by decide
theorem shC_ok:OkC shC:=may_ok shC_may (by decide) (U_lit 0)
theorem wrote2 (i:Int) {n:Int} (hn:1≤n∧n≤30000):writeS (newS i 1000 100000) n=(0,wrote i n):=by
 unfold writeS SockA.wrF
 rw [if_neg (by omega),if_neg (by show ¬ n > 1073741824 - (0 - 0);omega)]
 have e:(0:Int)+n=n:=by omega
 show ((0:Int),(⟨i,SockB.clampM 1000,100000,(0+n,0,0,1073741824),([],0),SockB.sp0,BbrMm.mNew (SockB.clampM 1000),0,0⟩:Sk))=_
 rw [e];rfl
theorem uT_20:20000≤SockB.tsoF (BbrMm.mNew 1000).rate 1000∧(BbrMm.mNew 1000).win≤10000:=by decide +kernel
theorem goes2 {k i n:Int} (hn:1≤n∧n≤30000) (hx:IvB k (wrote i n)):(emitS (wrote i n) 0).1.2=0∧sSt (emitS (wrote i n) 0).1.1≤0∧(emitS (emitS (wrote i n) 0).2 0).1.2≠0:=by
 obtain ⟨x,hxe⟩:∃ x:Sk,x=wrote i n:=⟨_,rfl⟩
 rw [← hxe] at hx ⊢
 have e1:SockA.bW x.bf - SockA.bN x.bf=n:=by rw [hxe];show n - 0=n;omega
 have e2:skFl x=0:=by rw [hxe];rfl
 have e3:x.md=BbrMm.mNew 1000:=by rw [hxe];rfl
 have e4:x.out=0:=by rw [hxe];rfl
 have e5:x.bd=([],0):=by rw [hxe];rfl
 have e6:x.cap=100000:=by rw [hxe];rfl
 have e7:skTso x=SockB.tsoF (BbrMm.mNew 1000).rate 1000:=by rw [hxe];rfl
 obtain ⟨v1,v2⟩:=uT_20
 have hm:(mayS x).1=0:=by
  obtain ⟨u1,u2⟩:=u_eq
  have a1:¬ ((Board.lostF x.bd.1).2=false∧SockA.bW x.bf - SockA.bN x.bf=0):=by rw [e1];omega
  have a2:¬ ¬ (skFl x < x.md.win∧x.out < SockB.belowF x.md.rate (skTso x) x.cap):=by rw [e2,e3,e4,e6,e7];exact fun c=>c ⟨u1,u2⟩
  have a3:¬ ((Board.lostF x.bd.1).2=false∧(x.bd.1.length:Int) ≥ 4096):=by rw [e5];show ¬ (_∧(0:Int) ≥ 4096);omega
  unfold mayS
  rw [if_neg a1,if_neg a2,if_neg a3]
 have he:(emitS x 0).1.2=0:=by unfold emitS;rw [if_neg (fun c=>c hm)]
 have hw:=went_of hx (U_lit 0) he
 have hA:SockQ.gA (emitS x 0).1.1=false:=by
  cases hg:SockQ.gA (emitS x 0).1.1 with
  | false=>rfl
  | true =>
   have:=(hw.old hg).2.1
   rw [e5] at this
   have h2:=congrArg Prod.snd this
   cases h2
 obtain ⟨n1,n2,_,n4,n5⟩:=hw.new hA
 have hcut:SockQ.gN (emitS x 0).1.1=min n (SockB.tsoF (BbrMm.mNew 1000).rate 1000):=by rw [n4];unfold SockO.cutN;rw [e1,e7]
 refine ⟨he,?_,?_⟩
 ·have e:=hw.st
  have e8:x.nx=0:=by rw [hxe];rfl
  have e9:sSt (emitS x 0).1.1=if x.nx > 0 then x.nx else 0:=e
  rw [e9,e8];decide
 ·apply emit_7
  by_cases hc:n≤SockB.tsoF (BbrMm.mNew 1000).rate 1000
  ·have hg:SockQ.gN (emitS x 0).1.1=n:=by rw [hcut];omega
   refine may_7 ?_ ?_
   ·rw [n5,e5];rfl
   ·rw [n2,hg]
    show SockA.bW x.bf - (SockA.bN x.bf+n)=0
    omega
  ·have hg:SockQ.gN (emitS x 0).1.1=SockB.tsoF (BbrMm.mNew 1000).rate 1000:=by rw [hcut];omega
   have hf:¬ (skFl (emitS x 0).2 < (emitS x 0).2.md.win∧(emitS x 0).2.out < SockB.belowF (emitS x 0).2.md.rate (skTso (emitS x 0).2) (emitS x 0).2.cap):=by
    rw [hw.fl,hw.md,e2,e3,hg];omega
   unfold mayS
   split
   ·show (7:Int)≠0;decide
   ·show (5:Int)≠0;decide
def Soon (q:Qm):Prop:=∀ j f,q.fl j=some f→f.nx≤0∧∀ s∈f.sg,sSt s≤0
theorem soon_coll {q:Qm} (h:Soon q) (t:Int):Soon (collectF q t):=by
 intro j f hf
 have hf:(if _ then none else q.fl j)=some f:=hf
 split at hf
 ·cases hf
 ·exact h j f hf
theorem soon_enq {q:Qm} (h:Soon q) {g:Sg} (hg:sSt g≤0) (t:Int):Soon (enqF q g t).2:=by
 unfold enqF
 split
 ·exact h
 ·split
  ·exact h
  ·split
   ·rw [FqM.add_eq]
    intro j f hf
    have hf:FqM.upF (collectF q t).fl (sK g).toNat (some { woken (collectF q t) (sK g).toNat t with sg:=(woken (collectF q t) (sK g).toNat t).sg++[drawn q g t] }) j=some f:=hf
    by_cases e:j=(sK g).toNat
    ·rw [e,FqM.upF_same] at hf
     cases hf
     have hd:sSt (drawn q g t)≤0:=by
      show (if _ then _ else sSt g)≤0
      split
      ·omega
      ·exact hg
     refine ⟨?_,fun s hs=>?_⟩
     ·show (woken (collectF q t) (sK g).toNat t).nx≤0
      unfold woken
      split
      ·exact Int.le_refl 0
      ·rename_i f hf
       split
       ·exact (soon_coll h t _ f hf).1
       ·exact (soon_coll h t _ f hf).1
     ·have hs:s∈(woken (collectF q t) (sK g).toNat t).sg++[drawn q g t]:=hs
      rw [List.mem_append,List.mem_singleton] at hs
      rcases hs with hs | hs
      ·rw [FqM.woken_sg] at hs
       split at hs
       ·cases hs
       ·rename_i f hf;exact (soon_coll h t _ f hf).2 s hs
      ·rw [hs];exact hd
    ·rw [FqM.upF_ne _ _ e] at hf
     exact soon_coll h t j f hf
   ·exact soon_coll h t
structure Op (k:Nat) (v:Mc):Prop where
 now:v.now=0
 c:v.c=shC
 so:∀ j,k≤j→v.so j=none
 t:Soon v.q
 one:∀ j,(sgO (v.q.fl j)).length≤1
 out:∀ j,k≤j→sgO (v.q.fl j)=[]
 b:∀ j,b1 (v.l j)=0
theorem op_open {k:Nat} {v:Mc} (h:Op k v) (hk:k < 8):(doF v (dOne 1 (k:Int) 0) []).2={ v with so:=EgM.upL v.so k (some (newS (k:Int) 1000 100000)) }:=by
 rw [open_eq v (s:=(k:Int)) (by omega) (by rw [Int.toNat_natCast];exact h.so k (Nat.le_refl k)),h.c,Int.toNat_natCast]
theorem op_send {k:Nat} {K B n:Int} {v:Mc} (h:Op k v) (hk:k < 8) (hv:OkMc K v) (hK:K < 900000) (hb:BkL B v.l v.q.fl) (hB:B < 1152921500000000000) (hn:1≤n∧n≤30000):Op (k+1) (doF (doF v (dOne 1 (k:Int) 0) []).2 (dOne 2 (k:Int) n) []).2:=by
 have o1:=do_ok hv (by omega) (dOne_ok 1 (k:Int) 0 (by decide)) []
 rw [op_open h hk] at o1 ⊢
 obtain ⟨v1,hv1⟩:∃ v1:Mc,v1={ v with so:=EgM.upL v.so k (some (newS (k:Int) 1000 100000)) }:=⟨_,rfl⟩
 rw [← hv1] at o1 ⊢
 have x1:v1.so k=some (newS (k:Int) 1000 100000):=by rw [hv1];exact EgM.upL_same _ _ _
 have q1:v1.q=v.q:=by rw [hv1]
 have l1:v1.l=v.l:=by rw [hv1]
 have n1:v1.now=0:=by rw [hv1];exact h.now
 have hse:=send_eq v1 (s:=(k:Int)) (by omega) (x:=newS (k:Int) 1000 100000) (by rw [Int.toNat_natCast];exact x1) (n:=n) (by rw [wrote2 _ hn])
 rw [wrote2 _ hn,Int.toNat_natCast] at hse
 have told:=EgF.told_ok (o1.so _ _ x1).1 (by omega) o1.un (dOne 2 (k:Int) n) []
 have et:(toldF (newS (k:Int) 1000 100000) v1.now (dOne 2 (k:Int) n) []).2=wrote (k:Int) n:=by show (writeS (newS (k:Int) 1000 100000) n).2=_;rw [wrote2 _ hn]
 rw [et] at told
 have hpm:OkPm (K+1+1) (k:Int) ⟨wrote (k:Int) n,v1.q,v1.l,ou0⟩:=⟨told.1,told.2,o1.q⟩
 obtain ⟨g1,g2,g3⟩:=goes2 hn told.1
 obtain ⟨m,hm⟩:∃ m,fresh (wrote (k:Int) n)+1=m+2:=by
  have e:fresh (wrote (k:Int) n)=(n - 0).toNat+0:=rfl
  exact ⟨(n - 1).toNat,by omega⟩
 have hpo:=pump_once (i:=(k:Int)) (now:=(0:Int)) (s:=⟨wrote (k:Int) n,v1.q,v1.l,ou0⟩) m g1 g3
 have hes:=enter_sg hk hpm (U_lit 0) g1
 have heo:=enter_one hk hpm (U_lit 0) g1 (by show Bk B (v1.l k) _;rw [l1];exact hb k hk) (by omega)
 have hac:=pumpN_ac (U_lit 0) (fresh (wrote (k:Int) n)+1) _ hpm hk
 rw [hse]
 have p2:(pumpM v1 k (wrote (k:Int) n) ou0).2.q=(enter (k:Int) 0 ⟨wrote (k:Int) n,v1.q,v1.l,ou0⟩).1.q:=by
  unfold pumpM pumpF;dsimp only;rw [n1,hm];exact hpo.1
 have e2:(enter (k:Int) 0 ⟨wrote (k:Int) n,v1.q,v1.l,ou0⟩).1.q=(enqF v1.q (emitS (wrote (k:Int) n) 0).1.1 0).2:=by unfold enter;dsimp only;split<;>rfl
 have hold:sgO (v1.q.fl k)=[]:=by rw [q1];exact h.out k (Nat.le_refl k)
 refine { now:=n1,c:=by rw [hv1];exact h.c,so:=fun j hj=>?_,t:=?_,one:=fun j=>?_,out:=fun j hj=>?_,b:=fun j=>?_ }
 ·show EgM.upL v1.so k _ j=none
  rw [EgM.upL_ne _ _ (by omega),hv1]
  show EgM.upL v.so k _ j=none
  rw [EgM.upL_ne _ _ (by omega)]
  exact h.so j (by omega)
 ·show Soon (pumpM v1 k (wrote (k:Int) n) ou0).2.q
  rw [p2,e2,q1]
  exact soon_enq h.t g2 0
 ·show (sgO ((pumpM v1 k (wrote (k:Int) n) ou0).2.q.fl j)).length≤1
  rw [p2]
  by_cases e:j=k
  ·rw [e]
   rcases heo.2.2 with ⟨a,_⟩ | _
   ·rw [a]
    show (sgO (v1.q.fl k)++_).length≤1
    rw [hold];exact Nat.le_refl 1
   ·rw [e2]
    rcases enq_sg v1.q (emitS (wrote (k:Int) n) 0).1.1 0 (by have:=(went_of told.1 (U_lit 0) g1).id;have e5:sK (emitS (wrote (k:Int) n) 0).1.1=(k:Int):=this.trans told.2;omega) (went_of told.1 (U_lit 0) g1).n with ⟨_,b⟩ | ⟨_,b⟩
    ·rw [b,hold];split<;>simp
    ·rw [b,hold];simp
  ·rw [hes.2.1 j e]
   show (sgO (v1.q.fl j)).length≤1
   rw [q1];exact h.one j
 ·show sgO ((pumpM v1 k (wrote (k:Int) n) ou0).2.q.fl j)=[]
  rw [p2,hes.2.1 j (by omega)]
  show sgO (v1.q.fl j)=[]
  rw [q1];exact h.out j (by omega)
 ·show b1 ((pumpN (k:Int) v1.now _ _).l j)=0
  rw [n1]
  exact (hac.2.1 j).trans (by show b1 (v1.l j)=0;rw [l1];exact h.b j)
structure Dr (n:Nat) (v:Mc):Prop where
 t:∀ i f,v.q.fl i=some f→f.sg≠[]→timeF f≤v.now
 one:∀ j,(sgO (v.q.fl j)).length≤1
 out:∀ j,n≤j→sgO (v.q.fl j)=[]∧b1 (v.l j)=0
theorem pull_dr {n:Nat} {K B:Int} {v:Mc} (h:Dr n v) (hv:OkMc K v) (hb:BkL B v.l v.q.fl) (hB:B < 1152921500000000000) (hn:0 < v.q.n) :
  (pullF v ou0).1.dep.length=1∧Dr n (pullF v ou0).2∧(pullF v ou0).2.q.n=v.q.n - 1:=by
 have hU:=rates_U hv
 obtain ⟨w1,w2,_⟩:=FqQ.works hv.q hv.un hU
 have hs:(deqF v.q v.now (ratesF v.so)).1.isSome=true:=by
  rw [w1]
  obtain ⟨s1,s2⟩:=FqQ.least_spec v.q 8
  have hl:(FqQ.leastN v.q 8).2=true:=by
   cases hc:(FqQ.leastN v.q 8).2 with
   | true=>rfl
   | false =>
    exfalso
    have hz:tot v.q.fl 8=tot (fun _=>none) 8:=tot_ext 8 fun i hi=>by
     cases hf:v.q.fl i with
     | none=>rfl
     | some f =>
      have:=(s1 hc).2 i f hi hf
      show (f.sg.length:Int)=0
      rw [this];rfl
    rw [hv.q.n,hz] at hn
    exact absurd hn (by decide)
  obtain ⟨⟨i,f,_,hf,hs,e⟩,_⟩:=s2 hl
  rw [hl,Bool.true_and,decide_eq_true_eq,← e]
  exact h.t i f hf hs
 rw [hs,if_pos rfl] at w2
 obtain ⟨u,hu,hc⟩:=FqQ.ran hv.q hv.un hU
 rcases hc with ⟨_,he⟩ | ⟨i,f,s,l,hA,hcr,hsg,htf,he⟩
 ·rw [he] at hs;cases hs
 ·have hi8:i < 8:=hA.lt
  obtain ⟨q',hq'⟩:∃ q',q'=FqM.sentF u i f s v.now (rateA (ratesF v.so) i):=⟨_,rfl⟩
  have hqi:sgO (q'.fl i)=l:=by
   rw [hq']
   show sgO (FqM.upF u.fl i _ i)=l
   rw [FqM.upF_same]
   show f.sg.tail=l
   rw [hsg];rfl
  have hqj:∀ j,j≠i→q'.fl j=u.fl j:=fun j hj=>by
   rw [hq']
   show FqM.upF u.fl i _ j=_
   rw [FqM.upF_ne _ _ hj]
  have hvi:sgO (v.q.fl i)=s :: l:=by
   rw [← same_sg hu.same i,hA.fl];exact hsg
  have hl0:l=[]:=by
   have:=h.one i
   rw [hvi] at this
   cases l with
   | nil=>rfl
   | cons a b=>simp at this
  have hsk:sK s=(i:Int):=((hu.ok.fl i f hA.fl).2.sg s (by rw [hsg];simp)).1
  have hin:i < n:=by
   by_cases c:i < n
   ·exact c
   ·have:=(h.out i (by omega)).1
    rw [hvi] at this;cases this
  rw [← hq'] at he
  have ep:pullF v ou0=({ ou0 with dep:=[s] },{ v with q:=q',l:=(noteL v.l (sK s) 1).2 }):=by
   unfold pullF
   rw [he]
  rw [he] at w2
  rw [ep]
  refine ⟨rfl,{ t:=fun j g hg hgs=>?_,one:=fun j=>?_,out:=fun j hj=>?_ },w2⟩
  ·have hg:q'.fl j=some g:=hg
   show timeF g≤v.now
   by_cases e:j=i
   ·exfalso
    rw [e] at hg
    rw [hg,hl0] at hqi
    exact hgs hqi
   ·rw [hqj j e] at hg
    obtain ⟨g0,hg0,_,hg1,hg2⟩:=hu.same.sym.to hg
    rw [← hg2]
    exact h.t j g0 hg0 (by rw [hg1];exact hgs)
  ·show (sgO (q'.fl j)).length≤1
   by_cases e:j=i
   ·rw [e,hqi,hl0];exact Nat.zero_le _
   ·rw [hqj j e,same_sg hu.same j];exact h.one j
  ·show sgO (q'.fl j)=[]∧b1 ((noteL v.l (sK s) 1).2 j)=0
   have e:j≠i:=by omega
   rw [hqj j e,same_sg hu.same j,hsk,noteL_eq v.l hi8,EgM.upL_ne _ _ e]
   exact h.out j hj
end EgW

namespace EgY
open Arith ArithC TreeF FqM FqC SockC EgM EgA EgB EgC EgD EgE EgF EgG EgH EgI EgJ EgK EgL EgO EgP EgQ EgS EgT EgV EgW
open SockM (Sk emitS doneS writeS loseS newS skFl skTso mayS)
abbrev dAt (t:Int):Dd:=(5,0,0,0,t,⟨none,0,0⟩,0,0,0,0,0,0,false,0,0)
theorem dAt_ok:OkD (dAt 100000000000):=⟨(by decide:(0:Int) < 9223372036854775808),U_lit 0,U_lit 100000000000,(by decide:(0:Int)≤0),U_lit 0⟩
theorem at_eq (v:Mc) (h:v.now=0):(doF v (dAt 100000000000) []).2={ v with now:=100000000000 }:=by
 rw [do_step]
 show ({ v with now:=(moveF v.now 100000000000).2 }:Mc)=_
 rw [h];rfl
theorem pull_eq (v:Mc):doF v dPull []=(((pullF v ou0).1,0),(pullF v ou0).2):=rfl
structure Fin (n:Nat) (Q:Int) (v:Mc):Prop where
 z:v.q.n=0
 t:tb v.l 8=Q
 bk:∃ B,BkL B v.l v.q.fl
 o:∀ j,n≤j→b1 (v.l j)=0
theorem tb_tail {l:Nat→Ct} {n:Nat} (hn:n≤8) (h:∀ j,n≤j→b1 (l j)=0):tb l n=tb l 8:=by
 have st:∀ m,n≤m→tb l (m+1)=tb l m:=fun m hm=>by show tb l m+b1 (l m)=_;rw [h m hm];omega
 have:∀ k,tb l (n+k)=tb l n:=fun k=>by
  induction k with
  | zero=>rfl
  | succ k ih=>rw [← Nat.add_assoc,st _ (by omega),ih]
 have e:=this (8 - n)
 rw [show n+(8 - n)=8 by omega] at e
 exact e.symm
theorem n_le {v:Mc} (hq:OkQ v.q) (h:∀ j,(sgO (v.q.fl j)).length≤1):v.q.n≤8:=by
 rw [hq.n]
 have:∀ n:Nat,tot v.q.fl n≤(n:Int):=fun n=>by
  induction n with
  | zero=>exact Int.le_refl 0
  | succ n ih =>
   have:=h n
   show tot v.q.fl n+cnt (v.q.fl n)≤_
   rw [cnt_sg];omega
 exact this 8
theorem shares_tri (d:Int) (s:Sl) (xs:List Int):Tri Tryz.prog N_cantertop_TopShares [.lf (.int .i64 d),.lf (.sl s)] [.lf .bool] (rarr s KI xs) (fun r=>pur (r=true) emp) :=
 tri_0 (call_cantertop_TopShares d s) fun w0 S R h=>by
  unfold W_cantertop_TopShares
  have hud:U (IntKind.u64.wrap d):=U_wrap d
  unfold U at hud
  obtain ⟨n,hn⟩:∃ n,n=IntKind.i64.wrap (1+IntKind.i64.wrap ((IntKind.u64.wrap d).tmod 8)):=⟨_,rfl⟩
  have hn8:1≤n∧n≤8:=by
   rw [hn,Int.tmod_eq_emod_of_nonneg hud.1,wi (n:=IntKind.u64.wrap d % 8) (by omega) (by omega),wi (by omega) (by omega)];omega
  rw [← hn]
  have h:Own w0 S R w0 (rarr s KI xs):=h
  have hsl:=(h.rd (s:=s)).2
  refine w_call FqH.plain_tri (h.le ((star_emp _).trans (star_comm _ _))) fun r w h=>?_
  obtain ⟨hr,h⟩:=h.purP;rw [hr]
  refine w_new h fun n2 w h=>w_setAll h (by rfl) fun w h=>w_setTo h n2 (Ks.mk KC (3000,15000,512,50,10000000000,0,false,100000,1000)) rfl rfl rfl fun w h=>w_setTo h n2 (Ks.mk KC shC) rfl rfl rfl fun w h=>?_
  refine w_ldAll (b:=n2) (x:=shC) h rfl (w_call (EgE.new_tri shC) (h.le ((star_emp _).trans (star_comm _ _))) fun r w h=>?_)
  obtain ⟨b,h⟩:=h.exP
  obtain ⟨hr,h⟩:=h.purP
  rw [if_pos shC_may] at hr h
  rw [hr]
  refine w_call tawake_tri (h.le ((star_emp _).trans (star_comm _ _))) fun r w h=>?_
  obtain ⟨hr,h⟩:=h.purP;rw [hr]
  refine w_ite (fun c=>(by cases c)) fun _=>?_
  have h:Own w0 S R w (mach b (newM shC)^rarr s KI xs):=h.fin
  have op0:EgW.Op 0 (newM shC):={ now:=rfl,c:=rfl,so:=fun _ _=>rfl,t:=fun j f hf=>(by cases hf),one:=fun _=>Nat.zero_le _,out:=fun _ _=>rfl,b:=fun _=>rfl }
  refine w_loopE (fun (_:Int) (v:Mc)=>mach b v^rarr s KI xs) (fun (y:Int) v=>(0≤y∧y≤n)∧OkMc (2 * y) v∧EgW.Op y.toNat v∧BkL (y * 4294967296) v.l v.q.fl) (fun (y:Int) _=>(n - y).toNat) (newM shC) h ⟨⟨Int.le_refl 0,by omega⟩,new_ok shC_ok,op0,new_bk _⟩ ?_
  rintro K (y:Int) v w ⟨hy,hv,hop,hbk⟩ h next
  refine w_ite (fun c=>?_) fun c=>?_
  ·have c:y < n:=of_decide_eq_true c
   have hyw:IntKind.i64.wrap (y+1)=y+1:=wi (by omega) (by omega)
   have hyn:((y.toNat:Nat):Int)=y:=by omega
   have o1:=do_ok hv (by omega) (dOne_ok 1 y 0 (by decide)) []
   have k1:=do_bk hv (by omega) hbk (by omega) (dOne 1 y 0) []
   refine w_do0 (d:=dOne 1 y 0) h hv (by omega) (dOne_ok 1 y 0 (by decide)) rfl fun r w _ h=>?_
   have go:∀ {w:World} (m:Int),1≤m∧m≤30000→Own w0 S R w (mach b (doF v (dOne 1 y 0) []).2^rarr s KI xs)→call Tryz.prog N_egress_Machine_Do [.lf (.ptr (some ⟨b,0⟩)),.agg (Ks.mk KD (dOne 2 y m))] [.agg KOu,.lf (.int .i64)] (fun _=>K (IntKind.i64.wrap (y+1))) w:=fun {w} m hm h=>by
    refine w_do0 (d:=dOne 2 y m) h o1 (by omega) (dOne_ok 2 y m (by omega)) rfl fun r w _ h=>?_
    rw [hyw]
    have o2:=do_ok o1 (by omega) (dOne_ok 2 y m (by omega)) []
    have k2:=do_bk o1 (by omega) k1 (by omega) (dOne 2 y m) []
    have p2:=op_send hop (by omega) hv (by omega) hbk (by omega) hm
    rw [hyn] at p2
    refine next (y+1) (doF (doF v (dOne 1 y 0) []).2 (dOne 2 y m) []).2 w ⟨⟨by omega,by omega⟩,?_,?_,?_⟩ h.fin (by show (n - (y+1)).toNat < (n - y).toNat;omega)
    ·rw [show 2 * (y+1)=2 * y+1+1 by omega];exact o2
    ·rw [show (y+1).toNat=y.toNat+1 by omega];exact p2
    ·exact k2.le (by omega)
   have h:Own w0 S R w (mach b (doF v (dOne 1 y 0) []).2^rarr s KI xs):=h.fin
   refine w_ite (fun c2=>?_) fun _=>?_
   ·have c2:y < ((s.len:Nat):Int):=of_decide_eq_true c2
    have hyl:y.toNat < xs.length:=by omega
    refine w_idx (s:=s) h hy.1 hyl (w_ldE h s y.toNat (y:=xs[y.toNat]) (List.getElem?_eq_getElem hyl) rfl ?_)
    have hx:U (IntKind.u64.wrap xs[y.toNat]):=U_wrap _
    unfold U at hx
    refine go (IntKind.i64.wrap (1+IntKind.i64.wrap ((IntKind.u64.wrap xs[y.toNat]).tmod 30000))) ?_ h
    rw [Int.tmod_eq_emod_of_nonneg hx.1,wi (n:=IntKind.u64.wrap xs[y.toNat] % 30000) (by omega) (by omega),wi (by omega) (by omega)];omega
   ·exact go 1000 (by decide) h
  ·clear next
   have c:¬ y < n:=of_decide_eq_false c
   have hyn:y=n:=by omega
   rw [hyn] at hop
   have hbk:=hbk.le (D:=34359738368) (by omega)
   have o1:=do_ok hv (by omega) dAt_ok []
   have k1:=do_bk hv (by omega) hbk (by omega) (dAt 100000000000) []
   refine w_do0 (d:=dAt 100000000000) h hv (by omega) dAt_ok rfl fun r w _ h=>?_
   rw [at_eq v hop.now] at o1 k1 h
   obtain ⟨v1,hv1⟩:∃ v1:Mc,v1={ v with now:=100000000000 }:=⟨_,rfl⟩
   rw [← hv1] at o1 k1 h
   have dr1:Dr n.toNat v1:=by
    rw [hv1]
    refine { t:=fun i f hf hs=>?_,one:=hop.one,out:=fun j hj=>⟨hop.out j hj,hop.b j⟩ }
    obtain ⟨a1,a2⟩:=hop.t i f hf
    show timeF f≤100000000000
    unfold timeF
    cases hsg:f.sg with
    | nil=>exact absurd hsg hs
    | cons a l =>
     have:=a2 a (by rw [hsg];simp)
     dsimp only
     split<;>omega
   have tb0:tb v1.l 8=0:=by
    rw [hv1]
    exact tb_eq (l:=v.l) (m:=fun _=>ct0) (fun j=>hop.b j) 8
   have hn1:=n_le o1.q dr1.one
   have h:Own w0 S R w (mach b v1^emp):=h.fin
   refine w_call (queued_tri b v1) h fun r w h=>?_
   obtain ⟨hr,h⟩:=h.purP;rw [hr]
   have q0:0≤v1.q.n:=by rw [o1.q.n];exact tot_nn _ _
   refine w_join h (fun _=>(ex fun v2:Mc=>pur (Fin n.toNat v1.q.n v2) (mach b v2))^emp) (fun _=>True) (fun _ w _ h=>?_) ?_
   ·obtain ⟨v2,h⟩:=h.exP
    obtain ⟨hf,h⟩:=h.purP
    obtain ⟨B,hB⟩:=hf.bk
    refine w_loop (fun _:Int × Int=>mach b v2^emp) (fun z:Int × Int=>(0≤z.2∧z.2≤n)∧z.1=tb v2.l z.2.toNat) (fun z:Int × Int=>(n - z.2).toNat) h ⟨⟨Int.le_refl 0,by show (0:Int)≤n;omega⟩,rfl⟩ ?_
    rintro (z:Int × Int) w ⟨hz,hzt⟩ h
    refine w_ite (fun c=>?_) fun c=>?_
    ·have c:z.2 < n:=of_decide_eq_true c
     refine w_call (mcount_tri b v2 z.2) h fun r w h=>?_
     obtain ⟨hr,h⟩:=h.purP;rw [hr]
     have e:countL v2.l z.2=(z.2,(v2.l z.2.toNat).2):=by unfold countL;rw [if_neg (by omega)]
     rw [e]
     have t1:=tb_r hB z.2.toNat (by omega)
     have t2:=tb_r hB (z.2.toNat+1) (by omega)
     have t3:tb v2.l (z.2.toNat+1)=tb v2.l z.2.toNat+b1 (v2.l z.2.toNat):=rfl
     have t4:=hf.t
     have w1:IntKind.i64.wrap (z.1+b1 (v2.l z.2.toNat))=z.1+b1 (v2.l z.2.toNat):=wi (by omega) (by omega)
     have w2:IntKind.i64.wrap (z.2+1)=z.2+1:=wi (by omega) (by omega)
     rw [w2]
     refine ⟨⟨⟨by show 0≤z.2+1∧z.2+1≤n;omega,?_⟩,h⟩,by show (n - (z.2+1)).toNat < (n - z.2).toNat;omega⟩
     show IntKind.i64.wrap (z.1+b1 (v2.l z.2.toNat))=tb v2.l (z.2+1).toNat
     rw [w1,show (z.2+1).toNat=z.2.toNat+1 by omega,t3,hzt]
    ·have c:¬ z.2 < n:=of_decide_eq_false c
     refine w_call (queued_tri b v2) h fun r w h=>?_
     obtain ⟨hr,h⟩:=h.purP;rw [hr]
     refine Own.retP ?_ h.emp'
     rw [hf.z,hzt,show z.2.toNat=n.toNat by omega,tb_tail (by omega) hf.o,hf.t];simp
   ·refine w_loopE (fun (_:Int) (v2:Mc)=>mach b v2^emp) (fun (z:Int) v2=>(0≤z∧z+v2.q.n=v1.q.n)∧OkMc (2 * y+1+z) v2∧BkL (36507222016+z * 2147483648) v2.l v2.q.fl∧Dr n.toNat v2∧tb v2.l 8=z) (fun (z:Int) _=>(8 - z).toNat) v1 h ⟨⟨Int.le_refl 0,by omega⟩,by rw [show 2 * y+1+0=2 * y+1 by omega];exact o1,k1.le (by omega),dr1,tb0⟩ ?_
    rintro K (z:Int) v2 w ⟨hz,hv2,hb2,hd2,ht2⟩ h next
    have q2:0≤v2.q.n:=by rw [hv2.q.n];exact tot_nn _ _
    refine w_join h (fun _=>mach b v2^emp) (fun _=>0 < v2.q.n) (fun _ w hq h=>?_) ?_
    rotate_left
    ·refine w_ite (fun _=>?_) fun c=>?_
     ·refine w_call (queued_tri b v2) h fun r w h=>?_
      obtain ⟨hr,h⟩:=h.purP;rw [hr]
      refine w_ite (fun c=>⟨of_decide_eq_true c,h⟩) fun c=>?_
      have c:¬ v2.q.n > 0:=of_decide_eq_false c
      have hz0:v2.q.n=0:=by omega
      refine ⟨trivial,Own.toEx (f:=fun v2:Mc=>pur (Fin n.toNat v1.q.n v2) (mach b v2)) v2 (Own.toPur ⟨hz0,by rw [ht2];omega,⟨_,hb2⟩,fun j hj=>(hd2.out j hj).2⟩ h)⟩
     ·exfalso
      have c:¬ z < 1000:=of_decide_eq_false c
      omega
    ·have o3:=do_ok hv2 (by omega) dPull_ok []
     have k3:=do_bk hv2 (by omega) hb2 (by omega) dPull []
     have a3:=(do_ac hv2 (by omega) hb2 (by omega) dPull []).b
     obtain ⟨p1,p2,p3⟩:=pull_dr hd2 hv2 hb2 (by omega) hq
     refine w_do0 (d:=dPull) h hv2 (by omega) dPull_ok rfl fun r w hr h=>?_
     rw [pull_eq] at o3 k3 a3 h hr
     dsimp only at o3 k3 a3 h hr
     obtain ⟨⟨t1,t2,t3,t4⟩,re⟩:=r
     dsimp only at hr
     obtain ⟨_,h⟩:=h.outR (t1,t2,t3,t4)
     dsimp only at h ⊢
     have l1:=(h.rd (s:=t1)).2
     rw [p1] at l1 a3
     have h:Own w0 S R w (mach b (pullF v2 ou0).2^emp):=h.fin
     refine w_new h fun n23 w h=>w_setTo h n23 (Ks.mk KOu (t1,t2,t3,t4)) rfl rfl rfl fun w h=>?_
     refine w_ite (fun c=>(by rw [hr] at c;cases c)) fun _=>w_ld (x:=t1) h rfl (w_ite (fun c=>(by rw [l1] at c;cases c)) fun _=>?_)
     have hzw:IntKind.i64.wrap (z+1)=z+1:=wi (by omega) (by omega)
     rw [hzw]
     refine next (z+1) (pullF v2 ou0).2 w ⟨⟨by omega,by omega⟩,?_,k3.le (by omega),p2,by rw [a3,ht2];rfl⟩ h.fin (by show (8 - (z+1)).toNat < (8 - z).toNat;omega)
     rw [show 2 * y+1+(z+1)=2 * y+1+z+1 by omega];exact o3
end EgY

end Go.X
