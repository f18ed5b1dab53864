/- A verified reading of Go code as a weakest precondition, and a logic of separate parts over it. -/
import Derived.Test.YtniflenfpbbikaaDoorA1
set_option linter.unusedVariables false
set_option linter.unusedSimpArgs false
set_option linter.unusedSectionVars false
namespace Go.X
open Go.ChangeShapes Go.WideShapes Go.ChangeAt Go.RowKit
section
variable {H : Type} {enc : TypeId × Value → H} {P : Program}
def catL (P:Program) (rec:TypeId→Option (List TypeId)):List Field→Nat→Option (List TypeId)
 | [],_=>some []
 | f :: r,off=>match rec f.type with
  | some a=>(match Nat.beq f.offset off && Nat.beq a.length (P.cellsOf f.type) with
   | true=>(match catL P rec r (off+a.length) with | some b=>some (a++b) | none=>none)
   | false=>none)
  | none=>none
def okLen (P:Program) (t:TypeId):Option (List TypeId)→Option (List TypeId)
 | some ts=>(match Nat.beq ts.length (P.cellsOf t) with | true=>some ts | false=>none)
 | none=>none
def lts (P:Program):Nat→TypeId→Option (List TypeId)
 | 0,_=>none
 | d+1,t=>match P.underlying t with
  | some (.struct fs)=>okLen P t (catL P (lts P d) fs.toList 0)
  | some (.array n e)=>(match okLen P e (lts P d e) with | some a=>okLen P t (some (List.replicate n a).flatten) | none=>none)
  | some .bool=>some [t]
  | some (.int _)=>some [t]
  | some .string=>some [t]
  | some (.slice e)=>(match Nat.beq (P.cellsOf e) 0 with | true=>none | false=>some [t])
  | _=>none
theorem okLen_some {t:TypeId} {o:Option (List TypeId)} {ts:List TypeId} (h:okLen P t o=some ts):o=some ts∧ts.length=P.cellsOf t:=by
 unfold okLen at h
 split at h
 ·split at h
  ·rename_i hb;cases h;exact ⟨rfl,Nat.eq_of_beq_eq_true hb⟩
  ·cases h
 ·cases h
theorem catL_at {rec:TypeId→Option (List TypeId)}:∀ {fl:List Field} {off:Nat} {ts:List TypeId},catL P rec fl off=some ts→∀ {i:Nat} {u:TypeId},ts[i]?=some u →
  ∃ f∈fl,∃ a,rec f.type=some a∧f.offset≤off+i∧off+i < f.offset+a.length∧a.length=P.cellsOf f.type∧a[off+i - f.offset]?=some u
 | [],off,ts,h,i,u,hu=>by cases h;cases hu
 | f :: r,off,ts,h,i,u,hu=>by
  simp only [catL] at h
  split at h
  ·rename_i a ha
   split at h
   ·rename_i hb
    rw [Bool.and_eq_true] at hb
    have h1:=Nat.eq_of_beq_eq_true hb.1
    have h2:=Nat.eq_of_beq_eq_true hb.2
    split at h
    ·rename_i b hb2
     cases h
     by_cases hi:i < a.length
     ·rw [List.getElem?_append_left hi] at hu
      exact ⟨f,by simp,a,ha,by omega,by omega,h2,by rw [show off+i - f.offset=i by omega];exact hu⟩
     ·rw [List.getElem?_append_right (by omega)] at hu
      obtain ⟨g,hg,c,hc,e1,e2,e3,e4⟩:=catL_at hb2 hu
      refine ⟨g,by simp [hg],c,hc,by omega,by omega,e3,?_⟩
      rw [show off+i - g.offset=off+a.length+(i - a.length) - g.offset by omega];exact e4
    ·cases h
   ·cases h
  ·cases h
theorem rep_at {α:Type} (a:List α):∀ (n i:Nat) (u:α),(List.replicate n a).flatten[i]?=some u→i / a.length < n∧a[i % a.length]?=some u
 | 0,i,u,h=>by simp at h
 | n+1,i,u,h=>by
  rw [List.replicate_succ,List.flatten_cons] at h
  by_cases hi:i < a.length
  ·rw [List.getElem?_append_left hi] at h
   rw [Nat.div_eq_of_lt hi,Nat.mod_eq_of_lt hi];exact ⟨by omega,h⟩
  ·rw [List.getElem?_append_right (by omega)] at h
   obtain ⟨h1,h2⟩:=rep_at a n _ u h
   have hpos:0 < a.length:=by
    rcases Nat.eq_zero_or_pos a.length with h0 | h0
    ·have:a=[]:=List.eq_nil_of_length_eq_zero h0
     rw [this] at h2;simp at h2
    ·exact h0
   have e1:i / a.length=(i - a.length) / a.length+1:=by
    conv=>lhs;rw [show i=(i - a.length)+a.length by omega]
    rw [Nat.add_div_right _ hpos]
   have e2:i % a.length=(i - a.length) % a.length:=by
    conv=>lhs;rw [show i=(i - a.length)+a.length by omega]
    rw [Nat.add_mod_right]
   rw [e1,e2];exact ⟨by omega,h2⟩
theorem lts_cells {w:World}:∀ (d:Nat) {t:TypeId} {ts:List TypeId} {fuel:Nat} {cs:List Value} {x:DataW H × List MemPlace},lts P d t=some ts→DataW.trod enc P w 0 (fun _=>true) true fuel t cs=some x →
  ts.length=cs.length∧∀ (i:Nat) (u:TypeId) (v:Value),ts[i]?=some u→cs[i]?=some v→∃ m y,DataW.trod enc P w 0 (fun _=>true) true m u [v]=some y
 | 0,t,ts,fuel,cs,x,h,_=>by cases h
 | d+1,t,ts,fuel,cs,x,h,hx=>by
  simp only [lts] at h
  split at h
  ·rename_i fs hu
   obtain ⟨hc,hlen⟩:=okLen_some h
   obtain ⟨xs,n,_,_,hcl,hxl,hf⟩:=DataW.trod_struct hu hx
   refine ⟨by omega,fun i u v hi hv=>?_⟩
   obtain ⟨f,hfm,a,ha,e1,e2,e3,e4⟩:=catL_at hc hi
   rw [Nat.zero_add] at e1 e2 e4
   obtain ⟨k,hk⟩:=List.mem_iff_getElem?.1 hfm
   have hk':fs[k]?=some f:=by simpa using hk
   have hkl:k < xs.length:=by rw [hxl];exact (Array.getElem?_eq_some_iff.1 hk').1
   have hp:=hf k f hk'
   rw [List.getElem?_eq_getElem hkl] at hp
   obtain ⟨_,hh⟩:=lts_cells d ha hp
   refine hh (i - f.offset) u v e4 ?_
   rw [List.getElem?_take,if_pos (by omega),List.getElem?_drop,show f.offset+(i - f.offset)=i by omega];exact hv
  ·rename_i n e hu
   split at h
   ·rename_i a ha
    obtain ⟨ha,hal⟩:=okLen_some ha
    obtain ⟨h1,hlen⟩:=okLen_some h
    cases h1
    obtain ⟨xs,m,_,_,hcl,hxl,hf⟩:=DataW.trod_array hu hx
    refine ⟨by omega,fun i u v hi hv=>?_⟩
    obtain ⟨r1,r2⟩:=rep_at a n i u hi
    have hp:=hf (i / a.length) r1
    rw [List.getElem?_eq_getElem (by omega)] at hp
    obtain ⟨_,hh⟩:=lts_cells d ha hp
    refine hh (i % a.length) u v r2 ?_
    have hpos:0 < a.length:=by
     rcases Nat.eq_zero_or_pos a.length with h0 | h0
     ·have:a=[]:=List.eq_nil_of_length_eq_zero h0
      rw [this] at r2;simp at r2
     ·exact h0
    rw [List.getElem?_take,if_pos (by rw [← hal];exact Nat.mod_lt _ hpos),List.getElem?_drop,← hal]
    have:=Nat.div_add_mod i a.length
    rw [Nat.mul_comm] at this
    rw [this];exact hv
   ·cases h
  ·rename_i hu
   cases h
   obtain ⟨b,rfl,_⟩:=DataW.trod_bool hu hx
   exact ⟨rfl,fun i u v hi hv=>by
    cases i with
    | zero=>cases hi;cases hv;exact ⟨_,_,hx⟩
    | succ i=>cases hi⟩
  ·rename_i k hu
   cases h
   obtain ⟨b,rfl,_⟩:=DataW.trod_int hu hx
   exact ⟨rfl,fun i u v hi hv=>by
    cases i with
    | zero=>cases hi;cases hv;exact ⟨_,_,hx⟩
    | succ i=>cases hi⟩
  ·rename_i hu
   cases h
   obtain ⟨b,rfl,_⟩:=DataW.trod_string hu hx
   exact ⟨rfl,fun i u v hi hv=>by
    cases i with
    | zero=>cases hi;cases hv;exact ⟨_,_,hx⟩
    | succ i=>cases hi⟩
  ·rename_i e hu
   split at h
   ·cases h
   cases h
   rcases DataW.trod_slice hu hx with ⟨rfl,_⟩ | ⟨_,_,_,_,_,_,_,rfl,_⟩
   all_goals
    exact ⟨rfl,fun i u v hi hv=>by
     cases i with
     | zero=>cases hi;cases hv;exact ⟨_,_,hx⟩
     | succ i=>cases hi⟩
  ·cases h
def LeafOk (P:Program) (W:World):Nat→TypeId→Lf→Prop
 | 0,_,_=>True
 | _+1,_,.int k m=>(Lit.int k m).wf=true
 | _+1,_,.str s=>s.size≤maxLen
 | n+1,u,.sl s=>(s.len≤maxLen∧s.len≤s.cap)∧∀ e ts ks,P.underlying u=some (.slice e)→lts P 8 e=some ts→ts.map (kind1 P)=ks.map some→ks.length=P.cellsOf e→ks≠[] →
   ∃ zs:List (Ks.T ks),SlRd W s ks.length (flat ks zs)∧s.len=zs.length∧∀ z∈zs,∀ (i:Nat) (v:TypeId) (l:Lf),ts[i]?=some v→(Ks.mk ks z)[i]?=some l→LeafOk P W n v l
 | _+1,_,_=>True
theorem un_all:∀ {ks:Ks} {ls:List Lf},ls.length=ks.length→(∀ (i:Nat) (c:CK) (l:Lf),ks[i]?=some c→ls[i]?=some l→∃ x,c.un l=some x)→∃ z,Ks.un ks ls=some z
 | [],[],_,_=>⟨(),rfl⟩
 | [],_ :: _,h,_=>by cases h
 | [c],[],h,_=>by cases h
 | [c],[l],_,hh=>by
  obtain ⟨x,hx⟩:=hh 0 c l rfl rfl
  exact ⟨x,hx⟩
 | [c],_ :: _ :: _,h,_=>by simp at h
 | c :: d :: r,[],h,_=>by cases h
 | c :: d :: r,l :: ls,h,hh=>by
  obtain ⟨x,hx⟩:=hh 0 c l rfl rfl
  obtain ⟨y,hy⟩:=un_all (ks:=d :: r) (ls:=ls) (by simpa using h) (fun i c l hc hl=>hh (i+1) c l (by simpa using hc) (by simpa using hl))
  exact ⟨(x,y),by simp only [Ks.un,hx,hy]⟩
theorem list_of {α:Type} {Q:Nat→α→Prop}:∀ (n:Nat),(∀ i,i < n→∃ z,Q i z)→∃ zs:List α,zs.length=n∧∀ (i:Nat) (z:α),zs[i]?=some z→Q i z
 | 0,_=>⟨[],rfl,fun i z h=>by cases h⟩
 | n+1,h=>by
  obtain ⟨zs,hl,hz⟩:=list_of n fun i hi=>h i (by omega)
  obtain ⟨z,hq⟩:=h n (by omega)
  refine ⟨zs++[z],by simp [hl],fun i y hy=>?_⟩
  by_cases hi:i < zs.length
  ·rw [List.getElem?_append_left hi] at hy;exact hz i y hy
  ·rw [List.getElem?_append_right (by omega)] at hy
   have h0:i - zs.length=0:=by
    cases hd:i - zs.length with
    | zero=>rfl
    | succ k=>rw [hd] at hy;cases hy
   rw [h0] at hy;cases hy
   rw [show i=n by omega];exact hq
theorem row_of {w:World} {n:Nat} (leaf:∀ (u:TypeId) (v:Value) (c:CK) (m:Nat) (y:DataW H × List MemPlace),kind1 P u=some c→lts P 8 u=some [u]→DataW.trod enc P w 0 (fun _=>true) true m u [v]=some y→∃ l,v=Lf.enc l∧(∃ x,c.un l=some x)∧LeafOk P w n u l)
  {ts:List TypeId} {ks:Ks} {cs:List Value} (hk:ts.map (kind1 P)=ks.map some) (hsame:∀ (i:Nat) (u:TypeId),ts[i]?=some u→lts P 8 u=some [u]) (hl:ts.length=cs.length) (hc:∀ (i:Nat) (u:TypeId) (v:Value),ts[i]?=some u→cs[i]?=some v→∃ m y,DataW.trod enc P w 0 (fun _=>true) true m u [v]=some y) :
  ∃ z:Ks.T ks,cs=(Ks.mk ks z).map Lf.enc∧∀ (i:Nat) (u:TypeId) (l:Lf),ts[i]?=some u→(Ks.mk ks z)[i]?=some l→LeafOk P w n u l:=by
 have hkl:ts.length=ks.length:=by have:=congrArg List.length hk;simpa using this
 have each:∀ i,i < cs.length→∃ l:Lf,(∀ v,cs[i]?=some v→v=l.enc)∧(∀ c,ks[i]?=some c→∃ x,c.un l=some x)∧∀ u,ts[i]?=some u→LeafOk P w n u l:=by
  intro i hi
  have hti:ts[i]?=some ts[i]:=List.getElem?_eq_getElem (by omega)
  have hci:cs[i]?=some cs[i]:=List.getElem?_eq_getElem hi
  have hki:ks[i]?=some ks[i]:=List.getElem?_eq_getElem (by omega)
  obtain ⟨m,y,hy⟩:=hc i _ _ hti hci
  have hk1:kind1 P ts[i]=some ks[i]:=by
   have:=congrArg (fun z=>z[i]?) hk
   simp only [List.getElem?_map,hti,hki,Option.map_some,Option.some.injEq] at this
   exact this
  obtain ⟨l,h1,h2,h3⟩:=leaf _ _ _ m y hk1 (hsame i _ hti) hy
  exact ⟨l,fun v hv=>by rw [hci] at hv;cases hv;exact h1,fun c hc=>by rw [hki] at hc;cases hc;exact h2,fun u hu=>by rw [hti] at hu;cases hu;exact h3⟩
 obtain ⟨ls,hll,hls⟩:=list_of cs.length each
 obtain ⟨z,hz⟩:=un_all (ks:=ks) (ls:=ls) (by omega) fun i c l hc hl=>(hls i l hl).2.1 c hc
 have hmk:=Ks.un_some hz
 refine ⟨z,?_,fun i u l hu hl=>?_⟩
 ·rw [hmk]
  apply List.ext_getElem?
  intro i
  rw [List.getElem?_map]
  by_cases hi:i < cs.length
  ·rw [List.getElem?_eq_getElem hi,List.getElem?_eq_getElem (by omega:i < ls.length)]
   rw [(hls i _ (List.getElem?_eq_getElem (by omega))).1 _ (List.getElem?_eq_getElem hi)];rfl
  ·rw [List.getElem?_eq_none (by omega),List.getElem?_eq_none (by omega)];rfl
 ·rw [hmk] at hl
  exact (hls i l hl).2.2 u hu
theorem lts_lts:∀ (d:Nat) {t:TypeId} {ts:List TypeId},lts P d t=some ts→∀ (i:Nat) (u:TypeId),ts[i]?=some u→lts P 8 u=some [u]
 | 0,t,ts,h,_,_,_=>by cases h
 | d+1,t,ts,h,i,u,hi=>by
  have one:ts=[t]→lts P 8 t=some [t]→lts P 8 u=some [u]:=fun h1 h2=>by
   rw [h1] at hi
   cases i with
   | zero=>cases hi;exact h2
   | succ i=>cases hi
  simp only [lts] at h
  split at h
  ·obtain ⟨hc,_⟩:=okLen_some h
   obtain ⟨f,_,a,ha,_,_,_,e4⟩:=catL_at hc hi
   exact lts_lts d ha _ _ e4
  ·split at h
   ·rename_i a ha
    obtain ⟨ha,_⟩:=okLen_some ha
    obtain ⟨h1,_⟩:=okLen_some h
    cases h1
    exact lts_lts d ha _ _ (rep_at a _ i u hi).2
   ·cases h
  ·rename_i hu;cases h;exact one rfl (by simp only [lts,hu])
  ·rename_i hu;cases h;exact one rfl (by simp only [lts,hu])
  ·rename_i hu;cases h;exact one rfl (by simp only [lts,hu])
  ·rename_i hu
   split at h
   ·cases h
   ·rename_i hb;cases h;exact one rfl (by simp only [lts,hu,hb])
  ·cases h
theorem sl_of {w:World} {u e:TypeId} {v:Value} {m:Nat} {y:DataW H × List MemPlace} (hu:P.underlying u=some (.slice e)) (hpos:P.cellsOf e≠0) (hy:DataW.trod enc P w 0 (fun _=>true) true m u [v]=some y) :
  ∃ s:Sl,v=(Lf.sl s).enc∧(s.len≤maxLen∧s.len≤s.cap)∧(s.p=none→s.len=0)∧∀ i,i < s.len→∃ (cs:List Value) (k:Nat) (x:DataW H × List MemPlace) (q:Pt),DataW.trod enc P w 0 (fun _=>true) true k e cs=some x∧cs.length=P.cellsOf e∧s.p=some q ∧
   ∀ r,r < P.cellsOf e→w.cell? ⟨q.b,q.o+i * P.cellsOf e+r,none⟩=cs[r]?:=by
 rcases DataW.trod_slice hu hy with ⟨hb,_⟩ | ⟨a,len,cap,elems,rest,n,_,hb,_,_,hle,hcm,hel,h1,h2,_⟩
 ·cases hb;exact ⟨⟨none,0,0⟩,rfl,⟨by simp,by simp⟩,fun _=>rfl,fun i hi=>absurd hi (by simp)⟩
 ·cases hb
  cases hsp:a.spot with
  | none =>
   have ha:a=⟨a.block,a.off,none⟩:=by cases a;simp only at hsp;rw [hsp]
   refine ⟨⟨some ⟨a.block,a.off⟩,len,cap⟩,?_,⟨by show len≤maxLen;omega,hle⟩,fun h=>(by cases h),fun i hi=>?_⟩
   ·show _=Value.slice (some ⟨a.block,a.off,none⟩) len cap
    rw [← ha]
   ·have hi:i < len:=hi
    have:=h1 i hi
    rw [List.getElem?_eq_getElem (by omega)] at this
    obtain ⟨z,hz,hz2⟩:=Option.bind_eq_some_iff.1 this
    obtain ⟨_,hzl,hzc⟩:=World.cells?_some hz
    refine ⟨z,_,_,⟨a.block,a.off⟩,hz2,hzl,rfl,fun r hr=>?_⟩
    have h5:=hzc r hr
    rw [ha,add_eq,add_eq] at h5
    exact h5
  | some k =>
   have hcap:cap=0:=by
    rcases Nat.eq_zero_or_pos cap with h0 | h0
    ·exact h0
    ·exfalso
     have:∃ z,w.cells? 0 (a.add 0) (P.cellsOf e)=some z:=by
      by_cases hl0:0 < len
      ·have:=h1 0 hl0
       rw [List.getElem?_eq_getElem (by omega)] at this
       obtain ⟨z,hz,_⟩:=Option.bind_eq_some_iff.1 this
       exact ⟨z,by simpa using hz⟩
      ·obtain ⟨h3,h4⟩:=h2 rfl
       have:=h4 0 (by omega)
       rw [List.getElem?_eq_getElem (by omega)] at this
       obtain ⟨z,hz,_⟩:=Option.bind_eq_some_iff.1 this
       rw [show len+0=0 by omega] at hz
       exact ⟨z,by simpa using hz⟩
     obtain ⟨z,hz⟩:=this
     obtain ⟨_,hzl,hzc⟩:=World.cells?_some hz
     have h5:=hzc 0 (by omega)
     rw [List.getElem?_eq_getElem (by omega)] at h5
     have:=World.cell?_spot h5
     simp [Addr.add,hsp] at this
   have hlen:len=0:=by omega
   obtain ⟨c,hc⟩:=oddA_hit a.block a.off k
   have ha:oddA c=a:=by rw [hc];cases a;simp only at hsp;rw [hsp]
   refine ⟨⟨none,0,c+1⟩,?_,⟨by simp,by simp⟩,fun _=>rfl,fun i hi=>absurd hi (by simp)⟩
   rw [hcap,hlen]
   show _=Value.slice (some (oddA (c+1 - 1))) 0 0
   rw [Nat.add_sub_cancel,ha]
theorem flat_mk {K:Ks} {zs:List (Ks.T K)} {w:World} {q:Pt} (h:∀ (i:Nat) (z:Ks.T K),zs[i]?=some z→∀ r,r < K.length→w.cell? ⟨q.b,q.o+i * K.length+r,none⟩=((Ks.mk K z)[r]?).map Lf.enc):Reads w q.b q.o (flat K zs):=by
 refine reads_of_cells fun i l hi=>?_
 have hil:=(List.getElem?_eq_some_iff.1 hi).1
 rw [flat_len] at hil
 have hpos:0 < K.length:=by
  rcases Nat.eq_zero_or_pos K.length with h0 | h0
  ·rw [h0,Nat.mul_zero] at hil;omega
  ·exact h0
 have hj:i / K.length < zs.length:=(Nat.div_lt_iff_lt_mul hpos).2 hil
 have hr:i % K.length < K.length:=Nat.mod_lt _ hpos
 have e:i / K.length * K.length+i % K.length=i:=by
  have:=Nat.div_add_mod i K.length
  rwa [Nat.mul_comm] at this
 have hz:zs[i / K.length]?=some zs[i / K.length]:=List.getElem?_eq_getElem hj
 have h1:=h _ _ hz _ hr
 have h2:=flat_cell K zs _ _ hz _ hr
 rw [e] at h2
 rw [← h2,hi] at h1
 rw [show q.o+i=q.o+i / K.length * K.length+i % K.length by omega]
 exact h1
theorem leaf_of {w:World}:∀ (n:Nat) (u:TypeId) (v:Value) (c:CK) (m:Nat) (y:DataW H × List MemPlace),kind1 P u=some c→lts P 8 u=some [u]→DataW.trod enc P w 0 (fun _=>true) true m u [v]=some y→∃ l,v=Lf.enc l∧(∃ x,c.un l=some x)∧LeafOk P w n u l:=by
 intro n
 induction n with
 | zero =>
  intro u v c m y hk hl hy
  simp only [lts] at hl
  simp only [kind1] at hk
  split at hl
  ·rename_i hu;rw [hu] at hk;cases hk
  ·rename_i hu;rw [hu] at hk;cases hk
  ·rename_i hu
   obtain ⟨b,hb,_⟩:=DataW.trod_bool hu hy
   cases hb;rw [hu] at hk;cases hk
   exact ⟨.bool b,rfl,⟨b,rfl⟩,trivial⟩
  ·rename_i hu
   obtain ⟨b,hb,_⟩:=DataW.trod_int hu hy
   cases hb;rw [hu] at hk;cases hk
   exact ⟨.int _ b,rfl,⟨b,by simp [CK.un]⟩,trivial⟩
  ·rename_i hu
   obtain ⟨b,hb,_⟩:=DataW.trod_string hu hy
   cases hb;rw [hu] at hk;cases hk
   exact ⟨.str b,rfl,⟨b,rfl⟩,trivial⟩
  ·rename_i e hu
   rw [hu] at hk;cases hk
   split at hl
   ·cases hl
   ·rename_i hb
    obtain ⟨s,hs,_⟩:=sl_of hu (fun h=>by rw [h] at hb;cases hb) hy
    exact ⟨.sl s,hs,⟨s,rfl⟩,trivial⟩
  ·cases hl
 | succ n ih =>
  intro u v c m y hk hl hy
  simp only [lts] at hl
  simp only [kind1] at hk
  split at hl
  ·rename_i hu;rw [hu] at hk;cases hk
  ·rename_i hu;rw [hu] at hk;cases hk
  ·rename_i hu
   obtain ⟨b,hb,_⟩:=DataW.trod_bool hu hy
   cases hb;rw [hu] at hk;cases hk
   exact ⟨.bool b,rfl,⟨b,rfl⟩,trivial⟩
  ·rename_i hu
   obtain ⟨b,hb,_,hw⟩:=DataW.trod_int hu hy
   cases hb;rw [hu] at hk;cases hk
   exact ⟨.int _ b,rfl,⟨b,by simp [CK.un]⟩,hw⟩
  ·rename_i hu
   obtain ⟨b,hb,_,hw⟩:=DataW.trod_string hu hy
   cases hb;rw [hu] at hk;cases hk
   exact ⟨.str b,rfl,⟨b,rfl⟩,hw⟩
  ·rename_i e hu
   rw [hu] at hk;cases hk
   split at hl
   ·cases hl
   ·rename_i hb
    have hpos:P.cellsOf e≠0:=fun h=>by rw [h] at hb;cases hb
    obtain ⟨s,hs,hmax,hnil,hel⟩:=sl_of hu hpos hy
    refine ⟨.sl s,hs,⟨s,rfl⟩,hmax,fun e' ts ks hu' hts hks hkl _=>?_⟩
    rw [hu] at hu';cases hu'
    have each:∀ i,i < s.len→∃ z:Ks.T ks,(∀ q,s.p=some q→∀ r,r < ks.length→w.cell? ⟨q.b,q.o+i * ks.length+r,none⟩=((Ks.mk ks z)[r]?).map Lf.enc)∧∀ (i:Nat) (v:TypeId) (l:Lf),ts[i]?=some v→(Ks.mk ks z)[i]?=some l→LeafOk P w n v l:=by
     intro i hi
     obtain ⟨cs,k,x,q,h1,h2,h3,h4⟩:=hel i hi
     obtain ⟨h5,h6⟩:=lts_cells 8 hts h1
     obtain ⟨z,hz1,hz2⟩:=row_of (n:=n) ih hks (lts_lts 8 hts) h5 h6
     refine ⟨z,fun q' hq' r hr=>?_,hz2⟩
     rw [h3] at hq';cases hq'
     rw [hkl,h4 r (by omega),hz1,List.getElem?_map]
    obtain ⟨zs,hzl,hzs⟩:=list_of s.len each
    refine ⟨zs,⟨by rw [flat_len,hzl],hnil,fun q hq=>flat_mk fun i z hz r hr=>(hzs i z hz).1 q hq r hr⟩,hzl.symm,fun z hz=>?_⟩
    obtain ⟨i,hi⟩:=List.mem_iff_getElem?.1 hz
    exact (hzs i z hi).2
  ·cases hl
theorem rows_rd {W:World} {t e:TypeId} {v:Value} {d:DataW H} {p:List MemPlace} {ts:List TypeId} {ks:Ks} (n:Nat) (ht:P.underlying t=some (.slice e)) (hts:lts P 8 e=some ts) (hks:ts.map (kind1 P)=ks.map some) (hkl:ks.length=P.cellsOf e) (hne:ks≠[]) {r:Reach} {base:Nat}
  (hv:Value.okWide P W r base t v) (h:DataW.Trod enc P W 0 (fun _=>true) true t v d p) :
  ∃ (s:Sl) (zs:List (Ks.T ks)),v=(Lf.sl s).enc∧Nrm s∧SlRd W s ks.length (flat ks zs)∧s.len=zs.length∧zs.length≤maxLen∧∀ z∈zs,∀ (i:Nat) (u:TypeId) (l:Lf),ts[i]?=some u→(Ks.mk ks z)[i]?=some l→LeafOk P W n u l:=by
 obtain ⟨a0,len,cap,rfl⟩:=okWide_slice ht hv
 obtain ⟨fuel,hf⟩:=h
 have hf:DataW.trod enc P W 0 (fun _=>true) true fuel t [.slice a0 len cap]=some (d,p):=by simpa [Value.cells] using hf
 have hpos:P.cellsOf e≠0:=fun hh=>hne (List.eq_nil_of_length_eq_zero (by omega))
 have hl:lts P 8 t=some [t]:=by
  have:Nat.beq (P.cellsOf e) 0=false:=by
   cases hh:Nat.beq (P.cellsOf e) 0 with
   | false=>rfl
   | true=>exact absurd (Nat.eq_of_beq_eq_true hh) hpos
  simp only [lts,ht,this]
 obtain ⟨l,hl1,⟨s,hs⟩,hl2⟩:=leaf_of (n+1) t _ .sl fuel _ (by simp only [kind1,ht]) hl hf
 have hl0:l=.sl s:=by
  cases l with
  | sl s'=>simp only [CK.un,Option.some.injEq] at hs;rw [hs]
  | _=>simp [CK.un] at hs
 subst hl0
 obtain ⟨hm,hz⟩:=hl2
 obtain ⟨zs,h1,h2,h3⟩:=hz e ts ks ht hts hks hkl hne
 refine ⟨s,zs,hl1,?_,h1,h2,by omega,h3⟩
 have hsp:∀ a,a0=some a→a.spot=none:=fun a ha=>by subst ha;exact spot_none ht hv
 have hodd:s.odd=false:=by
  cases ho:s.odd with
  | false=>rfl
  | true =>
   have he:(Lf.sl s).enc=.slice (some (oddA (s.cap - 1))) 0 0:=by show s.enc=_;unfold Sl.enc;rw [ho]
   rw [he] at hl1
   cases hl1
   have:=hsp _ rfl
   simp [oddA] at this
 refine ⟨hodd,fun hc hp=>?_⟩
 have he:(Lf.sl s).enc=.slice none s.len s.cap:=by show s.enc=_;rw [Sl.enc_n hodd,hp];rfl
 rw [he] at hl1
 cases hl1
 rcases DataW.trod_slice ht hf with ⟨hb,_⟩ | ⟨_,_,_,_,_,_,_,hb,_⟩
 ·simp at hb;exact hc hb.2
 ·simp at hb
theorem cap_rd {W:World} {t e:TypeId} {s:Sl} (ht:P.underlying t=some (.slice e)) (hn:Nrm s) {r:Reach} {base:Nat} (hv:Value.okWide P W r base t (Lf.sl s).enc):s.len≤s.cap:=by
 have he:(Lf.sl s).enc=.slice (s.p.map Pt.addr) s.len s.cap:=Sl.enc_n hn.1
 rw [he] at hv
 cases hp:s.p with
 | none =>
  rw [hp] at hv
  obtain ⟨l,c,hlc⟩:∃ l c,l=s.len∧c=s.cap:=⟨_,_,rfl,rfl⟩
  rw [← hlc.1,← hlc.2] at hv ⊢
  simp only [Value.okWide,ht,Cell.okWide,Cell.ok,Option.map_none] at hv
  cases l with
  | zero=>exact Nat.zero_le _
  | succ l=>simp at hv
 | some q =>
  rw [hp] at hv
  simp only [Value.okWide,ht,Cell.okWide,Cell.ok,Option.map_some] at hv
  exact hv.1
def rowOk (ls:List Lf):Prop:=∀ l∈ls,match l with | .int k m=>(Lit.int k m).wf=true | .str s=>s.size≤maxLen | _=>True
theorem rowOk_of {W:World} {n:Nat} {ts:List TypeId} {ls:List Lf} (h:∀ (i:Nat) (u:TypeId) (l:Lf),ts[i]?=some u→ls[i]?=some l→LeafOk P W (n+1) u l) (hl:ls.length=ts.length):rowOk ls:=by
 intro l hm
 obtain ⟨i,hi⟩:=List.mem_iff_getElem?.1 hm
 have hil:=(List.getElem?_eq_some_iff.1 hi).1
 have:=h i ts[i] l (List.getElem?_eq_getElem (by omega)) hi
 cases l with
 | int k m=>exact this
 | str s=>exact this
 | _=>trivial
theorem wf_u64 {n:Int} (h:(Lit.int .u64 n).wf=true):0≤n∧n < 18446744073709551616:=by
 simp [Lit.wf,IntKind.min,IntKind.max,IntKind.signed,IntKind.bits] at h;omega
theorem wf_i64 {n:Int} (h:(Lit.int .i64 n).wf=true):-9223372036854775808≤n∧n < 9223372036854775808:=by
 simp [Lit.wf,IntKind.min,IntKind.max,IntKind.signed,IntKind.bits] at h;omega
def ReadOk (A:SP) (w:World):Prop:=∃ R:Nat→Prop,A.h w (fun _=>False) R
theorem readOk_emp {w:World}:ReadOk emp w:=⟨fun _=>False,fun _ h=>h,fun _ h=>h⟩
theorem readOk_rarr {w:World} {s:Sl} {K:Ks} {zs:List (Ks.T K)} (h:SlRd w s K.length (flat K zs)) (hl:s.len=zs.length):ReadOk (rarr s K zs) w:=⟨_,⟨h,hl⟩,fun _ h=>h,fun _=>Iff.rfl⟩
theorem readOk_star {A B:SP} {w:World} (h:ReadOk A w) (k:ReadOk B w):ReadOk (A^B) w:=by
 obtain ⟨R1,h1⟩:=h
 obtain ⟨R2,h2⟩:=k
 exact ⟨fun k=>R1 k∨R2 k,fun _=>False,R1,fun _=>False,R2,h1,h2,fun k=>by simp,fun _=>Iff.rfl,fun _ h=>h.elim,fun _ h=>h.elim,fun _ _ h=>h⟩
theorem readOk_rl {α:Type} {f:α→SP} {w:World}:∀ {l:List α},(∀ x∈l,ReadOk (f x) w)→ReadOk (rl f l) w
 | [],_=>readOk_emp
 | x :: l,h=>readOk_star (h x (by simp)) (readOk_rl fun y hy=>h y (by simp [hy]))
theorem nest_rd {W:World} {n:Nat} {ts ts':List TypeId} {ks ks':Ks} {u e:TypeId} (j:Nat) (sel:Ks.T ks→Sl) (hsel:∀ z:Ks.T ks,(Ks.mk ks z)[j]?=some (.sl (sel z))) (hj:ts[j]?=some u) (hu:P.underlying u=some (.slice e)) (hts:lts P 8 e=some ts') (hks:ts'.map (kind1 P)=ks'.map some) (hkl:ks'.length=P.cellsOf e) (hne:ks'≠[])
  {zs:List (Ks.T ks)} (h:∀ z∈zs,∀ (i:Nat) (u:TypeId) (l:Lf),ts[i]?=some u→(Ks.mk ks z)[i]?=some l→LeafOk P W (n+2) u l) (hl:ks.length=ts.length) :
  ∃ ps:List (Ks.T ks × List (Ks.T ks')),ps.map Prod.fst=zs∧∀ p∈ps,rowOk (Ks.mk ks p.1)∧SlRd W (sel p.1) ks'.length (flat ks' p.2)∧(sel p.1).len=p.2.length∧p.2.length≤maxLen∧(∀ y∈p.2,rowOk (Ks.mk ks' y))∧(sel p.1).len≤(sel p.1).cap:=by
 obtain ⟨ps,hpl,hps⟩:=list_of (Q:=fun i (p:Ks.T ks × List (Ks.T ks'))=>(∀ z,zs[i]?=some z→p.1=z)∧rowOk (Ks.mk ks p.1)∧SlRd W (sel p.1) ks'.length (flat ks' p.2)∧(sel p.1).len=p.2.length∧p.2.length≤maxLen∧(∀ y∈p.2,rowOk (Ks.mk ks' y))∧(sel p.1).len≤(sel p.1).cap) zs.length (fun i hi=>by
  have hz:zs[i]?=some zs[i]:=List.getElem?_eq_getElem hi
  have hd:=h _ (List.getElem_mem hi)
  have hk:=hd j u _ hj (hsel _)
  obtain ⟨hm,hk⟩:=hk
  obtain ⟨ys,h1,h2,h3⟩:=hk e ts' ks' hu hts hks hkl hne
  have hl2:ts'.length=ks'.length:=by have:=congrArg List.length hks;simpa using this
  exact ⟨(zs[i],ys),fun z hz'=>by rw [hz] at hz';cases hz';rfl,rowOk_of hd (by rw [Ks.len];exact hl),h1,h2,by rw [← h2];exact hm.1,fun y hy=>rowOk_of (h3 y hy) (by rw [Ks.len];exact hl2.symm),hm.2⟩)
 refine ⟨ps,?_,fun p hp=>?_⟩
 ·apply List.ext_getElem?
  intro i
  rw [List.getElem?_map]
  by_cases hi:i < zs.length
  ·rw [List.getElem?_eq_getElem hi,List.getElem?_eq_getElem (by omega:i < ps.length)]
   have:=(hps i _ (List.getElem?_eq_getElem (by omega))).1 _ (List.getElem?_eq_getElem hi)
   simp [this]
  ·rw [List.getElem?_eq_none (by omega),List.getElem?_eq_none (by omega)];rfl
 ·obtain ⟨i,hi⟩:=List.mem_iff_getElem?.1 hp
  exact (hps i p hi).2
def kindsOf (P:Program) (fn:Func) (c:OpenClaim):List (Option IntKind):=if c.domain.isEmpty then [] else fn.params.toList.map fun t=>match P.underlying t with | some (.int k)=>some k | _=>none
theorem joined_of {P:Program} {f:FuncId} {fn:Func} {s:ChangeSpec} {c:OpenClaim}
  (h1:c.wf (OpenSpec.ofChange s)=true) (h2:laidOutB P=true) (h3:mapsRowed P=true)
  (h4:(fn.params.all (P.readableRec ·) && (namedTie P c.named s.vars && ((c.stops == []) && ((P.stops == []) && ((c.knobs == []) && (P.stopKnobs == []))))))=true)
  (h5:(c.inPlace == P.inPlace f)=true) (h6:(c.unfollowed == P.unfollowed f)=true) (h7:(c.recurses == P.recurses f)=true) (h8:(c.named == P.varsNamed f)=true)
  (h9:((c.maps == (fn.params.toList++s.plain.varTypes P).any (P.mapsRec ·)) && ((c.ifaces == (fn.params.toList++s.plain.varTypes P).any (P.ifacesRec ·)) && ((c.mapsOut == P.mapsAmong fn.resultTypes.toList) && ((c.loops == (fn.params.toList++s.plain.varTypes P).any (P.loopsFrom ·)) && (c.wideKeys == (fn.params.toList++s.plain.varTypes P++fn.resultTypes.toList).any (P.wideKeysFrom ·))))))=true)
  (h10:(s.vars.all (P.varReadable ·) && (fn.resultTypes.all (fun t=>P.readableRec t && decide (t < P.types.size)) && ((c.ifacesOut == fn.resultTypes.toList.any (P.ifacesRec ·)) && ((c.loopsOut == fn.resultTypes.toList.any (P.loopsFrom ·)) && ((c.plainKeys == P.plainKeys) && c.shortTexts.isNone)))))=true)
  (h11:P.stopsHeard=true) (h12:P.mayEnter=true)
  (h13:((c.lifted == P.liftsFinal) && ((P.make == some c.make) && ((c.kinds == kindsOf P fn c) && (c.pinned == c.pinnedBy))))=true)
  (h14:((c.veiled == (fn.params.toList++s.plain.varTypes P++fn.resultTypes.toList).any (P.veiledRec ·)) && c.veiledFits P fn.params.toList (fn.params.toList++s.plain.varTypes P++fn.resultTypes.toList))=true) :
  joinedFacts P f fn s c=true:=by
 unfold joinedFacts
 rw [Bool.and_eq_true] at h14
 simp only [Bool.and_eq_true] at h4 h9 h10 h13
 obtain ⟨a1,a2,a3,a4,a5,a6⟩:=h4
 obtain ⟨b1,b2,b3,b4,b5⟩:=h9
 obtain ⟨c1,c2,c3,c4,c5,c6⟩:=h10
 obtain ⟨d1,d2,d3,d4⟩:=h13
 rw [h1,h2,h3,a1,a2,a3,a4,a5,a6,h5,h6,h7,h8,b1,b2,b3,b4,b5,c1,c2,c3,c4,c5,c6,h11,h12,d1,d2]
 simp only [Bool.true_and,Bool.and_eq_true]
 exact ⟨⟨⟨d3,d4⟩,h14.1⟩,h14.2⟩
theorem weightsAll_in {P:Program} {e:TypeId}:∀ {l:List (DataW H)} {d:DataW H},d∈l→∀ n∈d.weights P e,n∈DataW.weightsAll P e l
 | d' :: r,d,hd,n,hn=>by
  simp only [DataW.weightsAll,List.mem_append]
  rcases List.mem_cons.1 hd with rfl | h
  ·exact Or.inl hn
  ·exact Or.inr (weightsAll_in h n hn)
theorem nest_sz {W:World} {t e u e':TypeId} {fs:Array Field} {f:Field} {d:DataW H} {p:List MemPlace} {ks:Ks} {s:Sl} {zs:List (Ks.T ks)} (j:Nat) (sel:Ks.T ks→Sl) (hsel:∀ z,(Ks.mk ks z)[j]?=some (.sl (sel z)))
  (ht:P.underlying t=some (.slice e)) (he:P.underlying e=some (.struct fs)) (hf:fs[j]?=some f) (hfo:f.offset=j) (hfu:f.type=u) (hu:P.underlying u=some (.slice e')) (hcu:P.cellsOf u=1) (hck:ks.length=P.cellsOf e) (hb:1≤P.bytesOf e')
  (h:DataW.Trod enc P W 0 (fun _=>true) true t (Lf.sl s).enc d p) (hr:SlRd W s ks.length (flat ks zs)) (hl:s.len=zs.length)
  (hw:∀ n∈d.weights P t,n≤reachBytes):∀ z∈zs,(sel z).len≤reachBytes:=by
 intro z hz
 obtain ⟨i,hi⟩:=List.mem_iff_getElem?.1 hz
 have hil:=(List.getElem?_eq_some_iff.1 hi).1
 obtain ⟨fuel,h0⟩:=h
 obtain ⟨hr1,hr2,hr3⟩:=hr
 have hjk:j < ks.length:=by rw [← Ks.len ks z];exact (List.getElem?_eq_some_iff.1 (hsel z)).1
 cases hp:s.p with
 | none=>have:=hr2 hp;omega
 | some q =>
  have he1:(Lf.sl s).enc=.slice (some q.addr) s.len s.cap:=by show s.enc=_;rw [Sl.enc_n (Sl.norm_p hp),hp];rfl
  rw [he1] at h0
  have h0:DataW.trod enc P W 0 (fun _=>true) true fuel t [.slice (some q.addr) s.len s.cap]=some (d,p):=by simpa [Value.cells] using h0
  rcases DataW.trod_slice ht h0 with ⟨hb,_⟩ | ⟨a,len,cap,elems,rest,n,_,hc,hx,_,_,_,hel,h1,_⟩
  ·cases hb
  ·have hc:(Value.slice (some q.addr) s.len s.cap)=.slice (some a) len cap:=(List.cons.inj hc).1
   injection hc with ha hlen hcap
   have ha:q.addr=a:=Option.some.inj ha
   have:=h1 i (by omega)
   rw [List.getElem?_eq_getElem (by omega)] at this
   obtain ⟨cs,hz1,hz2⟩:=Option.bind_eq_some_iff.1 this
   obtain ⟨_,hzl,hzc⟩:=World.cells?_some hz1
   obtain ⟨xs,m,_,hx2,_,hlen2,hff⟩:=DataW.trod_struct he hz2
   have hj:=hff j f hf
   have hjl:j < xs.length:=by rw [hlen2];exact (Array.getElem?_eq_some_iff.1 hf).1
   rw [hfo,hfu,hcu,List.getElem?_eq_getElem hjl] at hj
   have hcell:=hzc j (by omega)
   rw [← ha,show q.addr=(⟨q.b,q.o,none⟩:Addr) from rfl,add_eq,add_eq] at hcell
   have hfc:=flat_cell ks zs i z hi j hjk
   rw [hsel z] at hfc
   have hrd:=reads_cells (hr3 q hp) (i * ks.length+j) (Lf.sl (sel z)).enc (by rw [List.getElem?_map,hfc];rfl)
   rw [add_eq,← Nat.add_assoc,hck,hcell] at hrd
   have hdr:(cs.drop j).take 1=[(Lf.sl (sel z)).enc]:=by
    have hjc:j < cs.length:=by omega
    rw [List.drop_eq_getElem_cons hjc,List.take_succ_cons,List.take_zero]
    rw [List.getElem?_eq_getElem hjc] at hrd
    rw [Option.some.inj hrd]
   rw [hdr] at hj
   rcases DataW.trod_slice hu hj with ⟨hb1,hx3⟩ | ⟨a',len',cap',elems',rest',n',_,hc',hx3,_,_,_,hel',_⟩
   ·have hb1:(Lf.sl (sel z)).enc=.slice none 0 0:=(List.cons.inj hb1).1
    obtain ⟨a2,c2,e2,_⟩:=Sl.enc_len (sel z)
    rw [show (Lf.sl (sel z)).enc=(sel z).enc from rfl,e2] at hb1
    injection hb1 with _ hh _
    omega
   ·have hc':(Lf.sl (sel z)).enc=.slice (some a') len' cap':=(List.cons.inj hc').1
    obtain ⟨a2,c2,e2,_⟩:=Sl.enc_len (sel z)
    rw [show (Lf.sl (sel z)).enc=(sel z).enc from rfl,e2] at hc'
    injection hc' with _ hh _
    have hx1:d=.slice (elems.map (·.1)) (rest.map (·.1)):=(Prod.mk.inj hx).1
    have hi1:elems[i]'(by omega)∈elems:=List.getElem_mem _
    have hn:(elems'.length+rest'.length) * P.bytesOf e'∈d.weights P t:=by
     rw [hx1]
     simp only [DataW.weights,ht,List.mem_cons,List.mem_append]
     refine Or.inr (Or.inl (weightsAll_in (List.mem_map_of_mem hi1) _ ?_))
     rw [(Prod.ext_iff.1 hx2).1]
     simp only [DataW.weights,he]
     refine DataW.weights_mem_each (j:=j) (t:=u) (d:=(xs[j]).1) (by rw [List.getElem?_map,Array.getElem?_toList,hf];exact congrArg some hfu) (by rw [List.getElem?_map,List.getElem?_eq_getElem hjl];rfl) _ ?_
     rw [(Prod.ext_iff.1 hx3).1]
     simp [DataW.weights,hu]
    have:=hw _ hn
    have h3:elems'.length * 1≤(elems'.length+rest'.length) * P.bytesOf e':=Nat.mul_le_mul (by omega) hb
    omega
theorem two_rd {α β γ:Type} {zs:List α} {ps:List (α × β)} {qs:List (α × γ)} (h1:ps.map Prod.fst=zs) (h2:qs.map Prod.fst=zs):∃ os:List (α × β × γ),os.map Prod.fst=zs∧∀ o∈os,(o.1,o.2.1)∈ps∧(o.1,o.2.2)∈qs:=by
 induction zs generalizing ps qs with
 | nil=>exact ⟨[],rfl,fun _ h=>by cases h⟩
 | cons z l ih =>
  cases ps with
  | nil=>cases h1
  | cons p ps =>
   cases qs with
   | nil=>cases h2
   | cons q qs =>
    obtain ⟨os,e,k⟩:=ih (List.cons.inj h1).2 (List.cons.inj h2).2
    refine ⟨(p.1,p.2,q.2) :: os,by rw [List.map_cons,e];exact congrArg (· :: l) (List.cons.inj h1).1,fun o ho=>?_⟩
    rcases List.mem_cons.1 ho with ho | ho
    ·rw [ho]
     refine ⟨List.mem_cons_self ..,?_⟩
     have:q.1=p.1:=(List.cons.inj h2).1.trans (List.cons.inj h1).1.symm
     rw [← this]
     exact List.mem_cons_self ..
    ·exact ⟨List.mem_cons_of_mem _ (k o ho).1,List.mem_cons_of_mem _ (k o ho).2⟩
theorem law_read {f:FuncId} {args:List V1} {A:SP} {w:World} (t:Tri P f args [.lf .bool] A (fun r=>pur (r=true) emp)) (h:ReadOk A w) (he:ent P f=true:=by kernel_rfl) :
  Calls P f (args.map V1.enc).toArray w fun e w'=>e=.returned (.bool true)∧RowKit.Below w.heap.size w w':=by
 obtain ⟨R,h⟩:=h
 exact law_of t h he
end
end Go.X

