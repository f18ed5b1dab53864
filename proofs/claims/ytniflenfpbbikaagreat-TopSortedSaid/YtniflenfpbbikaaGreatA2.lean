/- A verified reading of Go code as a weakest precondition, and a logic of separate parts over it. -/
import Derived.Test.YtniflenfpbbikaaGreatA1
set_option linter.unusedVariables false
set_option linter.unusedSimpArgs false
set_option linter.unusedSectionVars false
namespace Go.X
variable {P : Program}
def flat (K:Ks) (xs:List (Ks.T K)):List Lf:=xs.flatMap (Ks.mk K)
theorem flat_len (K:Ks) (xs:List (Ks.T K)):(flat K xs).length=xs.length * K.length:=by
 induction xs with
 | nil=>simp [flat]
 | cons x xs ih=>simp only [flat,List.flatMap_cons,List.length_append,Ks.len,List.length_cons] at *;rw [ih,Nat.add_mul];omega
theorem flat_append (K:Ks) (xs ys:List (Ks.T K)):flat K (xs++ys)=flat K xs++flat K ys:=by simp [flat]
theorem flat_get (K:Ks):∀ (xs:List (Ks.T K)) (j:Nat) (y:Ks.T K),xs[j]?=some y→((flat K xs).drop (j * K.length)).take K.length=Ks.mk K y
 | [],j,y,h=>by simp at h
 | x :: xs,0,y,h=>by
  simp at h;subst h
  simp only [flat,List.flatMap_cons,Nat.zero_mul,List.drop_zero]
  rw [List.take_append_of_le_length (by rw [Ks.len];exact Nat.le_refl _),List.take_of_length_le (by rw [Ks.len];exact Nat.le_refl _)]
 | x :: xs,j+1,y,h=>by
  have:=flat_get K xs j y (by simpa using h)
  simp only [flat,List.flatMap_cons]
  rw [show (j+1) * K.length=(Ks.mk K x).length+j * K.length by rw [Ks.len,Nat.add_mul];omega,← List.drop_drop,List.drop_left]
  exact this
theorem flat_cell (K:Ks) (xs:List (Ks.T K)) (j:Nat) (y:Ks.T K) (h:xs[j]?=some y) (i:Nat) (hi:i < K.length):(flat K xs)[j * K.length+i]?=(Ks.mk K y)[i]?:=by
 have:=congrArg (fun z=>z[i]?) (flat_get K xs j y h)
 simp only [List.getElem?_take,if_pos hi,List.getElem?_drop] at this
 exact this
theorem flat_take (K:Ks) (xs:List (Ks.T K)) (n:Nat):flat K (xs.take n)=(flat K xs).take (n * K.length):=by
 induction n generalizing xs with
 | zero=>simp [flat]
 | succ n ih =>
  cases xs with
  | nil=>simp [flat]
  | cons x xs =>
   simp only [List.take_succ_cons,flat,List.flatMap_cons] at *
   rw [ih,show (n+1) * K.length=(Ks.mk K x).length+n * K.length by rw [Ks.len,Nat.add_mul];omega,List.take_length_add_append]
theorem flat_drop (K:Ks) (xs:List (Ks.T K)) (n:Nat):flat K (xs.drop n)=(flat K xs).drop (n * K.length):=by
 induction n generalizing xs with
 | zero=>simp [flat]
 | succ n ih =>
  cases xs with
  | nil=>simp [flat]
  | cons x xs =>
   simp only [List.drop_succ_cons,flat,List.flatMap_cons] at *
   rw [ih,show (n+1) * K.length=(Ks.mk K x).length+n * K.length by rw [Ks.len,Nat.add_mul];omega,← List.drop_drop,List.drop_left]
def Sl.ix (s:Sl) (j n:Nat):Pt:=⟨(s.p.getD ⟨0,0⟩).b,(s.p.getD ⟨0,0⟩).o+j * n⟩
def arr (s:Sl) (K:Ks) (xs:List (Ks.T K)):SP where
 h w S R:=(SlOwn w s K.length (flat K xs)∧s.len=xs.length)∧(∀ k,S k↔s.own k)∧∀ k,¬ R k
 st:=by
  rintro w w' S R ⟨⟨h,hl⟩,hS,hR⟩ hw
  refine ⟨⟨?_,hl⟩,hS,hR⟩
  rcases h with h | ⟨q,C,hp,⟨T,hb⟩,hle,hc,r⟩
  ·exact .inl h
  ·exact .inr ⟨q,C,hp,⟨T,by rw [hw q.b (.inl ((hS _).2 ⟨q,hp,rfl,hc⟩))];exact hb⟩,hle,hc,r⟩
 nd:=by
  rintro w S R k ⟨⟨h,hl⟩,hS,hR⟩ hk
  rcases hk with hk | hk
  ·obtain ⟨q,hp,rfl,hc⟩:=(hS k).1 hk
   rcases h with ⟨_,h,_⟩ | ⟨q',C,hp',⟨T,hb⟩,_⟩
   ·exact absurd h hc
   ·rw [hp] at hp';cases hp';exact ⟨_,hb,by simp [openD]⟩
  ·exact (hR k hk).elim
def rarr (s:Sl) (K:Ks) (xs:List (Ks.T K)):SP where
 h w S R:=(SlRd w s K.length (flat K xs)∧s.len=xs.length)∧(∀ k,¬ S k)∧∀ k,R k↔(∃ q,s.p=some q∧k=q.b)∧flat K xs≠[]
 st:=by
  rintro w w' S R ⟨⟨⟨h1,h2,h3⟩,hl⟩,hS,hR⟩ hw
  refine ⟨⟨⟨h1,h2,fun q hq=>?_⟩,hl⟩,hS,hR⟩
  have hr:=h3 q hq
  by_cases hne:flat K xs=[]
  ·rw [hne];trivial
  ·have hk:=hw q.b (.inr ((hR _).2 ⟨⟨q,hq,rfl⟩,hne⟩))
   generalize flat K xs=ls at hr
   generalize q.o=o at hr
   clear hne h1 hR
   induction ls generalizing o with
   | nil=>trivial
   | cons l ls ih=>exact ⟨by rw [← hr.1];exact World.cell?_of_block hk,ih _ hr.2⟩
 nd:=by
  rintro w S R k ⟨⟨⟨h1,h2,h3⟩,hl⟩,hS,hR⟩ hk
  rcases hk with hk | hk
  ·exact (hS k hk).elim
  ·obtain ⟨⟨q,hq,rfl⟩,hne⟩:=(hR k).1 hk
   have hr:=h3 q hq
   cases hf:flat K xs with
   | nil=>exact absurd hf hne
   | cons l ls =>
    rw [hf] at hr
    have hc:=hr.1
    cases hh:w.heap[q.b]? with
    | none=>simp [World.cell?,hh] at hc
    | some o =>
     refine ⟨o,rfl,?_⟩
     rintro rfl
     simp [World.cell?,hh] at hc
class Rd (s:Sl) (F:SP) (K:outParam Ks) (xs:outParam (List (Ks.T K))):Prop where
 rd:∀ w S R,F.h w S R→SlRd w s K.length (flat K xs)∧s.len=xs.length
 fp:∀ w S R,F.h w S R→flat K xs≠[]→∀ q,s.p=some q→S q.b∨R q.b
instance rd_arr (s:Sl) (K:Ks) (xs:List (Ks.T K)):Rd s (arr s K xs) K xs:=⟨fun _ _ _ h=>⟨h.1.1.read,h.1.2⟩,fun w S R h hne q hq=>by
 refine .inl ((h.2.1 _).2 ⟨q,hq,rfl,fun hc=>hne ?_⟩)
 rcases h.1.1 with ⟨_,_,h3⟩ | ⟨_,_,_,_,_,h3,_⟩
 ·exact h3
 ·exact absurd hc h3⟩
instance rd_rarr (s:Sl) (K:Ks) (xs:List (Ks.T K)):Rd s (rarr s K xs) K xs:=⟨fun _ _ _ h=>⟨h.1.1,h.1.2⟩,fun _ _ _ h hne q hq=>.inr ((h.2.2 _).2 ⟨⟨q,hq,rfl⟩,hne⟩)⟩
instance (priority:=900) rd_here (s:Sl) (K:Ks) (xs:List (Ks.T K)) (A F:SP) [t:Rd s A K xs]:Rd s (A^F) K xs:=⟨fun _ _ _ ⟨_,_,_,_,h,_⟩=>t.rd _ _ _ h,fun _ _ _ ⟨_,_,_,_,h,_,hS,hR,_⟩ hne q hq=>(t.fp _ _ _ h hne q hq).imp (fun x=>(hS _).2 (.inl x)) (fun x=>(hR _).2 (.inl x))⟩
instance (priority:=500) rd_there (s:Sl) (K:Ks) (xs:List (Ks.T K)) (A F:SP) [t:Rd s F K xs]:Rd s (A^F) K xs:=⟨fun _ _ _ ⟨_,_,_,_,_,h,_⟩=>t.rd _ _ _ h,fun _ _ _ ⟨_,_,_,_,_,h,hS,hR,_⟩ hne q hq=>(t.fp _ _ _ h hne q hq).imp (fun x=>(hS _).2 (.inr x)) (fun x=>(hR _).2 (.inr x))⟩
class TakeA (s:Sl) (F:SP) (K:outParam Ks) (xs:outParam (List (Ks.T K))) (G:outParam SP):Prop where
 le:Le F (arr s K xs^G)
instance takeA_here (s:Sl) (K:Ks) (xs:List (Ks.T K)) (G:SP):TakeA s (arr s K xs^G) K xs G:=⟨Le.rfl⟩
instance (priority:=900) takeA_last (s:Sl) (K:Ks) (xs:List (Ks.T K)):TakeA s (arr s K xs) K xs emp:=⟨star_emp _⟩
instance (priority:=400) takeA_in (s:Sl) (K:Ks) (xs:List (Ks.T K)) (B C F G:SP) [t:TakeA s (B^C^F) K xs G]:TakeA s ((B^C)^F) K xs G:=⟨(star_assoc _ _ _).trans t.le⟩
instance (priority:=500) takeA_there (s:Sl) (K:Ks) (xs:List (Ks.T K)) (B F G:SP) [t:TakeA s F K xs G]:TakeA s (B^F) K xs (B^G):=⟨(star_mono Le.rfl t.le).trans (star_swap _ _ _)⟩
section
variable {w0 w : World} {S0 R0 : Nat → Prop} {F G A B : SP} {K : Ks} {xs : List (Ks.T K)} {s : Sl}
theorem Own.rd (h:Own w0 S0 R0 w F) [t:Rd s F K xs]:SlRd w s K.length (flat K xs)∧s.len=xs.length:=by
 obtain ⟨S,R,hF,_⟩:=h.own
 exact t.rd _ _ _ hF
theorem Own.arrP (h:Own w0 S0 R0 w (arr s K xs^F)):SlOwn w s K.length (flat K xs)∧s.len=xs.length ∧
  ∀ (w':World) (s':Sl) (K':Ks) (ys:List (Ks.T K')),Ext s.own w w'→SlOwn w' s' K'.length (flat K' ys)→s'.len=ys.length→(∀ k,s'.own k→s.own k∨w.heap.size≤k)→Own w0 S0 R0 w' (X.arr s' K' ys^F):=by
 obtain ⟨S,R,⟨h1,hS,hR⟩,_,h2⟩:=h.part
 exact ⟨h1.1,h1.2,fun w' s' K' ys he hb hl hg=>h2 w' (X.arr s' K' ys) s'.own (fun _=>False) (he.mono fun k _ hk=>(hS k).2 hk) ⟨⟨hb,hl⟩,fun _=>Iff.rfl,fun _ h=>h⟩ (fun k hk=>(hg k hk).imp (hS k).2 id) (fun _ h=>h.elim)⟩
theorem w_idx {i:Int} {n:Nat} {k:Pt→WP} (h:Own w0 S0 R0 w F) [t:Rd s F K xs] (h0:0≤i) (h1:i.toNat < xs.length) (hk:k (s.ix i.toNat n) w):idx s i n k w:=by
 obtain ⟨⟨_,hn,_⟩,hl⟩:=h.rd (s:=s)
 cases hp:s.p with
 | none=>have:=hn hp;omega
 | some q =>
  refine ⟨q,hp,⟨h0,by omega⟩,?_⟩
  have:s.ix i.toNat n=⟨q.b,q.o+i.toNat * n⟩:=by simp [Sl.ix,hp]
  rw [← this];exact hk
theorem reads_app {b:Nat}:∀ {o:Nat} {ls ms:List Lf},Reads w b o (ls++ms)→Reads w b (o+ls.length) ms
 | _,[],_,h=>h
 | o,l :: ls,ms,h=>by
  have:=reads_app (o:=o+1) (ls:=ls) h.2
  rw [show o+1+ls.length=o+(l :: ls).length by simp;omega] at this
  exact this
theorem reads_take {b:Nat}:∀ {o:Nat} {ls ms:List Lf},Reads w b o (ls++ms)→Reads w b o ls
 | _,[],_,_=>trivial
 | _,_ :: _,_,h=>⟨h.1,reads_take h.2⟩
theorem reads_part {b o f n:Nat} {ls:List Lf} (h:Reads w b o ls) (hf:f≤ls.length):Reads w b (o+f) ((ls.drop f).take n):=by
 have h1:Reads w b o (ls.take f++ls.drop f):=by rw [List.take_append_drop];exact h
 have h2:=reads_app h1
 rw [List.length_take,Nat.min_eq_left hf] at h2
 have h3:Reads w b (o+f) ((ls.drop f).take n++(ls.drop f).drop n):=by rw [List.take_append_drop];exact h2
 exact reads_take h3
theorem rd_elem {j f n:Nat} {y:Ks.T K} (h:SlRd w s K.length (flat K xs)) (hy:xs[j]?=some y) (hf:f≤K.length):Reads w (s.ix j K.length).b ((s.ix j K.length).o+f) (((Ks.mk K y).drop f).take n):=by
 have hj:j < xs.length:=(List.getElem?_eq_some_iff.1 hy).1
 obtain ⟨h1,h2,h3⟩:=h
 by_cases hK:K.length=0
 ·have:Ks.mk K y=[]:=List.eq_nil_of_length_eq_zero (by rw [Ks.len];exact hK)
  rw [this];simp;trivial
 ·cases hp:s.p with
  | none =>
   have:=h2 hp
   rw [this,flat_len,Nat.zero_mul] at h1
   rcases Nat.mul_eq_zero.1 h1 with h1 | h1
   ·omega
   ·exact absurd h1 hK
  | some q =>
   have hr:=h3 q hp
   have hle:j * K.length≤(flat K xs).length:=by rw [flat_len];exact Nat.mul_le_mul_right _ (Nat.le_of_lt hj)
   have h4:=reads_part (n:=K.length) hr hle
   rw [flat_get K xs j y hy] at h4
   have h5:=reads_part (n:=n) h4 (f:=f) (by rw [Ks.len];exact hf)
   simp only [Sl.ix,hp,Option.getD_some]
   exact h5
theorem w_ldA {p:Pt} {ks:Ks} {k:Ks.T ks→WP} {x:Ks.T ks} (h:Own w0 S0 R0 w F) (s:Sl) [t:Rd s F K xs] (j f:Nat) (y:Ks.T K) (hy:xs[j]?=some y) (hp:p=⟨(s.ix j K.length).b,(s.ix j K.length).o+f⟩) (hf:f≤K.length)
  (hx:Ks.un ks (((Ks.mk K y).drop f).take ks.length)=some x) (hk:k x w):ld ks p k w:=by
 refine ⟨x,?_,hk⟩
 rw [Ks.un_some hx,hp]
 exact rd_elem (h.rd (s:=s)).1 hy hf
theorem w_chkA {p:Pt} {ls:List Lf} {A:WP} (h:Own w0 S0 R0 w F) (s:Sl) [t:Rd s F K xs] (j f:Nat) (y:Ks.T K) (hy:xs[j]?=some y) (hp:p=⟨(s.ix j K.length).b,(s.ix j K.length).o+f⟩) (hf:f≤K.length)
  (hx:((Ks.mk K y).drop f).take ls.length=ls) (hk:A w):chk p ls A w:=by
 refine ⟨?_,hk⟩
 rw [hp,← hx]
 exact rd_elem (h.rd (s:=s)).1 hy hf
theorem splice_list (L M N:List Lf) (o:Nat) (h1:L.length=N.length) (hb:o+M.length≤L.length) (h2:∀ i,i < N.length→N[i]?=if i < o then L[i]? else if i < o+M.length then M[i - o]? else L[i]?):splice L o M=N:=by
 apply List.ext_getElem?
 intro i
 by_cases hi:i < N.length
 ·rw [splice_get hb,h2 i hi]
 ·rw [List.getElem?_eq_none (by rw [splice_length hb];omega),List.getElem?_eq_none (by omega)]
theorem flat_set {j:Nat} {y z:Ks.T K} {f:Nat} {ls:List Lf} (hy:xs[j]?=some y) (hz:Ks.mk K z=splice (Ks.mk K y) f ls) (hf:f+ls.length≤K.length):flat K (xs.set j z)=splice (flat K xs) (j * K.length+f) ls:=by
 have hj:j < xs.length:=(List.getElem?_eq_some_iff.1 hy).1
 have hb:j * K.length+f+ls.length≤(flat K xs).length:=by
  rw [flat_len]
  have:(j+1) * K.length≤xs.length * K.length:=Nat.mul_le_mul_right _ hj
  rw [Nat.add_mul] at this
  omega
 by_cases hK:K.length=0
 ·have h1:flat K (xs.set j z)=[]:=List.eq_nil_of_length_eq_zero (by rw [flat_len,hK,Nat.mul_zero])
  have h2:flat K xs=[]:=List.eq_nil_of_length_eq_zero (by rw [flat_len,hK,Nat.mul_zero])
  have h3:ls=[]:=List.eq_nil_of_length_eq_zero (by omega)
  rw [h1,h2,h3];simp [splice]
 ·symm
  refine splice_list _ _ _ _ (by simp [flat_len]) hb fun i hi=>?_
  rw [flat_len,List.length_set] at hi
  obtain ⟨a,ha⟩:∃ a,a=i / K.length:=⟨_,rfl⟩
  obtain ⟨c,hc⟩:∃ c,c=i % K.length:=⟨_,rfl⟩
  have hi':i=a * K.length+c:=by rw [ha,hc,Nat.mul_comm];exact (Nat.div_add_mod i K.length).symm
  have hcl:c < K.length:=by rw [hc];exact Nat.mod_lt _ (by omega)
  have hal:a < xs.length:=by rw [ha];exact Nat.div_lt_of_lt_mul (by rw [Nat.mul_comm];exact hi)
  have ex:xs[a]?=some xs[a]:=List.getElem?_eq_getElem hal
  rw [hi',flat_cell K xs a xs[a] ex c hcl]
  by_cases haj:a=j
  ·subst haj
   have hyy:xs[a]=y:=by rw [ex] at hy;exact Option.some.inj hy
   rw [flat_cell K (xs.set a z) a z (by simp [hal]) c hcl,hz,hyy,splice_get (by rw [Ks.len];exact hf)]
   by_cases h1:c < f
   ·rw [if_pos h1,if_pos (show a * K.length+c < a * K.length+f by omega)]
   ·rw [if_neg h1,if_neg (show ¬ a * K.length+c < a * K.length+f by omega)]
    by_cases h2:c < f+ls.length
    ·rw [if_pos h2,if_pos (show a * K.length+c < a * K.length+f+ls.length by omega)];congr 1;omega
    ·rw [if_neg h2,if_neg (show ¬ a * K.length+c < a * K.length+f+ls.length by omega)]
  ·rw [flat_cell K (xs.set j z) a xs[a] (by rw [List.getElem?_set_ne (Ne.symm haj)];exact ex) c hcl]
   rcases Nat.lt_or_gt_of_ne haj with hlt | hgt
   ·have:(a+1) * K.length≤j * K.length:=Nat.mul_le_mul_right _ hlt
    rw [Nat.add_mul] at this
    rw [if_pos (by omega)]
   ·have:(j+1) * K.length≤a * K.length:=Nat.mul_le_mul_right _ hgt
    rw [Nat.add_mul] at this
    rw [if_neg (by omega),if_neg (by omega)]
theorem w_stA {p:Pt} {ls:List Lf} {A:WP} (h:Own w0 S0 R0 w F) (s:Sl) [t:TakeA s F K xs G] (j f:Nat) (y z:Ks.T K) (hy:xs[j]?=some y) (hp:p=⟨(s.ix j K.length).b,(s.ix j K.length).o+f⟩) (hf:f+ls.length≤K.length) (hls:ls≠[])
  (hz:Ks.mk K z=splice (Ks.mk K y) f ls) (hk:∀ w',Own w0 S0 R0 w' (X.arr s K (xs.set j z)^G)→A w'):st p ls A w:=by
 obtain ⟨h1,h2,h3⟩:=(h.le t.le).arrP
 have hj:j < xs.length:=(List.getElem?_eq_some_iff.1 hy).1
 have hlp:0 < ls.length:=List.length_pos_iff.2 hls
 rcases h1 with ⟨e1,_,_⟩ | ⟨q,C,hq,hb,hle,hc,hC,hL,hg⟩
 ·omega
 have hfl:=flat_len K xs
 have hjk:(j+1) * K.length≤xs.length * K.length:=Nat.mul_le_mul_right _ hj
 rw [Nat.add_mul] at hjk
 have hcap:s.len * K.length≤s.cap * K.length:=Nat.mul_le_mul_right _ hle
 rw [h2] at hcap
 have hpo:p=⟨q.b,q.o+(j * K.length+f)⟩:=by rw [hp];simp [Sl.ix,hq];omega
 have hbound:q.o+(j * K.length+f)+ls.length≤C.length:=by omega
 refine ⟨C,by rw [hpo];exact hb,by rw [hpo];exact hbound,fun w' he hb' _=>hk w' ?_⟩
 rw [hpo] at he hb'
 refine h3 w' s K (xs.set j z) (he.mono fun k _ hk=>⟨q,hq,hk,hc⟩) (.inr ⟨q,_,hq,hb',hle,hc,by rw [splice_length hbound];exact hC,by rw [flat_len,List.length_set,h2],fun i hi=>?_⟩) (by rw [List.length_set];exact h2) (fun k hk=>.inl hk)
 rw [flat_len,List.length_set] at hi
 rw [flat_set hy hz hf,splice_get hbound,splice_get (by omega)]
 by_cases c1:i < j * K.length+f
 ·rw [if_pos (by omega),if_pos c1,hg i (by omega)]
 ·rw [if_neg (by omega),if_neg c1]
  by_cases c2:i < j * K.length+f+ls.length
  ·rw [if_pos (by omega),if_pos c2];congr 1;omega
  ·rw [if_neg (by omega),if_neg c2,hg i (by omega)]
theorem own_nil:SlOwn w ⟨none,0,0⟩ K.length (flat K []):=.inl ⟨rfl,rfl,rfl⟩
theorem Own.nil (h:Own w0 S0 R0 w F) (K:Ks):Own w0 S0 R0 w (X.arr ⟨none,0,0⟩ K []^F):=by
 have h:=h.le ((star_emp F).trans (star_comm _ _))
 obtain ⟨S,R,_,_,h2⟩:=h.part
 exact h2 w (X.arr ⟨none,0,0⟩ K []) (fun _=>False) (fun _=>False) (Ext.refl _ _) ⟨⟨own_nil,rfl⟩,fun k=>⟨fun h=>h.elim,fun ⟨q,hq,_⟩=>by cases hq⟩,fun _ h=>h⟩ (fun _ h=>h.elim) (fun _ h=>h.elim)
theorem Own.blkArr (h:Own w0 S0 R0 w F) (b:Nat) {L:List Lf} [t:TakeB b F L G] (K:Ks) (ys:List (Ks.T K)) (hL:L=flat K ys) (hn:ys≠[]):Own w0 S0 R0 w (X.arr ⟨some ⟨b,0⟩,ys.length,ys.length⟩ K ys^G):=by
 obtain ⟨S,R,⟨h1,hS,hR⟩,_,h2⟩:=(h.le t.le).part
 have hlen:ys.length≠0:=fun hh=>hn (List.eq_nil_of_length_eq_zero hh)
 refine h2 w _ S (fun _=>False) (Ext.refl _ _) ⟨⟨.inr ⟨⟨b,0⟩,L,rfl,h1,Nat.le_refl _,hlen,by rw [hL,flat_len];simp,by rw [flat_len],fun i hi=>by rw [hL];simp⟩,rfl⟩,fun k=>?_,fun _ h=>h⟩ (fun _ h=>.inl h) (fun _ h=>h.elim)
 rw [hS k]
 exact ⟨fun hk=>⟨⟨b,0⟩,rfl,hk,hlen⟩,fun ⟨q,hq,hk,_⟩=>by cases hq;exact hk⟩
theorem w_app {n:Nat} {x:Sl} {ys:List (Ks.T K)} {k:Sl→WP} (h:Own w0 S0 R0 w F) [t:TakeA s F K xs G] [r:Rd x F K ys] (hn:n=K.length) (hl:xs.length+ys.length≤4294967296)
  (hk:∀ s' w',s'.len=xs.length+ys.length→Own w0 S0 R0 w' (X.arr s' K (xs++ys)^G)→k s' w'):app n s x k w:=by
 obtain ⟨h1,h2,h3⟩:=(h.le t.le).arrP
 obtain ⟨r1,r2⟩:=h.rd (s:=x)
 subst hn
 refine ⟨_,_,h1,r1,by rw [h2,r2];exact hl,fun w' s' e1 e2 e3 e4 _ _=>hk s' w' (by rw [e3,h2,r2]) (h3 w' s' K _ e1 (by rw [flat_append];exact e2) (by rw [e3,h2,r2,List.length_append]) e4)⟩
theorem Own.sub (h:Own w0 S0 R0 w F) (s:Sl) [t:TakeA s F K xs G] {l hh m:Nat} (h1:l≤hh) (h2:hh≤xs.length) (h3:hh≤m) (h4:m≤s.cap):Own w0 S0 R0 w (X.arr (s.sub l hh m K.length) K ((xs.take hh).drop l)^G):=by
 obtain ⟨e1,e2,e3⟩:=(h.le t.le).arrP
 have hlen:(s.sub l hh m K.length).len=hh - l:=rfl
 have hcap:(s.sub l hh m K.length).cap=m - l:=rfl
 refine e3 w _ K _ (Ext.refl _ _) ?_ (by rw [hlen,List.length_drop,List.length_take];omega) ?_
 ·rcases e1 with ⟨c1,c2,c3⟩ | ⟨q,C,hq,hb,hle,hc,hC,hL,hg⟩
  ·refine .inl ⟨by rw [hlen];omega,by rw [hcap];omega,?_⟩
   have:xs.length=0:=by omega
   have:xs=[]:=List.eq_nil_of_length_eq_zero this
   rw [this];simp [flat]
  ·by_cases hml:m=l
   ·refine .inl ⟨by rw [hlen];omega,by rw [hcap];omega,?_⟩
    have:hh=l:=by omega
    rw [this,List.drop_eq_nil_of_le (by rw [List.length_take];omega)];rfl
   ·have hp:(s.sub l hh m K.length).p=some ⟨q.b,q.o+l * K.length⟩:=by simp [Sl.sub,hml,hq]
    have m1:m * K.length≤s.cap * K.length:=Nat.mul_le_mul_right _ h4
    have m2:(m - l) * K.length+l * K.length=m * K.length:=by rw [← Nat.add_mul];congr 1;omega
    have m3:(hh - l) * K.length+l * K.length=hh * K.length:=by rw [← Nat.add_mul];congr 1;omega
    have m4:hh * K.length≤xs.length * K.length:=Nat.mul_le_mul_right _ h2
    refine .inr ⟨_,C,hp,hb,by rw [hlen,hcap];omega,by rw [hcap];omega,by rw [hcap];show q.o+l * K.length+(m - l) * K.length≤C.length;omega,by rw [flat_len,hlen,List.length_drop,List.length_take];congr 1;omega,fun i hi=>?_⟩
    rw [flat_len,List.length_drop,List.length_take,Nat.min_eq_left h2] at hi
    rw [flat_drop,flat_take,List.getElem?_drop,List.getElem?_take,if_pos (by omega)]
    rw [← hg _ (by rw [flat_len];omega)]
    show C[q.o+l * K.length+i]?=_
    congr 1;omega
 ·rintro k ⟨q,hq,hk,hc⟩
  rw [hcap] at hc
  have hml:m≠l:=by omega
  simp only [Sl.sub,if_neg hml] at hq
  cases hp:s.p with
  | none=>rw [hp] at hq;cases hq
  | some q' =>
   rw [hp] at hq
   cases hq
   exact .inl ⟨q',hp,hk,by omega⟩
end
end Go.X

namespace Go.X
variable {P : Program}
def over:List Lf→List Lf→List Lf
 | _ :: L,l :: ls=>l :: over L ls
 | L,[]=>L
 | [],_ :: _=>[]
def upd:List Lf→Nat→List Lf→List Lf
 | L,0,ls=>over L ls
 | a :: L,o+1,ls=>a :: upd L o ls
 | [],_+1,_=>[]
theorem over_eq:∀ {L ls:List Lf},ls.length≤L.length→over L ls=ls++L.drop ls.length
 | [],[],_=>rfl
 | [],_ :: _,h=>by simp at h
 | _ :: _,[],_=>rfl
 | _ :: L,l :: ls,h=>by simp only [over,List.length_cons,List.drop_succ_cons,List.cons_append];rw [over_eq (by simpa using h)]
theorem upd_eq:∀ {L:List Lf} {o:Nat} {ls:List Lf},o+ls.length≤L.length→upd L o ls=splice L o ls
 | L,0,ls,h=>by simp only [upd,splice];rw [over_eq (by simpa using h)];simp
 | a :: L,o+1,ls,h=>by
  simp only [upd,splice]
  rw [upd_eq (by simp at h;omega),splice]
  simp [Nat.add_right_comm]
 | [],o+1,ls,h=>by simp at h
section
variable {w0 w : World} {S0 R0 : Nat → Prop} {F G A B : SP}
theorem w_deref {q:Pt} {K:Pt→WP} (h:K q w):deref (some q) K w:=⟨q,rfl,h⟩
theorem w_set {p:Pt} {ls:List Lf} {A:WP} {L:List Lf} (h:Own w0 S0 R0 w F) [t:TakeB p.b F L G] (hx:Nat.ble (p.o+ls.length) L.length=true) (k:∀ w',Own w0 S0 R0 w' (X.blk p.b (upd L p.o ls)^G)→A w'):st p ls A w:=by
 have hx:=Nat.le_of_ble_eq_true hx
 exact w_st h hx fun w' h'=>k w' (by rw [upd_eq hx];exact h')
theorem w_setAll {b:Nat} {ls:List Lf} {A:WP} {L:List Lf} (h:Own w0 S0 R0 w F) [t:TakeB b F L G] (hx:ls.length=L.length) (k:∀ w',Own w0 S0 R0 w' (X.blk b ls^G)→A w'):st ⟨b,0⟩ ls A w :=
 w_st (p:=⟨b,0⟩) h (by show 0+_≤_;omega) fun w' h'=>k w' (by
  have e:splice L 0 ls=ls:=by simp [splice,hx]
  have h':Own w0 S0 R0 w' (X.blk b (splice L 0 ls)^G):=h'
  rw [e] at h';exact h')
theorem Own.retP {p:Prop} {A:SP} (hp:p) (h:Own w0 S0 R0 w A):Own w0 S0 R0 w (X.pur p A):=h.le (fun _ _ _ h=>⟨hp,h⟩)
theorem Own.retE {α:Type} {f:α→SP} (a:α) (h:Own w0 S0 R0 w (f a)):Own w0 S0 R0 w (X.ex f):=h.le (fun _ _ _ h=>⟨a,h⟩)
theorem w_loop {cs:List CK} {x₀:Ks.T cs} {B:(Ks.T cs→WP)→Ks.T cs→WP} (I:Ks.T cs→SP) (φ:Ks.T cs→Prop) (μ:Ks.T cs→Nat) (h:Own w0 S0 R0 w (I x₀)) (h0:φ x₀)
  (hr:∀ x w,φ x→Own w0 S0 R0 w (I x)→B (fun y w'=>(φ y∧Own w0 S0 R0 w' (I y))∧μ y < μ x) x w):loop cs x₀ B w :=
 ⟨fun x w=>φ x∧Own w0 S0 R0 w (I x),fun x _=>μ x,⟨h0,h⟩,fun x w hx=>hr x w hx.1 hx.2⟩
theorem w_join {cs:List CK} {A:(Ks.T cs→WP)→WP} {K:Ks.T cs→WP} (_h:Own w0 S0 R0 w F) (J:Ks.T cs→SP) (φ:Ks.T cs→Prop) (hK:∀ x w,φ x→Own w0 S0 R0 w (J x)→K x w) (hA:A (fun x w=>φ x∧Own w0 S0 R0 w (J x)) w):join cs A K w :=
 ⟨fun x w=>φ x∧Own w0 S0 R0 w (J x),fun x w hx=>hK x w hx.1 hx.2,hA⟩
theorem tri_n {f:FuncId} {args:List V1} {rs:List Sh} {Pre:SP} {Post:Rs.T rs→SP} {W:Nat→(Rs.T rs→WP)→WP} (hc:∀ (R:Rs.T rs→WP) (w:World),W w.heap.size R w→CallX P f (args.map V1.enc) w fun v w'=>∃ x,v=(retTV (Rs.mk rs x)).enc∧R x w')
  (h:∀ w S R,Own w S R w Pre→W w.heap.size (fun x w'=>Own w S R w' (Post x)) w):Tri P f args rs Pre Post :=
 fun w S R hp=>hc _ w (h w S R (own_start hp))
theorem tri_0 {f:FuncId} {args:List V1} {rs:List Sh} {Pre:SP} {Post:Rs.T rs→SP} {W:(Rs.T rs→WP)→WP} (hc:∀ (R:Rs.T rs→WP) (w:World),W R w→CallX P f (args.map V1.enc) w fun v w'=>∃ x,v=(retTV (Rs.mk rs x)).enc∧R x w')
  (h:∀ w S R,Own w S R w Pre→W (fun x w'=>Own w S R w' (Post x)) w):Tri P f args rs Pre Post :=
 fun w S R hp=>hc _ w (h w S R (own_start hp))
theorem Tri.g {f:FuncId} {args caps:List V1} {rs:List Sh} {Pre:SP} {Post:Rs.T rs→SP} (t:Tri P f (args++caps) rs Pre Post) (he:ent P f=true:=by kernel_rfl):TriG P (.mk (.func f) [] (caps.map V1.enc)) args rs Pre Post:=fun w S R hp=>by
 have:=(t w S R hp).e he
 rw [List.map_append] at this
 exact this
theorem Tri.le {f:FuncId} {args:List V1} {rs:List Sh} {Pre Pre':SP} {Post Post':Rs.T rs→SP} (t:Tri P f args rs Pre Post) (h1:Le Pre' Pre) (h2:∀ x,Le (Post x) (Post' x)):Tri P f args rs Pre' Post' :=
 fun w S R hp=>(t w S R (h1 _ _ _ hp)).mono fun _ _ ⟨x,hv,ho⟩=>⟨x,hv,ho.le (h2 x)⟩
theorem CallG.frame {f:Fv} {args:List V1} {rs:List Sh} {Pre:SP} {Post:Rs.T rs→SP} (t:TriG P f args rs Pre Post) (h:Own w0 S0 R0 w (Pre^G)):CallG P f (args.map V1.enc) w fun v w'=>Dfr w w'∧∃ x,v=(retTV (Rs.mk rs x)).enc∧Own w0 S0 R0 w' (Post x^G):=by
 obtain ⟨S,R,h1,h2⟩:=h.call
 exact (t w S R h1).mono fun v w' ⟨x,hv,ho⟩=>⟨(h2 w' _ ho).1,x,hv,(h2 w' _ ho).2⟩
def either (A B:SP):SP:=ex fun b:Bool=>cond b A B
def Iter (P:Program) (fv:Fv) (C:SP) (rs:List Sh) (xs:List (Rs.T rs)):Prop :=
 ∀ (y:Fv) (I:Nat→SP) (D:SP),(∀ i x,xs[i]?=some x→TriV P y (Rs.mk rs x) [.lf .bool] (I i) (fun c=>cond c (I (i+1)) D)) →
  TriG P fv [.lf (.fn y)] [] (C^I 0) (fun _=>C^either (I xs.length) D)
theorem Own.objP {l:Nat} {o:Obj} (h:Own w0 S0 R0 w (obj l o^F)):w.heap[l]?=some o∧(∀ (w':World) (o':Obj),Ext (at1 l) w w'→w'.heap[l]?=some o'→o'≠openD→Own w0 S0 R0 w' (X.obj l o'^F))∧∀ w',Ext (at1 l) w w'→Own w0 S0 R0 w' F:=by
 obtain ⟨S,R,⟨h1,hS,hR⟩,_,h2⟩:=h.part
 refine ⟨h1.1,fun w' o' he ho hne=>?_,fun w' he=>?_⟩
 ·exact h2 w' (X.obj l o') S (fun _=>False) (he.mono fun k _ hk=>(hS k).2 hk) ⟨⟨ho,hne⟩,hS,fun _ h=>h⟩ (fun _ h=>.inl h) (fun _ h=>h.elim)
 ·exact (h2 w' emp (fun _=>False) (fun _=>False) (he.mono fun k _ hk=>(hS k).2 hk) ⟨fun _ h=>h,fun _ h=>h⟩ (fun _ h=>h.elim) (fun _ h=>h.elim)).drop
theorem w_range {fv:Fv} {C:SP} {rs:List Sh} {xs:List (Rs.T rs)} {B:Rs.T rs→(WP→WP)→WP→(Nat→WP)→WP} {K:Nat→WP} (it:Iter P fv C rs xs) (I:Nat→SP) (D:Nat→SP) (h:Own w0 S0 R0 w F) [tk:Take (C^I 0) F G]
  (hb:∀ i x,xs[i]?=some x→∀ (w:World) (S R:Nat→Prop) (mid:WP→WP) (next:WP) (jump:Nat→WP) (rdy bsy:SP),
   (∀ {A:WP} {w':World} {F G:SP},Own w S R w' F→∀ [_t:Take rdy F G],(∀ w'',Own w S R w'' (bsy^G)→A w'')→mid A w') →
   (∀ {w':World} {F G:SP},Own w S R w' F→∀ [_t:Take (bsy^I (i+1)) F G],next w') →
   (∀ {w':World} {F G:SP} (j:Nat),j≠0→Own w S R w' F→∀ [_t:Take (bsy^D j) F G],jump j w') →
   Own w S R w (rdy^I i)→B x mid next jump w)
  (hK:∀ w',Own w0 S0 R0 w' (C^I xs.length^G)→K 0 w') (hJ:∀ j w',j≠0→Own w0 S0 R0 w' (C^D j^G)→K j w'):rangeF P fv rs B K w:=by
 intro w1 l st busy hst hbu he hl1 hl2 hl0 hround
 have h1:Own w0 S0 R0 w1 (obj l (st 0)^(C^I 0)^G) :=
  (h.le tk.le).more he (S':=fun k=>k=l) ⟨⟨hl0,hst 0⟩,fun _=>Iff.rfl,fun _ h=>h⟩ (fun k hk=>by rw [hk];exact hl1)
 have hit:=it (.mk (.yield l) [] []) (fun i=>obj l (st 0)^I i) (ex fun j=>pur (j≠0) (obj l (st j)^D j)) ?_
 ·have h2:Own w0 S0 R0 w1 ((C^obj l (st 0)^I 0)^G):=h1.le ((star_assoc' _ _ _).trans (star_mono (star_swap _ _ _) Le.rfl))
  refine (CallG.frame hit h2).mono fun v w2 ⟨hd,x,hv,ho⟩=>⟨hd,?_⟩
  have ho:Own w0 S0 R0 w2 (either (obj l (st 0)^I xs.length) (ex fun j=>pur (j≠0) (obj l (st j)^D j))^C^G):=ho.le ((star_mono (star_comm _ _) Le.rfl).trans (star_assoc _ _ _))
  obtain ⟨b,ho⟩:=ho.exP
  cases b with
  | true =>
   have ho:Own w0 S0 R0 w2 (obj l (st 0)^I xs.length^C^G):=ho.le (star_assoc _ _ _)
   obtain ⟨e1,_,e3⟩:=ho.objP
   exact ⟨0,e1,fun w3 he3 _=>hK w3 ((e3 w3 he3).le (star_swap _ _ _))⟩
  | false =>
   obtain ⟨j,ho⟩:=Own.exP (f:=fun j=>pur (j≠0) (X.obj l (st j)^D j)) ho
   obtain ⟨hj,ho⟩:=ho.purP
   have ho:Own w0 S0 R0 w2 (obj l (st j)^D j^C^G):=ho.le (star_assoc _ _ _)
   obtain ⟨e1,_,e3⟩:=ho.objP
   exact ⟨j,e1,fun w3 he3 _=>hJ j w3 hj ((e3 w3 he3).le (star_swap _ _ _))⟩
 ·intro i x hx W S R hp
  have hW:Own W S R W (obj l (st 0)^I i):=own_start hp
  refine hround x W _ ?_ hW.objP.1
  refine hb i x hx W S R _ _ _ (obj l (st 0)) (obj l busy) ?_ ?_ ?_ hW
  ·intro A w' F G hF t k
   obtain ⟨e1,e2,_⟩:=(hF.le t.le).objP
   exact ⟨e1,fun W1 h1 h2 _=>k W1 (e2 W1 _ h1 h2 hbu)⟩
  ·intro w' F G hF t
   have hF:=(hF.le t.le).le (star_assoc _ _ _)
   obtain ⟨e1,e2,_⟩:=hF.objP
   exact ⟨e1,fun W1 h1 h2 _=>⟨true,rfl,((e2 W1 _ h1 h2 (hst 0)).le (star_assoc' _ _ _)).keep⟩⟩
  ·intro w' F G j hj hF t
   have hF:=(hF.le t.le).le (star_assoc _ _ _)
   obtain ⟨e1,e2,_⟩:=hF.objP
   exact ⟨e1,fun W1 h1 h2 _=>⟨false,rfl,Own.retE (f:=fun j=>pur (j≠0) (X.obj l (st j)^D j)) j (Own.retP hj ((e2 W1 _ h1 h2 (hst j)).le (star_assoc' _ _ _)).keep)⟩⟩
end
end Go.X

namespace Go.X
variable {P : Program}
class NoR (p:SP):Prop where
 nor:∀ w S R,p.h w S R→∀ k,¬ R k
instance:NoR emp:=⟨fun _ _ _ h=>h.2⟩
instance (b:Nat) (L:List Lf):NoR (blk b L):=⟨fun _ _ _ h=>h.2.2⟩
instance (s:Sl) (K:Ks) (xs:List (Ks.T K)):NoR (arr s K xs):=⟨fun _ _ _ h=>h.2.2⟩
instance (A B:SP) [a:NoR A] [b:NoR B]:NoR (A^B):=⟨fun _ _ _ ⟨_,_,_,_,h1,h2,_,hR,_⟩ k hk=>((hR k).1 hk).elim (a.nor _ _ _ h1 k) (b.nor _ _ _ h2 k)⟩
instance (p:Prop) (A:SP) [a:NoR A]:NoR (pur p A):=⟨fun _ _ _ h=>a.nor _ _ _ h.2⟩
instance {α:Type} (f:α→SP) [a:∀ x,NoR (f x)]:NoR (ex f):=⟨fun _ _ _ ⟨x,h⟩=>(a x).nor _ _ _ h⟩
class Lend (A F:SP):Prop where
 lend:∀ w S R,F.h w S R→∃ R':Nat→Prop,A.h w (fun _=>False) R'∧∀ k,R' k→S k∨R k
instance lend_emp (F:SP):Lend emp F:=⟨fun _ _ _ _=>⟨fun _=>False,⟨fun _ h=>h,fun _ h=>h⟩,fun _ h=>h.elim⟩⟩
instance lend_rarr (s:Sl) (K:Ks) (xs:List (Ks.T K)) (F:SP) [t:Rd s F K xs]:Lend (rarr s K xs) F:=⟨fun w S R h=>⟨fun k=>(∃ q,s.p=some q∧k=q.b)∧flat K xs≠[],⟨t.rd w S R h,fun _ h=>h,fun _=>Iff.rfl⟩,
 fun k ⟨⟨q,hq,hk⟩,hne⟩=>by rw [hk];exact t.fp w S R h hne q hq⟩⟩
class IsNil {α:Type} (xs:List α):Prop where
 nil:xs=[]
instance {α:Type}:IsNil ([]:List α):=⟨rfl⟩
instance (priority:=1100) lend_nil (K:Ks) (xs:List (Ks.T K)) (F:SP) [e:IsNil xs]:Lend (rarr ⟨none,0,0⟩ K xs) F:=⟨fun w S R _=>by
 rw [e.nil]
 exact ⟨fun _=>False,⟨⟨⟨by simp [flat],fun _=>rfl,fun q hq=>by cases hq⟩,rfl⟩,fun _ h=>h,fun k=>⟨fun h=>h.elim,fun h=>h.2 rfl⟩⟩,fun _ h=>h.elim⟩⟩
instance lend_star (A B F:SP) [a:Lend A F] [b:Lend B F]:Lend (A^B) F:=⟨fun w S R h=>by
 obtain ⟨R1,h1,k1⟩:=a.lend w S R h
 obtain ⟨R2,h2,k2⟩:=b.lend w S R h
 exact ⟨fun k=>R1 k∨R2 k,⟨fun _=>False,R1,fun _=>False,R2,h1,h2,fun k=>by simp,fun _=>Iff.rfl,fun _ h=>h.elim,fun _ h=>h.elim,fun _ _ h=>h⟩,fun k hk=>hk.elim (k1 k) (k2 k)⟩⟩
section
variable {w0 w : World} {S0 R0 : Nat → Prop} {F G A B Q : SP}
theorem Own.callL (h:Own w0 S0 R0 w (A^G)) (hl:Lend Q G):∃ S R,(A^Q).h w S R∧∀ w' B,NoR B→Own w S R w' B→Dfr w w'∧Own w0 S0 R0 w' (B^G):=by
 obtain ⟨S,R,⟨S1,R1,S2,R2,h1,h2,hS',hR',d1,d2,d3⟩,hS,hR⟩:=h.own
 obtain ⟨R3,hq,hr⟩:=hl.lend _ _ _ h2
 refine ⟨S1,fun k=>R1 k∨R3 k,⟨S1,R1,fun _=>False,R3,h1,hq,fun k=>by simp,fun _=>Iff.rfl,fun _ _ h=>h,fun k a b=>(hr k b).elim (d1 k a) (d2 k a),fun _ _ h=>h⟩,fun w' B hN ho=>?_⟩
 obtain ⟨S',R',hB,hs,hr'⟩:=ho.own
 refine ⟨ho.ext.dfr,?_⟩
 have hsz:=h.ext.size
 have hN':=hN.nor _ _ _ hB
 refine ⟨h.ext.trans' ho.ext fun i hi hk=>(hS i ((hS' i).2 (.inl hk))).elim id fun h=>absurd h (by omega),fun k=>S' k∨S2 k,fun k=>R' k∨R2 k,⟨S',R',S2,R2,hB,G.ext h2 ho.ext (fun k a b=>d1 k b a) (fun k a b=>d2 k b a),fun _=>Iff.rfl,fun _=>Iff.rfl,?_,?_,fun k a=>absurd a (hN' k)⟩,?_,?_⟩
 ·intro k a b
  rcases hs k a with hh | hh
  ·exact d1 k hh b
  ·have:=G.lt h2 (.inl b);omega
 ·intro k a b
  rcases hs k a with hh | hh
  ·exact d2 k hh b
  ·have:=G.lt h2 (.inr b);omega
 ·rintro k (hk | hk)
  ·rcases hs k hk with hh | hh
   ·exact hS k ((hS' k).2 (.inl hh))
   ·exact .inr (by omega)
  ·exact hS k ((hS' k).2 (.inr hk))
 ·rintro k (hk | hk)
  ·exact absurd hk (hN' k)
  ·exact hR k ((hR' k).2 (.inr hk))
theorem w_callL {f:FuncId} {args:List V1} {rs:List Sh} {Post:Rs.T rs→SP} {K:Rs.T rs→WP} (t:Tri P f args rs (A^Q) Post) (h:Own w0 S0 R0 w F) [tk:Take A F G] [hl:Lend Q G] [hN:∀ x,NoR (Post x)] (k:∀ x w',Own w0 S0 R0 w' (Post x^G)→K x w'):call P f args rs K w:=by
 obtain ⟨S,R,h1,h2⟩:=(h.le tk.le).callL hl
 exact CallX.mono (t w S R h1) fun v w' ⟨x,hv,ho⟩=>⟨x,hv,(h2 w' _ (hN x) ho).1,k x w' (h2 w' _ (hN x) ho).2⟩
theorem law_of {f:FuncId} {args:List V1} (t:Tri P f args [.lf .bool] A (fun r=>pur (r=true) emp)) {R:Nat→Prop} (h:A.h w (fun _=>False) R) (he:ent P f=true) :
  Calls P f (args.map V1.enc).toArray w fun e w'=>e=.returned (.bool true)∧RowKit.Below w.heap.size w w':=by
 refine callsIn_wide.1 (((t w _ R h).e he).2.mono ?_)
 rintro e w' ⟨v,rfl,x,rfl,ho⟩
 obtain ⟨S,R,h1,_⟩:=ho.own
 have hx:x=true:=h1.1
 subst hx
 exact ⟨rfl,(ho.ext.mono fun _ _ h=>h).below⟩
end
class TakeK {κ ν:Type} (rep:κ→ν→SP) (k:κ) (F:SP) (v:outParam ν) (G:outParam SP):Prop where
 le:Le F (rep k v^G)
instance takeK_here {κ ν:Type} (rep:κ→ν→SP) (k:κ) (v:ν) (G:SP):TakeK rep k (rep k v^G) v G:=⟨Le.rfl⟩
instance (priority:=900) takeK_last {κ ν:Type} (rep:κ→ν→SP) (k:κ) (v:ν):TakeK rep k (rep k v) v emp:=⟨star_emp _⟩
instance (priority:=500) takeK_there {κ ν:Type} (rep:κ→ν→SP) (k:κ) (v:ν) (B F G:SP) [t:TakeK rep k F v G]:TakeK rep k (B^F) v (B^G):=⟨(star_mono Le.rfl t.le).trans (star_swap _ _ _)⟩
instance (priority:=400) takeK_in {κ ν:Type} (rep:κ→ν→SP) (k:κ) (v:ν) (B C F G:SP) [t:TakeK rep k (B^C^F) v G]:TakeK rep k ((B^C)^F) v G:=⟨(star_assoc _ _ _).trans t.le⟩
section
variable {w0 w : World} {S0 R0 : Nat → Prop} {F G H A B Q : SP}
end
end Go.X

namespace Go.X
theorem wi {n:Int} (h0:-9223372036854775808≤n) (h1:n < 9223372036854775808):IntKind.i64.wrap n=n:=by
 simp [IntKind.wrap,IntKind.bits,IntKind.signed];omega
theorem wu {n:Int} (h0:0≤n) (h1:n < 18446744073709551616):IntKind.u64.wrap n=n:=by
 simp [IntKind.wrap,IntKind.bits,IntKind.signed];omega
theorem wu_range (n:Int):0≤IntKind.u64.wrap n∧IntKind.u64.wrap n < 18446744073709551616:=by
 simp [IntKind.wrap,IntKind.bits,IntKind.signed];omega
def fI {α:Type} (p:α→Bool) (xs:List α):Int:=match xs.findIdx? p with | some i=>(i:Int) | none=>-1
theorem fI_at {α:Type} {p:α→Bool} {xs:List α} {i:Nat} {x:α} (hx:xs[i]?=some x) (hp:p x=true) (hn:∀ j y,j < i→xs[j]?=some y→p y=false):fI p xs=i:=by
 have:xs.findIdx? p=some i:=by
  rw [List.findIdx?_eq_some_iff_getElem]
  obtain ⟨hl,he⟩:=List.getElem?_eq_some_iff.1 hx
  refine ⟨hl,by rw [he];exact hp,fun j hj=>?_⟩
  rw [hn j xs[j] hj (List.getElem?_eq_getElem _)];simp
 rw [fI,this]
theorem fI_none {α:Type} {p:α→Bool} {xs:List α} (hn:∀ y∈xs,p y=false):fI p xs=-1:=by
 have:xs.findIdx? p=none:=List.findIdx?_eq_none_iff.2 hn
 rw [fI,this]
theorem fI_any {α:Type} (p:α→Bool) (xs:List α):decide (fI p xs ≥ 0)=xs.any p:=by
 unfold fI
 cases h:xs.findIdx? p with
 | none =>
  have:=List.findIdx?_eq_none_iff.1 h
  simp only []
  rw [show xs.any p=false by rw [List.any_eq_false];intro x hx;rw [this x hx];simp]
  rfl
 | some i =>
  obtain ⟨hl,hp,_⟩:=List.findIdx?_eq_some_iff_getElem.1 h
  simp only []
  rw [show xs.any p=true by rw [List.any_eq_true];exact ⟨xs[i],List.getElem_mem hl,hp⟩]
  exact decide_eq_true (by omega)
theorem at_some {α:Type} {xs:List α} {i:Nat} (h:i < xs.length):xs[i]?=some xs[i]:=List.getElem?_eq_getElem h
section
variable {P : Program} {w0 w : World} {S0 R0 : Nat → Prop} {F G A B : SP}
theorem w_ldAll {b:Nat} {ks:Ks} {k:Ks.T ks→WP} {L:List Lf} {x:Ks.T ks} (h:Own w0 S0 R0 w F) [t:TakeB b F L G] (hL:L=Ks.mk ks x) (hk:k x w):ld ks ⟨b,0⟩ k w :=
 w_ld (p:=⟨b,0⟩) h (by
  show Ks.un ks ((L.drop 0).take ks.length)=some x
  rw [hL,List.drop_zero,List.take_of_length_le (by rw [Ks.len];exact Nat.le_refl _)]
  exact un_mk) hk
theorem w_chkAll {b:Nat} {L:List Lf} {k:WP} (h:Own w0 S0 R0 w F) [t:TakeB b F L G] (hk:k w):chk ⟨b,0⟩ L k w :=
 w_chk (p:=⟨b,0⟩) h (by show (L.drop 0).take L.length=L;simp) hk
theorem w_ldE {p:Pt} {K:Ks} {k:Ks.T K→WP} {xs:List (Ks.T K)} (h:Own w0 S0 R0 w F) (s:Sl) [t:Rd s F K xs] (j:Nat) {y:Ks.T K} (hy:xs[j]?=some y) (hp:p=s.ix j K.length) (hk:k y w):ld K p k w :=
 w_ldA h s j 0 y hy (by rw [hp];rfl) (Nat.zero_le _) (by rw [List.drop_zero,List.take_of_length_le (by rw [Ks.len];exact Nat.le_refl _)];exact un_mk) hk
theorem Own.eitherL (h:Own w0 S0 R0 w (A^F)) (B:SP):Own w0 S0 R0 w (either A B^F):=h.toEx (f:=fun b:Bool=>cond b A B) true
theorem Own.eitherR (h:Own w0 S0 R0 w (B^F)) (A:SP):Own w0 S0 R0 w (either A B^F):=h.toEx (f:=fun b:Bool=>cond b A B) false
end
end Go.X

namespace Go.X
section
variable {P : Program} {w0 w : World} {S0 R0 : Nat → Prop} {F G A B : SP} {K : Ks} {xs ys : List (Ks.T K)} {s : Sl}
def Nrm (s:Sl):Prop:=s.odd=false∧(s.cap≠0→s.p≠none)
theorem Nrm.some {s:Sl} {q:Pt} (h:s.p=some q):Nrm s:=⟨Sl.norm_p h,fun _ e=>by rw [h] at e;cases e⟩
theorem Nrm.own {w:World} {s:Sl} {sz:Nat} {L:List Lf} (h:SlOwn w s sz L):Nrm s:=by
 rcases h with ⟨_,h2,_⟩ | ⟨q,C,hp,_⟩
 ·exact ⟨Sl.norm_c h2,fun e=>absurd h2 e⟩
 ·exact Nrm.some hp
theorem Nrm.long {w:World} {s:Sl} {sz:Nat} {L:List Lf} (h:SlRd w s sz L) (hl:s.len≠0):Nrm s:=by
 cases hp:s.p with
 | none=>exact absurd (h.2.1 hp) hl
 | some q=>exact Nrm.some hp
theorem w_slc {lo hi mx:Option Int} {n:Nat} {k:Sl→WP} (h:Own w0 S0 R0 w F) [t:TakeA s F K xs G] (l hh m:Nat) (hn:n=K.length) (hlo:bnd lo 0 l) (hhi:bnd hi s.len hh) (hmx:bnd mx s.cap m) (h1:l≤hh) (h2:hh≤xs.length) (h3:hh≤m) (h4:m≤s.cap)
  (hk:∀ s',s'.len=hh - l→s'.cap=m - l→Own w0 S0 R0 w (X.arr s' K ((xs.take hh).drop l)^G)→k s' w):slc s lo hi mx n k w:=by
 subst hn
 obtain ⟨e1,_,_⟩:=(h.le t.le).arrP
 exact ⟨Nrm.own e1,l,hh,m,hlo,hhi,hmx,⟨h1,h3,h4⟩,hk _ rfl rfl (h.sub s h1 h2 h3 h4)⟩
theorem Own.nrm (h:Own w0 S0 R0 w F) (s:Sl) [t:TakeA s F K xs G]:Nrm s:=Nrm.own (h.le t.le).arrP.1
theorem own_cap (h:Own w0 S0 R0 w F) [t:TakeA s F K xs G]:s.len≤s.cap:=by
 obtain ⟨h1,h2,_⟩:=(h.le t.le).arrP
 rcases h1 with ⟨a,b,_⟩ | ⟨_,_,_,_,c,_⟩<;>omega
theorem SlRd.sub {l hh m:Nat} (h:SlRd w s K.length (flat K xs)) (hs:s.len=xs.length) (h1:l≤hh) (h2:hh≤xs.length) (h3:hh≤m):SlRd w (s.sub l hh m K.length) K.length (flat K ((xs.take hh).drop l))∧(s.sub l hh m K.length).len=((xs.take hh).drop l).length:=by
 obtain ⟨e1,e2,e3⟩:=h
 have hlen:(s.sub l hh m K.length).len=hh - l:=rfl
 have hl2:((xs.take hh).drop l).length=hh - l:=by rw [List.length_drop,List.length_take];omega
 refine ⟨⟨by rw [flat_len,hl2,hlen],fun hp=>?_,fun q hq=>?_⟩,by rw [hlen,hl2]⟩
 ·rw [hlen]
  by_cases hml:m=l
  ·omega
  ·simp only [Sl.sub,if_neg hml,Option.map_eq_none_iff] at hp
   have:=e2 hp;omega
 ·by_cases hml:m=l
  ·have:hh=l:=by omega
   rw [this,List.drop_eq_nil_of_le (by rw [List.length_take];omega)];trivial
  ·simp only [Sl.sub,if_neg hml] at hq
   cases hp:s.p with
   | none=>rw [hp] at hq;cases hq
   | some q' =>
    rw [hp] at hq
    cases hq
    have hr:=e3 q' hp
    have hle:l * K.length≤(flat K xs).length:=by rw [flat_len];exact Nat.mul_le_mul_right _ (by omega)
    have h4:=reads_part (n:=(hh - l) * K.length) hr hle
    have e:flat K ((xs.take hh).drop l)=((flat K xs).drop (l * K.length)).take ((hh - l) * K.length):=by
     rw [flat_drop,flat_take,List.drop_take]
     congr 1
     rw [Nat.sub_mul]
    rw [e];exact h4
theorem rd_sub (s:Sl) (F:SP) (K:Ks) (xs:List (Ks.T K)) [t:Rd s F K xs] (l hh m:Nat) (h1:l≤hh) (h2:hh≤xs.length) (h3:hh≤m):Rd (s.sub l hh m K.length) F K ((xs.take hh).drop l) where
 rd w S R h:=SlRd.sub (t.rd w S R h).1 (t.rd w S R h).2 h1 h2 h3
 fp w S R h hne q hq:=by
  have hml:m≠l:=fun e=>hne (by
   have:hh=l:=by omega
   rw [this,List.drop_eq_nil_of_le (by rw [List.length_take];omega)];rfl)
  simp only [Sl.sub,if_neg hml] at hq
  cases hp:s.p with
  | none=>rw [hp] at hq;cases hq
  | some q' =>
   rw [hp] at hq
   cases hq
   refine t.fp w S R h (fun e=>hne ?_) q' hp
   rw [flat_drop,flat_take,e];simp
theorem w_slcR {lo hi mx:Option Int} {n:Nat} {k:Sl→WP} (_h:Own w0 S0 R0 w F) [t:Rd s F K xs] (hN:Nrm s) (l hh m:Nat) (hn:n=K.length) (hlo:bnd lo 0 l) (hhi:bnd hi s.len hh) (hmx:bnd mx s.cap m) (h1:l≤hh) (h2:hh≤xs.length) (h3:hh≤m) (h4:m≤s.cap)
  (hk:(s.sub l hh m n).len=hh - l→Rd (s.sub l hh m n) F K ((xs.take hh).drop l)→k (s.sub l hh m n) w):slc s lo hi mx n k w:=by
 subst hn
 exact ⟨hN,l,hh,m,hlo,hhi,hmx,⟨h1,h3,h4⟩,hk rfl (rd_sub s F K xs l hh m h1 h2 h3)⟩
theorem rep_flat {zs:List Lf} {z:Ks.T K} (hz:zs=Ks.mk K z) (m:Nat):rep m zs=flat K (List.replicate m z):=by
 induction m with
 | zero=>rfl
 | succ m ih=>simp only [rep,List.replicate_succ,List.flatten_cons,flat,List.flatMap_cons] at *;rw [ih,hz]
theorem w_clrTail {zs:List Lf} {z:Ks.T K} {k:WP} {l n:Nat} (h:Own w0 S0 R0 w F) [t:TakeA s F K xs G] (hn:n=K.length) (hz:zs=Ks.mk K z) (hl:l≤xs.length)
  (hk:∀ w',Own w0 S0 R0 w' (X.arr s K (xs.take l++List.replicate (xs.length - l) z)^G)→k w'):clr zs (s.sub l xs.length s.cap n) k w:=by
 subst hn
 obtain ⟨e1,e2,e3⟩:=(h.le t.le).arrP
 have hlen:(s.sub l xs.length s.cap K.length).len=xs.length - l:=rfl
 by_cases hc0:xs.length - l=0
 ·refine .inl ⟨.inr (by rw [hlen];exact hc0),hk w ?_⟩
  have:xs.take l++List.replicate (xs.length - l) z=xs:=by rw [hc0,List.replicate_zero,List.append_nil,List.take_of_length_le (by omega)]
  rw [this];exact h.le t.le
 rcases e1 with ⟨c1,c2,c3⟩ | ⟨q,C,hq,hb,hle,hc,hC,hL,hg⟩
 ·omega
 have hml:s.cap≠l:=by omega
 have hp:(s.sub l xs.length s.cap K.length).p=some ⟨q.b,q.o+l * K.length⟩:=by simp [Sl.sub,hml,hq]
 have hzl:zs.length=K.length:=by rw [hz,Ks.len]
 have m1:xs.length * K.length≤s.cap * K.length:=Nat.mul_le_mul_right _ (by omega)
 have m2:(xs.length - l) * K.length+l * K.length=xs.length * K.length:=by rw [← Nat.add_mul];congr 1;omega
 have hbd:q.o+l * K.length+(rep (xs.length - l) zs).length≤C.length:=by rw [rep_flat hz,flat_len,List.length_replicate];omega
 refine .inr ⟨⟨q.b,q.o+l * K.length⟩,C,hp,by rw [hlen];exact hc0,hb,by rw [hlen,hzl];show q.o+l * K.length+_≤_;omega,fun w' he hb' _=>hk w' ?_⟩
 rw [hlen] at hb'
 have hlen2:(xs.take l++List.replicate (xs.length - l) z).length=xs.length:=by rw [List.length_append,List.length_take,List.length_replicate];omega
 refine e3 w' s K _ (he.mono fun k _ hk=>⟨q,hq,hk,hc⟩) (.inr ⟨q,_,hq,hb',hle,hc,by rw [splice_length hbd];exact hC,by rw [flat_len,hlen2,e2],fun i hi=>?_⟩) (by rw [hlen2];exact e2) (fun k hk=>.inl hk)
 rw [flat_len,hlen2] at hi
 have hC2:q.o+i < C.length:=by omega
 show (splice C (q.o+l * K.length) _)[q.o+i]?=_
 have e4:(rep (xs.length - l) zs).length=(xs.length - l) * K.length:=by rw [rep_flat hz,flat_len,List.length_replicate]
 rw [splice_get hbd,flat_append,flat_take,← rep_flat hz]
 by_cases c1:i < l * K.length
 ·rw [if_pos (by omega),hg i (by rw [flat_len];omega),List.getElem?_append_left (by rw [List.length_take,flat_len];omega),List.getElem?_take,if_pos c1]
 ·rw [if_neg (by omega),if_pos (by omega),List.getElem?_append_right (by rw [List.length_take,flat_len];omega)]
  congr 1
  rw [List.length_take,flat_len];omega
theorem w_appz {zs:List Lf} {z:Ks.T K} {n:Nat} {c:Int} {k:Sl→WP} (h:Own w0 S0 R0 w F) [t:TakeA s F K xs G] (hn:n=K.length) (hz:zs=Ks.mk K z) (h0:0≤c) (hl:(xs.length:Int)+c≤4294967296)
  (hk:∀ s' w',s'.len=xs.length+c.toNat→Own w0 S0 R0 w' (X.arr s' K (xs++List.replicate c.toNat z)^G)→k s' w'):appz zs n s c k w:=by
 obtain ⟨h1,h2,h3⟩:=(h.le t.le).arrP
 subst hn
 refine ⟨_,h1,⟨h0,by rw [h2];exact hl⟩,fun w' s' e1 e2 e3 e4=>hk s' w' (by rw [e3,h2]) (h3 w' s' K _ e1 (by rw [flat_append,← rep_flat hz];exact e2) (by rw [e3,h2,List.length_append,List.length_replicate]) e4)⟩
theorem Own.arrOf (h:Own w0 S0 R0 w F) (s:Sl) (q:Pt) {C:List Lf} [t:TakeB q.b F C G] (K:Ks) (xs:List (Ks.T K)) (hq:s.p=some q) (hl:s.len=xs.length) (hle:s.len≤s.cap) (hc:s.cap≠0) (hC:q.o+s.cap * K.length≤C.length) (hg:∀ i,i < xs.length * K.length→C[q.o+i]?=(flat K xs)[i]?) :
  Own w0 S0 R0 w (X.arr s K xs^G):=by
 obtain ⟨S,R,⟨h1,hS,hR⟩,_,h2⟩:=(h.le t.le).part
 refine h2 w _ S (fun _=>False) (Ext.refl _ _) ⟨⟨.inr ⟨q,C,hq,h1,hle,hc,hC,by rw [flat_len,hl],fun i hi=>hg i (by rw [flat_len] at hi;exact hi)⟩,hl⟩,fun k=>?_,fun _ h=>h⟩ (fun _ h=>.inl h) (fun _ h=>h.elim)
 rw [hS k]
 exact ⟨fun hk=>⟨q,hq,hk,hc⟩,fun ⟨q',hq',hk,_⟩=>by rw [hq] at hq';cases hq';exact hk⟩
theorem Own.blkEq {b:Nat} {L L':List Lf} (h:Own w0 S0 R0 w F) [t:TakeB b F L G] (e:L=L'):Own w0 S0 R0 w (X.blk b L'^G):=by
 rw [← e];exact h.le t.le
theorem Own.arrEq {s:Sl} {ys:List (Ks.T K)} (h:Own w0 S0 R0 w F) [t:TakeA s F K xs G] (e:xs=ys):Own w0 S0 R0 w (X.arr s K ys^G):=by
 rw [← e];exact h.le t.le
def exq {α:Type} (φ:α→Prop) (f:α→SP):SP:=ex fun a=>pur (φ a) (f a)
instance {α:Type} (φ:α→Prop) (f:α→SP) [a:∀ x,NoR (f x)]:NoR (exq φ f):=by unfold exq;infer_instance
theorem Own.inq {α:Type} {φ:α→Prop} {f:α→SP} (h:Own w0 S0 R0 w F) (a:α) (hp:φ a) [t:Take (f a) F G]:Own w0 S0 R0 w (X.exq φ f^G) :=
 ((h.le t.le).toPur (p:=φ a) hp).toEx (f:=fun a=>X.pur (φ a) (f a)) a
theorem Own.outq {α:Type} {φ:α→Prop} {f:α→SP} (h:Own w0 S0 R0 w (X.exq φ f^F)):∃ a,φ a∧Own w0 S0 R0 w (f a^F):=by
 obtain ⟨a,h⟩:=Own.exP (f:=fun a=>X.pur (φ a) (f a)) h
 obtain ⟨hp,h⟩:=h.purP
 exact ⟨a,hp,h⟩
theorem Own.outq1 {α:Type} {φ:α→Prop} {f:α→SP} (h:Own w0 S0 R0 w (X.exq φ f)):∃ a,φ a∧Own w0 S0 R0 w (f a):=by
 obtain ⟨a,hp,h⟩:=(h.le (star_emp _)).outq
 exact ⟨a,hp,h.keep⟩
def rl {α:Type} (f:α→SP):List α→SP
 | []=>emp
 | x :: xs=>f x^rl f xs
theorem rd_rl {α:Type} {f:α→SP} {s:Sl} {K:Ks} {ys:List (Ks.T K)}:∀ {l:List α} {i:Nat} {x:α},l[i]?=some x→Rd s (f x) K ys→Rd s (rl f l) K ys
 | [],i,x,h,_=>by cases h
 | y :: l,0,x,h,r=>by
  cases h
  exact @rd_here s K ys (f y) (rl f l) r
 | y :: l,i+1,x,h,r=>by
  have:=rd_rl (l:=l) (i:=i) (x:=x) (by simpa using h) r
  exact @rd_there s K ys (f y) (rl f l) this
end
end Go.X

namespace Go.X
open Go.ChangeShapes Go.WideShapes Go.ChangeAt Go.RowKit
section
variable {H : Type} {enc : TypeId × Value → H} {P : Program}
theorem post_of_below {f:Func} {s:ChangeSpec} {apart fresh handsOn:Bool} {W W':World} {args:Array Value} {v:Value} {ds gs:List (DataW H)} {before pa pv:List MemPlace}
  (hW:DataW.Whole enc P f.params.toList s.vars apart W args.toList ds gs before)
  (hres:∀ (b:Nat) (sp:Nat→Bool) (hd:Bool),DataW.TrodAll enc P W' b sp hd f.resultTypes.toList (v.resultList f.resultTypes.size) (s.fn H (ds++gs)).results [])
  (hargs:DataW.TrodAll enc P W' 0 (fun b=>decide (b < W.heap.size)) true f.params.toList args.toList (s.fn H (ds++gs)).args pa)
  (hvars:DataW.TrodVars enc P W' (fun b=>decide (b < W.heap.size)) s.vars (s.fn H (ds++gs)).vars pv)
  (hps:before=pa++pv) (hb:Below W.heap.size W W'):s.post enc P f apart fresh handsOn false W args v W':=by
 refine ⟨ds,gs,before,[],pa,pv,hW,hres _ _ _,hargs,hvars,World.keptBut_mono (fun p hp=>⟨hp,?_⟩) (hb.frame (·∈before)),fun h=>by cases h⟩
 rw [hps,List.mem_append] at hp
 exact Or.inr hp
theorem reads_of_cells {w:World} {b:Nat}:∀ {ls:List Lf} {o:Nat},(∀ i l,ls[i]?=some l→w.cell? ⟨b,o+i,none⟩=some l.enc)→Reads w b o ls
 | [],_,_=>trivial
 | l :: ls,o,h=>⟨by have:=h 0 l rfl;simpa using this,reads_of_cells fun i m hm=>by
   have:=h (i+1) m (by simpa using hm)
   rwa [show o+(i+1)=o+1+i by omega] at this⟩
theorem spot_none {t e:TypeId} {W:World} {r:Reach} {base:Nat} {a:Addr} {len cap:Nat} (ht:P.underlying t=some (.slice e)) (h:Value.okWide P W r base t (.slice (some a) len cap)):a.spot=none:=by
 simp only [Value.okWide,ht,Cell.okWide,Cell.ok] at h
 exact h.2.2.2.1
end
end Go.X

namespace Go.X
open Go.ChangeShapes Go.WideShapes Go.ChangeAt Go.RowKit
section
variable {H : Type} {enc : TypeId × Value → H} {P : Program}
def catL (P:Program) (rec:TypeId→Option (List TypeId)):List Field→Nat→Option (List TypeId)
 | [],_=>some []
 | f :: r,off=>match rec f.type with
  | some a=>(match Nat.beq f.offset off && Nat.beq a.length (P.cellsOf f.type) with
   | true=>(match catL P rec r (off+a.length) with | some b=>some (a++b) | none=>none)
   | false=>none)
  | none=>none
def okLen (P:Program) (t:TypeId):Option (List TypeId)→Option (List TypeId)
 | some ts=>(match Nat.beq ts.length (P.cellsOf t) with | true=>some ts | false=>none)
 | none=>none
def lts (P:Program):Nat→TypeId→Option (List TypeId)
 | 0,_=>none
 | d+1,t=>match P.underlying t with
  | some (.struct fs)=>okLen P t (catL P (lts P d) fs.toList 0)
  | some (.array n e)=>(match okLen P e (lts P d e) with | some a=>okLen P t (some (List.replicate n a).flatten) | none=>none)
  | some .bool=>some [t]
  | some (.int _)=>some [t]
  | some .string=>some [t]
  | some (.slice e)=>(match Nat.beq (P.cellsOf e) 0 with | true=>none | false=>some [t])
  | _=>none
theorem okLen_some {t:TypeId} {o:Option (List TypeId)} {ts:List TypeId} (h:okLen P t o=some ts):o=some ts∧ts.length=P.cellsOf t:=by
 unfold okLen at h
 split at h
 ·split at h
  ·rename_i hb;cases h;exact ⟨rfl,Nat.eq_of_beq_eq_true hb⟩
  ·cases h
 ·cases h
theorem catL_at {rec:TypeId→Option (List TypeId)}:∀ {fl:List Field} {off:Nat} {ts:List TypeId},catL P rec fl off=some ts→∀ {i:Nat} {u:TypeId},ts[i]?=some u →
  ∃ f∈fl,∃ a,rec f.type=some a∧f.offset≤off+i∧off+i < f.offset+a.length∧a.length=P.cellsOf f.type∧a[off+i - f.offset]?=some u
 | [],off,ts,h,i,u,hu=>by cases h;cases hu
 | f :: r,off,ts,h,i,u,hu=>by
  simp only [catL] at h
  split at h
  ·rename_i a ha
   split at h
   ·rename_i hb
    rw [Bool.and_eq_true] at hb
    have h1:=Nat.eq_of_beq_eq_true hb.1
    have h2:=Nat.eq_of_beq_eq_true hb.2
    split at h
    ·rename_i b hb2
     cases h
     by_cases hi:i < a.length
     ·rw [List.getElem?_append_left hi] at hu
      exact ⟨f,by simp,a,ha,by omega,by omega,h2,by rw [show off+i - f.offset=i by omega];exact hu⟩
     ·rw [List.getElem?_append_right (by omega)] at hu
      obtain ⟨g,hg,c,hc,e1,e2,e3,e4⟩:=catL_at hb2 hu
      refine ⟨g,by simp [hg],c,hc,by omega,by omega,e3,?_⟩
      rw [show off+i - g.offset=off+a.length+(i - a.length) - g.offset by omega];exact e4
    ·cases h
   ·cases h
  ·cases h
theorem rep_at {α:Type} (a:List α):∀ (n i:Nat) (u:α),(List.replicate n a).flatten[i]?=some u→i / a.length < n∧a[i % a.length]?=some u
 | 0,i,u,h=>by simp at h
 | n+1,i,u,h=>by
  rw [List.replicate_succ,List.flatten_cons] at h
  by_cases hi:i < a.length
  ·rw [List.getElem?_append_left hi] at h
   rw [Nat.div_eq_of_lt hi,Nat.mod_eq_of_lt hi];exact ⟨by omega,h⟩
  ·rw [List.getElem?_append_right (by omega)] at h
   obtain ⟨h1,h2⟩:=rep_at a n _ u h
   have hpos:0 < a.length:=by
    rcases Nat.eq_zero_or_pos a.length with h0 | h0
    ·have:a=[]:=List.eq_nil_of_length_eq_zero h0
     rw [this] at h2;simp at h2
    ·exact h0
   have e1:i / a.length=(i - a.length) / a.length+1:=by
    conv=>lhs;rw [show i=(i - a.length)+a.length by omega]
    rw [Nat.add_div_right _ hpos]
   have e2:i % a.length=(i - a.length) % a.length:=by
    conv=>lhs;rw [show i=(i - a.length)+a.length by omega]
    rw [Nat.add_mod_right]
   rw [e1,e2];exact ⟨by omega,h2⟩
theorem lts_cells {w:World}:∀ (d:Nat) {t:TypeId} {ts:List TypeId} {fuel:Nat} {cs:List Value} {x:DataW H × List MemPlace},lts P d t=some ts→DataW.trod enc P w 0 (fun _=>true) true fuel t cs=some x →
  ts.length=cs.length∧∀ (i:Nat) (u:TypeId) (v:Value),ts[i]?=some u→cs[i]?=some v→∃ m y,DataW.trod enc P w 0 (fun _=>true) true m u [v]=some y
 | 0,t,ts,fuel,cs,x,h,_=>by cases h
 | d+1,t,ts,fuel,cs,x,h,hx=>by
  simp only [lts] at h
  split at h
  ·rename_i fs hu
   obtain ⟨hc,hlen⟩:=okLen_some h
   obtain ⟨xs,n,_,_,hcl,hxl,hf⟩:=DataW.trod_struct hu hx
   refine ⟨by omega,fun i u v hi hv=>?_⟩
   obtain ⟨f,hfm,a,ha,e1,e2,e3,e4⟩:=catL_at hc hi
   rw [Nat.zero_add] at e1 e2 e4
   obtain ⟨k,hk⟩:=List.mem_iff_getElem?.1 hfm
   have hk':fs[k]?=some f:=by simpa using hk
   have hkl:k < xs.length:=by rw [hxl];exact (Array.getElem?_eq_some_iff.1 hk').1
   have hp:=hf k f hk'
   rw [List.getElem?_eq_getElem hkl] at hp
   obtain ⟨_,hh⟩:=lts_cells d ha hp
   refine hh (i - f.offset) u v e4 ?_
   rw [List.getElem?_take,if_pos (by omega),List.getElem?_drop,show f.offset+(i - f.offset)=i by omega];exact hv
  ·rename_i n e hu
   split at h
   ·rename_i a ha
    obtain ⟨ha,hal⟩:=okLen_some ha
    obtain ⟨h1,hlen⟩:=okLen_some h
    cases h1
    obtain ⟨xs,m,_,_,hcl,hxl,hf⟩:=DataW.trod_array hu hx
    refine ⟨by omega,fun i u v hi hv=>?_⟩
    obtain ⟨r1,r2⟩:=rep_at a n i u hi
    have hp:=hf (i / a.length) r1
    rw [List.getElem?_eq_getElem (by omega)] at hp
    obtain ⟨_,hh⟩:=lts_cells d ha hp
    refine hh (i % a.length) u v r2 ?_
    have hpos:0 < a.length:=by
     rcases Nat.eq_zero_or_pos a.length with h0 | h0
     ·have:a=[]:=List.eq_nil_of_length_eq_zero h0
      rw [this] at r2;simp at r2
     ·exact h0
    rw [List.getElem?_take,if_pos (by rw [← hal];exact Nat.mod_lt _ hpos),List.getElem?_drop,← hal]
    have:=Nat.div_add_mod i a.length
    rw [Nat.mul_comm] at this
    rw [this];exact hv
   ·cases h
  ·rename_i hu
   cases h
   obtain ⟨b,rfl,_⟩:=DataW.trod_bool hu hx
   exact ⟨rfl,fun i u v hi hv=>by
    cases i with
    | zero=>cases hi;cases hv;exact ⟨_,_,hx⟩
    | succ i=>cases hi⟩
  ·rename_i k hu
   cases h
   obtain ⟨b,rfl,_⟩:=DataW.trod_int hu hx
   exact ⟨rfl,fun i u v hi hv=>by
    cases i with
    | zero=>cases hi;cases hv;exact ⟨_,_,hx⟩
    | succ i=>cases hi⟩
  ·rename_i hu
   cases h
   obtain ⟨b,rfl,_⟩:=DataW.trod_string hu hx
   exact ⟨rfl,fun i u v hi hv=>by
    cases i with
    | zero=>cases hi;cases hv;exact ⟨_,_,hx⟩
    | succ i=>cases hi⟩
  ·rename_i e hu
   split at h
   ·cases h
   cases h
   rcases DataW.trod_slice hu hx with ⟨rfl,_⟩ | ⟨_,_,_,_,_,_,_,rfl,_⟩
   all_goals
    exact ⟨rfl,fun i u v hi hv=>by
     cases i with
     | zero=>cases hi;cases hv;exact ⟨_,_,hx⟩
     | succ i=>cases hi⟩
  ·cases h
def LeafOk (P:Program) (W:World):Nat→TypeId→Lf→Prop
 | 0,_,_=>True
 | _+1,_,.int k m=>(Lit.int k m).wf=true
 | _+1,_,.str s=>s.size≤maxLen
 | n+1,u,.sl s=>(s.len≤maxLen∧s.len≤s.cap)∧∀ e ts ks,P.underlying u=some (.slice e)→lts P 8 e=some ts→ts.map (kind1 P)=ks.map some→ks.length=P.cellsOf e→ks≠[] →
   ∃ zs:List (Ks.T ks),SlRd W s ks.length (flat ks zs)∧s.len=zs.length∧∀ z∈zs,∀ (i:Nat) (v:TypeId) (l:Lf),ts[i]?=some v→(Ks.mk ks z)[i]?=some l→LeafOk P W n v l
 | _+1,_,_=>True
theorem un_all:∀ {ks:Ks} {ls:List Lf},ls.length=ks.length→(∀ (i:Nat) (c:CK) (l:Lf),ks[i]?=some c→ls[i]?=some l→∃ x,c.un l=some x)→∃ z,Ks.un ks ls=some z
 | [],[],_,_=>⟨(),rfl⟩
 | [],_ :: _,h,_=>by cases h
 | [c],[],h,_=>by cases h
 | [c],[l],_,hh=>by
  obtain ⟨x,hx⟩:=hh 0 c l rfl rfl
  exact ⟨x,hx⟩
 | [c],_ :: _ :: _,h,_=>by simp at h
 | c :: d :: r,[],h,_=>by cases h
 | c :: d :: r,l :: ls,h,hh=>by
  obtain ⟨x,hx⟩:=hh 0 c l rfl rfl
  obtain ⟨y,hy⟩:=un_all (ks:=d :: r) (ls:=ls) (by simpa using h) (fun i c l hc hl=>hh (i+1) c l (by simpa using hc) (by simpa using hl))
  exact ⟨(x,y),by simp only [Ks.un,hx,hy]⟩
theorem list_of {α:Type} {Q:Nat→α→Prop}:∀ (n:Nat),(∀ i,i < n→∃ z,Q i z)→∃ zs:List α,zs.length=n∧∀ (i:Nat) (z:α),zs[i]?=some z→Q i z
 | 0,_=>⟨[],rfl,fun i z h=>by cases h⟩
 | n+1,h=>by
  obtain ⟨zs,hl,hz⟩:=list_of n fun i hi=>h i (by omega)
  obtain ⟨z,hq⟩:=h n (by omega)
  refine ⟨zs++[z],by simp [hl],fun i y hy=>?_⟩
  by_cases hi:i < zs.length
  ·rw [List.getElem?_append_left hi] at hy;exact hz i y hy
  ·rw [List.getElem?_append_right (by omega)] at hy
   have h0:i - zs.length=0:=by
    cases hd:i - zs.length with
    | zero=>rfl
    | succ k=>rw [hd] at hy;cases hy
   rw [h0] at hy;cases hy
   rw [show i=n by omega];exact hq
theorem row_of {w:World} {n:Nat} (leaf:∀ (u:TypeId) (v:Value) (c:CK) (m:Nat) (y:DataW H × List MemPlace),kind1 P u=some c→lts P 8 u=some [u]→DataW.trod enc P w 0 (fun _=>true) true m u [v]=some y→∃ l,v=Lf.enc l∧(∃ x,c.un l=some x)∧LeafOk P w n u l)
  {ts:List TypeId} {ks:Ks} {cs:List Value} (hk:ts.map (kind1 P)=ks.map some) (hsame:∀ (i:Nat) (u:TypeId),ts[i]?=some u→lts P 8 u=some [u]) (hl:ts.length=cs.length) (hc:∀ (i:Nat) (u:TypeId) (v:Value),ts[i]?=some u→cs[i]?=some v→∃ m y,DataW.trod enc P w 0 (fun _=>true) true m u [v]=some y) :
  ∃ z:Ks.T ks,cs=(Ks.mk ks z).map Lf.enc∧∀ (i:Nat) (u:TypeId) (l:Lf),ts[i]?=some u→(Ks.mk ks z)[i]?=some l→LeafOk P w n u l:=by
 have hkl:ts.length=ks.length:=by have:=congrArg List.length hk;simpa using this
 have each:∀ i,i < cs.length→∃ l:Lf,(∀ v,cs[i]?=some v→v=l.enc)∧(∀ c,ks[i]?=some c→∃ x,c.un l=some x)∧∀ u,ts[i]?=some u→LeafOk P w n u l:=by
  intro i hi
  have hti:ts[i]?=some ts[i]:=List.getElem?_eq_getElem (by omega)
  have hci:cs[i]?=some cs[i]:=List.getElem?_eq_getElem hi
  have hki:ks[i]?=some ks[i]:=List.getElem?_eq_getElem (by omega)
  obtain ⟨m,y,hy⟩:=hc i _ _ hti hci
  have hk1:kind1 P ts[i]=some ks[i]:=by
   have:=congrArg (fun z=>z[i]?) hk
   simp only [List.getElem?_map,hti,hki,Option.map_some,Option.some.injEq] at this
   exact this
  obtain ⟨l,h1,h2,h3⟩:=leaf _ _ _ m y hk1 (hsame i _ hti) hy
  exact ⟨l,fun v hv=>by rw [hci] at hv;cases hv;exact h1,fun c hc=>by rw [hki] at hc;cases hc;exact h2,fun u hu=>by rw [hti] at hu;cases hu;exact h3⟩
 obtain ⟨ls,hll,hls⟩:=list_of cs.length each
 obtain ⟨z,hz⟩:=un_all (ks:=ks) (ls:=ls) (by omega) fun i c l hc hl=>(hls i l hl).2.1 c hc
 have hmk:=Ks.un_some hz
 refine ⟨z,?_,fun i u l hu hl=>?_⟩
 ·rw [hmk]
  apply List.ext_getElem?
  intro i
  rw [List.getElem?_map]
  by_cases hi:i < cs.length
  ·rw [List.getElem?_eq_getElem hi,List.getElem?_eq_getElem (by omega:i < ls.length)]
   rw [(hls i _ (List.getElem?_eq_getElem (by omega))).1 _ (List.getElem?_eq_getElem hi)];rfl
  ·rw [List.getElem?_eq_none (by omega),List.getElem?_eq_none (by omega)];rfl
 ·rw [hmk] at hl
  exact (hls i l hl).2.2 u hu
theorem lts_lts:∀ (d:Nat) {t:TypeId} {ts:List TypeId},lts P d t=some ts→∀ (i:Nat) (u:TypeId),ts[i]?=some u→lts P 8 u=some [u]
 | 0,t,ts,h,_,_,_=>by cases h
 | d+1,t,ts,h,i,u,hi=>by
  have one:ts=[t]→lts P 8 t=some [t]→lts P 8 u=some [u]:=fun h1 h2=>by
   rw [h1] at hi
   cases i with
   | zero=>cases hi;exact h2
   | succ i=>cases hi
  simp only [lts] at h
  split at h
  ·obtain ⟨hc,_⟩:=okLen_some h
   obtain ⟨f,_,a,ha,_,_,_,e4⟩:=catL_at hc hi
   exact lts_lts d ha _ _ e4
  ·split at h
   ·rename_i a ha
    obtain ⟨ha,_⟩:=okLen_some ha
    obtain ⟨h1,_⟩:=okLen_some h
    cases h1
    exact lts_lts d ha _ _ (rep_at a _ i u hi).2
   ·cases h
  ·rename_i hu;cases h;exact one rfl (by simp only [lts,hu])
  ·rename_i hu;cases h;exact one rfl (by simp only [lts,hu])
  ·rename_i hu;cases h;exact one rfl (by simp only [lts,hu])
  ·rename_i hu
   split at h
   ·cases h
   ·rename_i hb;cases h;exact one rfl (by simp only [lts,hu,hb])
  ·cases h
theorem sl_of {w:World} {u e:TypeId} {v:Value} {m:Nat} {y:DataW H × List MemPlace} (hu:P.underlying u=some (.slice e)) (hpos:P.cellsOf e≠0) (hy:DataW.trod enc P w 0 (fun _=>true) true m u [v]=some y) :
  ∃ s:Sl,v=(Lf.sl s).enc∧(s.len≤maxLen∧s.len≤s.cap)∧(s.p=none→s.len=0)∧∀ i,i < s.len→∃ (cs:List Value) (k:Nat) (x:DataW H × List MemPlace) (q:Pt),DataW.trod enc P w 0 (fun _=>true) true k e cs=some x∧cs.length=P.cellsOf e∧s.p=some q ∧
   ∀ r,r < P.cellsOf e→w.cell? ⟨q.b,q.o+i * P.cellsOf e+r,none⟩=cs[r]?:=by
 rcases DataW.trod_slice hu hy with ⟨hb,_⟩ | ⟨a,len,cap,elems,rest,n,_,hb,_,_,hle,hcm,hel,h1,h2,_⟩
 ·cases hb;exact ⟨⟨none,0,0⟩,rfl,⟨by simp,by simp⟩,fun _=>rfl,fun i hi=>absurd hi (by simp)⟩
 ·cases hb
  cases hsp:a.spot with
  | none =>
   have ha:a=⟨a.block,a.off,none⟩:=by cases a;simp only at hsp;rw [hsp]
   refine ⟨⟨some ⟨a.block,a.off⟩,len,cap⟩,?_,⟨by show len≤maxLen;omega,hle⟩,fun h=>(by cases h),fun i hi=>?_⟩
   ·show _=Value.slice (some ⟨a.block,a.off,none⟩) len cap
    rw [← ha]
   ·have hi:i < len:=hi
    have:=h1 i hi
    rw [List.getElem?_eq_getElem (by omega)] at this
    obtain ⟨z,hz,hz2⟩:=Option.bind_eq_some_iff.1 this
    obtain ⟨_,hzl,hzc⟩:=World.cells?_some hz
    refine ⟨z,_,_,⟨a.block,a.off⟩,hz2,hzl,rfl,fun r hr=>?_⟩
    have h5:=hzc r hr
    rw [ha,add_eq,add_eq] at h5
    exact h5
  | some k =>
   have hcap:cap=0:=by
    rcases Nat.eq_zero_or_pos cap with h0 | h0
    ·exact h0
    ·exfalso
     have:∃ z,w.cells? 0 (a.add 0) (P.cellsOf e)=some z:=by
      by_cases hl0:0 < len
      ·have:=h1 0 hl0
       rw [List.getElem?_eq_getElem (by omega)] at this
       obtain ⟨z,hz,_⟩:=Option.bind_eq_some_iff.1 this
       exact ⟨z,by simpa using hz⟩
      ·obtain ⟨h3,h4⟩:=h2 rfl
       have:=h4 0 (by omega)
       rw [List.getElem?_eq_getElem (by omega)] at this
       obtain ⟨z,hz,_⟩:=Option.bind_eq_some_iff.1 this
       rw [show len+0=0 by omega] at hz
       exact ⟨z,by simpa using hz⟩
     obtain ⟨z,hz⟩:=this
     obtain ⟨_,hzl,hzc⟩:=World.cells?_some hz
     have h5:=hzc 0 (by omega)
     rw [List.getElem?_eq_getElem (by omega)] at h5
     have:=World.cell?_spot h5
     simp [Addr.add,hsp] at this
   have hlen:len=0:=by omega
   obtain ⟨c,hc⟩:=oddA_hit a.block a.off k
   have ha:oddA c=a:=by rw [hc];cases a;simp only at hsp;rw [hsp]
   refine ⟨⟨none,0,c+1⟩,?_,⟨by simp,by simp⟩,fun _=>rfl,fun i hi=>absurd hi (by simp)⟩
   rw [hcap,hlen]
   show _=Value.slice (some (oddA (c+1 - 1))) 0 0
   rw [Nat.add_sub_cancel,ha]
theorem flat_mk {K:Ks} {zs:List (Ks.T K)} {w:World} {q:Pt} (h:∀ (i:Nat) (z:Ks.T K),zs[i]?=some z→∀ r,r < K.length→w.cell? ⟨q.b,q.o+i * K.length+r,none⟩=((Ks.mk K z)[r]?).map Lf.enc):Reads w q.b q.o (flat K zs):=by
 refine reads_of_cells fun i l hi=>?_
 have hil:=(List.getElem?_eq_some_iff.1 hi).1
 rw [flat_len] at hil
 have hpos:0 < K.length:=by
  rcases Nat.eq_zero_or_pos K.length with h0 | h0
  ·rw [h0,Nat.mul_zero] at hil;omega
  ·exact h0
 have hj:i / K.length < zs.length:=(Nat.div_lt_iff_lt_mul hpos).2 hil
 have hr:i % K.length < K.length:=Nat.mod_lt _ hpos
 have e:i / K.length * K.length+i % K.length=i:=by
  have:=Nat.div_add_mod i K.length
  rwa [Nat.mul_comm] at this
 have hz:zs[i / K.length]?=some zs[i / K.length]:=List.getElem?_eq_getElem hj
 have h1:=h _ _ hz _ hr
 have h2:=flat_cell K zs _ _ hz _ hr
 rw [e] at h2
 rw [← h2,hi] at h1
 rw [show q.o+i=q.o+i / K.length * K.length+i % K.length by omega]
 exact h1
theorem leaf_of {w:World}:∀ (n:Nat) (u:TypeId) (v:Value) (c:CK) (m:Nat) (y:DataW H × List MemPlace),kind1 P u=some c→lts P 8 u=some [u]→DataW.trod enc P w 0 (fun _=>true) true m u [v]=some y→∃ l,v=Lf.enc l∧(∃ x,c.un l=some x)∧LeafOk P w n u l:=by
 intro n
 induction n with
 | zero =>
  intro u v c m y hk hl hy
  simp only [lts] at hl
  simp only [kind1] at hk
  split at hl
  ·rename_i hu;rw [hu] at hk;cases hk
  ·rename_i hu;rw [hu] at hk;cases hk
  ·rename_i hu
   obtain ⟨b,hb,_⟩:=DataW.trod_bool hu hy
   cases hb;rw [hu] at hk;cases hk
   exact ⟨.bool b,rfl,⟨b,rfl⟩,trivial⟩
  ·rename_i hu
   obtain ⟨b,hb,_⟩:=DataW.trod_int hu hy
   cases hb;rw [hu] at hk;cases hk
   exact ⟨.int _ b,rfl,⟨b,by simp [CK.un]⟩,trivial⟩
  ·rename_i hu
   obtain ⟨b,hb,_⟩:=DataW.trod_string hu hy
   cases hb;rw [hu] at hk;cases hk
   exact ⟨.str b,rfl,⟨b,rfl⟩,trivial⟩
  ·rename_i e hu
   rw [hu] at hk;cases hk
   split at hl
   ·cases hl
   ·rename_i hb
    obtain ⟨s,hs,_⟩:=sl_of hu (fun h=>by rw [h] at hb;cases hb) hy
    exact ⟨.sl s,hs,⟨s,rfl⟩,trivial⟩
  ·cases hl
 | succ n ih =>
  intro u v c m y hk hl hy
  simp only [lts] at hl
  simp only [kind1] at hk
  split at hl
  ·rename_i hu;rw [hu] at hk;cases hk
  ·rename_i hu;rw [hu] at hk;cases hk
  ·rename_i hu
   obtain ⟨b,hb,_⟩:=DataW.trod_bool hu hy
   cases hb;rw [hu] at hk;cases hk
   exact ⟨.bool b,rfl,⟨b,rfl⟩,trivial⟩
  ·rename_i hu
   obtain ⟨b,hb,_,hw⟩:=DataW.trod_int hu hy
   cases hb;rw [hu] at hk;cases hk
   exact ⟨.int _ b,rfl,⟨b,by simp [CK.un]⟩,hw⟩
  ·rename_i hu
   obtain ⟨b,hb,_,hw⟩:=DataW.trod_string hu hy
   cases hb;rw [hu] at hk;cases hk
   exact ⟨.str b,rfl,⟨b,rfl⟩,hw⟩
  ·rename_i e hu
   rw [hu] at hk;cases hk
   split at hl
   ·cases hl
   ·rename_i hb
    have hpos:P.cellsOf e≠0:=fun h=>by rw [h] at hb;cases hb
    obtain ⟨s,hs,hmax,hnil,hel⟩:=sl_of hu hpos hy
    refine ⟨.sl s,hs,⟨s,rfl⟩,hmax,fun e' ts ks hu' hts hks hkl _=>?_⟩
    rw [hu] at hu';cases hu'
    have each:∀ i,i < s.len→∃ z:Ks.T ks,(∀ q,s.p=some q→∀ r,r < ks.length→w.cell? ⟨q.b,q.o+i * ks.length+r,none⟩=((Ks.mk ks z)[r]?).map Lf.enc)∧∀ (i:Nat) (v:TypeId) (l:Lf),ts[i]?=some v→(Ks.mk ks z)[i]?=some l→LeafOk P w n v l:=by
     intro i hi
     obtain ⟨cs,k,x,q,h1,h2,h3,h4⟩:=hel i hi
     obtain ⟨h5,h6⟩:=lts_cells 8 hts h1
     obtain ⟨z,hz1,hz2⟩:=row_of (n:=n) ih hks (lts_lts 8 hts) h5 h6
     refine ⟨z,fun q' hq' r hr=>?_,hz2⟩
     rw [h3] at hq';cases hq'
     rw [hkl,h4 r (by omega),hz1,List.getElem?_map]
    obtain ⟨zs,hzl,hzs⟩:=list_of s.len each
    refine ⟨zs,⟨by rw [flat_len,hzl],hnil,fun q hq=>flat_mk fun i z hz r hr=>(hzs i z hz).1 q hq r hr⟩,hzl.symm,fun z hz=>?_⟩
    obtain ⟨i,hi⟩:=List.mem_iff_getElem?.1 hz
    exact (hzs i z hi).2
  ·cases hl
theorem rows_rd {W:World} {t e:TypeId} {v:Value} {d:DataW H} {p:List MemPlace} {ts:List TypeId} {ks:Ks} (n:Nat) (ht:P.underlying t=some (.slice e)) (hts:lts P 8 e=some ts) (hks:ts.map (kind1 P)=ks.map some) (hkl:ks.length=P.cellsOf e) (hne:ks≠[]) {r:Reach} {base:Nat}
  (hv:Value.okWide P W r base t v) (h:DataW.Trod enc P W 0 (fun _=>true) true t v d p) :
  ∃ (s:Sl) (zs:List (Ks.T ks)),v=(Lf.sl s).enc∧Nrm s∧SlRd W s ks.length (flat ks zs)∧s.len=zs.length∧zs.length≤maxLen∧∀ z∈zs,∀ (i:Nat) (u:TypeId) (l:Lf),ts[i]?=some u→(Ks.mk ks z)[i]?=some l→LeafOk P W n u l:=by
 obtain ⟨a0,len,cap,rfl⟩:=okWide_slice ht hv
 obtain ⟨fuel,hf⟩:=h
 have hf:DataW.trod enc P W 0 (fun _=>true) true fuel t [.slice a0 len cap]=some (d,p):=by simpa [Value.cells] using hf
 have hpos:P.cellsOf e≠0:=fun hh=>hne (List.eq_nil_of_length_eq_zero (by omega))
 have hl:lts P 8 t=some [t]:=by
  have:Nat.beq (P.cellsOf e) 0=false:=by
   cases hh:Nat.beq (P.cellsOf e) 0 with
   | false=>rfl
   | true=>exact absurd (Nat.eq_of_beq_eq_true hh) hpos
  simp only [lts,ht,this]
 obtain ⟨l,hl1,⟨s,hs⟩,hl2⟩:=leaf_of (n+1) t _ .sl fuel _ (by simp only [kind1,ht]) hl hf
 have hl0:l=.sl s:=by
  cases l with
  | sl s'=>simp only [CK.un,Option.some.injEq] at hs;rw [hs]
  | _=>simp [CK.un] at hs
 subst hl0
 obtain ⟨hm,hz⟩:=hl2
 obtain ⟨zs,h1,h2,h3⟩:=hz e ts ks ht hts hks hkl hne
 refine ⟨s,zs,hl1,?_,h1,h2,by omega,h3⟩
 have hsp:∀ a,a0=some a→a.spot=none:=fun a ha=>by subst ha;exact spot_none ht hv
 have hodd:s.odd=false:=by
  cases ho:s.odd with
  | false=>rfl
  | true =>
   have he:(Lf.sl s).enc=.slice (some (oddA (s.cap - 1))) 0 0:=by show s.enc=_;unfold Sl.enc;rw [ho]
   rw [he] at hl1
   cases hl1
   have:=hsp _ rfl
   simp [oddA] at this
 refine ⟨hodd,fun hc hp=>?_⟩
 have he:(Lf.sl s).enc=.slice none s.len s.cap:=by show s.enc=_;rw [Sl.enc_n hodd,hp];rfl
 rw [he] at hl1
 cases hl1
 rcases DataW.trod_slice ht hf with ⟨hb,_⟩ | ⟨_,_,_,_,_,_,_,hb,_⟩
 ·simp at hb;exact hc hb.2
 ·simp at hb
theorem cap_rd {W:World} {t e:TypeId} {s:Sl} (ht:P.underlying t=some (.slice e)) (hn:Nrm s) {r:Reach} {base:Nat} (hv:Value.okWide P W r base t (Lf.sl s).enc):s.len≤s.cap:=by
 have he:(Lf.sl s).enc=.slice (s.p.map Pt.addr) s.len s.cap:=Sl.enc_n hn.1
 rw [he] at hv
 cases hp:s.p with
 | none =>
  rw [hp] at hv
  obtain ⟨l,c,hlc⟩:∃ l c,l=s.len∧c=s.cap:=⟨_,_,rfl,rfl⟩
  rw [← hlc.1,← hlc.2] at hv ⊢
  simp only [Value.okWide,ht,Cell.okWide,Cell.ok,Option.map_none] at hv
  cases l with
  | zero=>exact Nat.zero_le _
  | succ l=>simp at hv
 | some q =>
  rw [hp] at hv
  simp only [Value.okWide,ht,Cell.okWide,Cell.ok,Option.map_some] at hv
  exact hv.1
theorem row_rd {W:World} {t:TypeId} {v:Value} {d:DataW H} {p:List MemPlace} {ts:List TypeId} {ks:Ks} (n:Nat) (ht:isAggT P t=true) (hts:lts P 8 t=some ts) (hks:ts.map (kind1 P)=ks.map some) {r:Reach} {base:Nat}
  (hv:Value.okWide P W r base t v) (h:DataW.Trod enc P W 0 (fun _=>true) true t v d p) :
  ∃ z:Ks.T ks,v=(V1.agg (Ks.mk ks z)).enc∧∀ (i:Nat) (u:TypeId) (l:Lf),ts[i]?=some u→(Ks.mk ks z)[i]?=some l→LeafOk P W n u l:=by
 have hagg:∃ cs,v=.agg cs:=by
  unfold Value.okWide at hv
  unfold isAggT at ht
  split at hv
  ·obtain ⟨cs,h,_⟩:=hv;exact ⟨cs,h⟩
  ·obtain ⟨cs,h,_⟩:=hv;exact ⟨cs,h⟩
  ·rename_i h1 h2
   split at ht
   ·rename_i hu;exact absurd hu (h1 _)
   ·rename_i hu;exact absurd hu (h2 _ _)
   ·cases ht
 obtain ⟨cs,rfl⟩:=hagg
 obtain ⟨fuel,hf⟩:=h
 have hf:DataW.trod enc P W 0 (fun _=>true) true fuel t cs.toList=some (d,p):=hf
 obtain ⟨h5,h6⟩:=lts_cells 8 hts hf
 obtain ⟨z,hz1,hz2⟩:=row_of (n:=n) (leaf_of n) hks (lts_lts 8 hts) h5 h6
 refine ⟨z,?_,hz2⟩
 show _=Value.agg _
 rw [← hz1]
def rowOk (ls:List Lf):Prop:=∀ l∈ls,match l with | .int k m=>(Lit.int k m).wf=true | .str s=>s.size≤maxLen | _=>True
theorem rowOk_of {W:World} {n:Nat} {ts:List TypeId} {ls:List Lf} (h:∀ (i:Nat) (u:TypeId) (l:Lf),ts[i]?=some u→ls[i]?=some l→LeafOk P W (n+1) u l) (hl:ls.length=ts.length):rowOk ls:=by
 intro l hm
 obtain ⟨i,hi⟩:=List.mem_iff_getElem?.1 hm
 have hil:=(List.getElem?_eq_some_iff.1 hi).1
 have:=h i ts[i] l (List.getElem?_eq_getElem (by omega)) hi
 cases l with
 | int k m=>exact this
 | str s=>exact this
 | _=>trivial
def ReadOk (A:SP) (w:World):Prop:=∃ R:Nat→Prop,A.h w (fun _=>False) R
theorem readOk_emp {w:World}:ReadOk emp w:=⟨fun _=>False,fun _ h=>h,fun _ h=>h⟩
theorem readOk_rarr {w:World} {s:Sl} {K:Ks} {zs:List (Ks.T K)} (h:SlRd w s K.length (flat K zs)) (hl:s.len=zs.length):ReadOk (rarr s K zs) w:=⟨_,⟨h,hl⟩,fun _ h=>h,fun _=>Iff.rfl⟩
theorem readOk_star {A B:SP} {w:World} (h:ReadOk A w) (k:ReadOk B w):ReadOk (A^B) w:=by
 obtain ⟨R1,h1⟩:=h
 obtain ⟨R2,h2⟩:=k
 exact ⟨fun k=>R1 k∨R2 k,fun _=>False,R1,fun _=>False,R2,h1,h2,fun k=>by simp,fun _=>Iff.rfl,fun _ h=>h.elim,fun _ h=>h.elim,fun _ _ h=>h⟩
theorem readOk_rl {α:Type} {f:α→SP} {w:World}:∀ {l:List α},(∀ x∈l,ReadOk (f x) w)→ReadOk (rl f l) w
 | [],_=>readOk_emp
 | x :: l,h=>readOk_star (h x (by simp)) (readOk_rl fun y hy=>h y (by simp [hy]))
theorem nest_rd {W:World} {n:Nat} {ts ts':List TypeId} {ks ks':Ks} {u e:TypeId} (j:Nat) (sel:Ks.T ks→Sl) (hsel:∀ z:Ks.T ks,(Ks.mk ks z)[j]?=some (.sl (sel z))) (hj:ts[j]?=some u) (hu:P.underlying u=some (.slice e)) (hts:lts P 8 e=some ts') (hks:ts'.map (kind1 P)=ks'.map some) (hkl:ks'.length=P.cellsOf e) (hne:ks'≠[])
  {zs:List (Ks.T ks)} (h:∀ z∈zs,∀ (i:Nat) (u:TypeId) (l:Lf),ts[i]?=some u→(Ks.mk ks z)[i]?=some l→LeafOk P W (n+2) u l) (hl:ks.length=ts.length) :
  ∃ ps:List (Ks.T ks × List (Ks.T ks')),ps.map Prod.fst=zs∧∀ p∈ps,rowOk (Ks.mk ks p.1)∧SlRd W (sel p.1) ks'.length (flat ks' p.2)∧(sel p.1).len=p.2.length∧p.2.length≤maxLen∧(∀ y∈p.2,rowOk (Ks.mk ks' y))∧(sel p.1).len≤(sel p.1).cap:=by
 obtain ⟨ps,hpl,hps⟩:=list_of (Q:=fun i (p:Ks.T ks × List (Ks.T ks'))=>(∀ z,zs[i]?=some z→p.1=z)∧rowOk (Ks.mk ks p.1)∧SlRd W (sel p.1) ks'.length (flat ks' p.2)∧(sel p.1).len=p.2.length∧p.2.length≤maxLen∧(∀ y∈p.2,rowOk (Ks.mk ks' y))∧(sel p.1).len≤(sel p.1).cap) zs.length (fun i hi=>by
  have hz:zs[i]?=some zs[i]:=List.getElem?_eq_getElem hi
  have hd:=h _ (List.getElem_mem hi)
  have hk:=hd j u _ hj (hsel _)
  obtain ⟨hm,hk⟩:=hk
  obtain ⟨ys,h1,h2,h3⟩:=hk e ts' ks' hu hts hks hkl hne
  have hl2:ts'.length=ks'.length:=by have:=congrArg List.length hks;simpa using this
  exact ⟨(zs[i],ys),fun z hz'=>by rw [hz] at hz';cases hz';rfl,rowOk_of hd (by rw [Ks.len];exact hl),h1,h2,by rw [← h2];exact hm.1,fun y hy=>rowOk_of (h3 y hy) (by rw [Ks.len];exact hl2.symm),hm.2⟩)
 refine ⟨ps,?_,fun p hp=>?_⟩
 ·apply List.ext_getElem?
  intro i
  rw [List.getElem?_map]
  by_cases hi:i < zs.length
  ·rw [List.getElem?_eq_getElem hi,List.getElem?_eq_getElem (by omega:i < ps.length)]
   have:=(hps i _ (List.getElem?_eq_getElem (by omega))).1 _ (List.getElem?_eq_getElem hi)
   simp [this]
  ·rw [List.getElem?_eq_none (by omega),List.getElem?_eq_none (by omega)];rfl
 ·obtain ⟨i,hi⟩:=List.mem_iff_getElem?.1 hp
  exact (hps i p hi).2
def kindsOf (P:Program) (fn:Func) (c:OpenClaim):List (Option IntKind):=if c.domain.isEmpty then [] else fn.params.toList.map fun t=>match P.underlying t with | some (.int k)=>some k | _=>none
theorem joined_of {P:Program} {f:FuncId} {fn:Func} {s:ChangeSpec} {c:OpenClaim}
  (h1:c.wf (OpenSpec.ofChange s)=true) (h2:laidOutB P=true) (h3:mapsRowed P=true)
  (h4:(fn.params.all (P.readableRec ·) && (namedTie P c.named s.vars && ((c.stops == []) && ((P.stops == []) && ((c.knobs == []) && (P.stopKnobs == []))))))=true)
  (h5:(c.inPlace == P.inPlace f)=true) (h6:(c.unfollowed == P.unfollowed f)=true) (h7:(c.recurses == P.recurses f)=true) (h8:(c.named == P.varsNamed f)=true)
  (h9:((c.maps == (fn.params.toList++s.plain.varTypes P).any (P.mapsRec ·)) && ((c.ifaces == (fn.params.toList++s.plain.varTypes P).any (P.ifacesRec ·)) && ((c.mapsOut == P.mapsAmong fn.resultTypes.toList) && ((c.loops == (fn.params.toList++s.plain.varTypes P).any (P.loopsFrom ·)) && (c.wideKeys == (fn.params.toList++s.plain.varTypes P++fn.resultTypes.toList).any (P.wideKeysFrom ·))))))=true)
  (h10:(s.vars.all (P.varReadable ·) && (fn.resultTypes.all (fun t=>P.readableRec t && decide (t < P.types.size)) && ((c.ifacesOut == fn.resultTypes.toList.any (P.ifacesRec ·)) && ((c.loopsOut == fn.resultTypes.toList.any (P.loopsFrom ·)) && ((c.plainKeys == P.plainKeys) && c.shortTexts.isNone)))))=true)
  (h11:P.stopsHeard=true) (h12:P.mayEnter=true)
  (h13:((c.lifted == P.liftsFinal) && ((P.make == some c.make) && ((c.kinds == kindsOf P fn c) && (c.pinned == c.pinnedBy))))=true)
  (h14:((c.veiled == (fn.params.toList++s.plain.varTypes P++fn.resultTypes.toList).any (P.veiledRec ·)) && c.veiledFits P fn.params.toList (fn.params.toList++s.plain.varTypes P++fn.resultTypes.toList))=true) :
  joinedFacts P f fn s c=true:=by
 unfold joinedFacts
 rw [Bool.and_eq_true] at h14
 simp only [Bool.and_eq_true] at h4 h9 h10 h13
 obtain ⟨a1,a2,a3,a4,a5,a6⟩:=h4
 obtain ⟨b1,b2,b3,b4,b5⟩:=h9
 obtain ⟨c1,c2,c3,c4,c5,c6⟩:=h10
 obtain ⟨d1,d2,d3,d4⟩:=h13
 rw [h1,h2,h3,a1,a2,a3,a4,a5,a6,h5,h6,h7,h8,b1,b2,b3,b4,b5,c1,c2,c3,c4,c5,c6,h11,h12,d1,d2]
 simp only [Bool.true_and,Bool.and_eq_true]
 exact ⟨⟨⟨d3,d4⟩,h14.1⟩,h14.2⟩
theorem law_read {f:FuncId} {args:List V1} {A:SP} {w:World} (t:Tri P f args [.lf .bool] A (fun r=>pur (r=true) emp)) (h:ReadOk A w) (he:ent P f=true:=by kernel_rfl) :
  Calls P f (args.map V1.enc).toArray w fun e w'=>e=.returned (.bool true)∧RowKit.Below w.heap.size w w':=by
 obtain ⟨R,h⟩:=h
 exact law_of t h he
end
end Go.X

