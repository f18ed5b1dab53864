/- A verified reading of Go code as a weakest precondition, and a logic of separate parts over it. -/
import Derived.Test.YtkideobegadadaaGreatA0
set_option linter.unusedVariables false
set_option linter.unusedSimpArgs false
set_option linter.unusedSectionVars false
namespace Go.X
variable {P : Program}
theorem makeSlice_run {w:World} {t el:TypeId} {z:List Lf} {n m:Int} {k1 k2:IntKind} (hu:P.underlying t=some (.slice el)) (hz:zeroLs P el=some z) (hzl:z.length=P.cellsOf el) (hpos:P.cellsOf el≠0) (hby:P.bytesOf el≤4096)
  (h:0≤n∧n≤m∧m≤4294967296) :
  (Instr.makeSlice t (.int k1 n) (.int k2 m)).run P w=.ok (Lf.sl ⟨some ⟨w.heap.size,0⟩,n.toNat,m.toNat⟩).enc { w with heap:=w.heap.push (.cells ((rep m.toNat z).map Lf.enc).toArray el) }:=by
 have e1:IntKind.i64.wrap n=n:=by simp [IntKind.wrap,IntKind.bits,IntKind.signed];omega
 have e2:IntKind.i64.wrap m=m:=by simp [IntKind.wrap,IntKind.bits,IntKind.signed];omega
 obtain ⟨i,hi⟩:∃ i,P.info? el=some i:=by
  unfold Program.cellsOf at hpos
  cases hh:P.info? el with
  | none=>rw [hh] at hpos;simp at hpos
  | some i=>exact ⟨i,rfl⟩
 have hb:i.bytes=P.bytesOf el:=by simp [Program.bytesOf,hi]
 obtain ⟨zv,hzv,hzc⟩:=zero_run hz w
 have hbig:(i.bytes:Int) * m≤4096 * 4294967296:=by
  have h1:(i.bytes:Int)≤4096:=by omega
  exact Int.mul_le_mul h1 h.2.2 (by omega) (by omega)
 have hc:(decide (m < 0) || decide ((i.bytes:Int) * m > 2^48) || decide (n < 0) || decide (n > m))=false:=by
  simp only [Bool.or_eq_false_iff,decide_eq_false_iff_not]
  have:(4096 * 4294967296:Int)≤2^48:=by decide
  refine ⟨⟨⟨by omega,by omega⟩,by omega⟩,by omega⟩
 simp only [Instr.makeSlice,Sem.run_bind,run_underlying hu,Result.andThen_ok,asInt,asIntOf,Sem.run_pure,typeInfo,run_program,hi,e1,e2]
 rw [hc]
 simp only [Bool.false_eq_true,if_false,Sem.run_bind,run_askRoom,Result.andThen_ok,cells_info hpos,Sem.run_ite]
 by_cases h0:m.toNat * P.cellsOf el=0
 ·have hm:m.toNat=0:=by rcases Nat.mul_eq_zero.1 h0 with h | h;exact h;exact absurd h hpos
  have e0:∀ f:Nat→Value,Array.map f (Array.range 0)=#[]:=fun f=>by rw [arr_map];simp
  simp [hm,newRow,Lf.enc,Sl.enc_some,Pt.addr,rep,e0]
 ·rw [if_neg h0]
  simp only [hzv,Result.andThen_ok,Sem.run_pure,Sem.run_bind,newRow,run_newObj,hzc]
  simp only [List.size_toArray,List.length_map,hzl]
  rw [zeroCells_eq hzl (by omega)]
  rfl
theorem bound_run {x:Int} {k:IntKind} {y n:Nat} {code:BoundsCode} {w:World} (h:x=n) (hle:n≤y):(Instr.sliceBound (.int k x) y code).run P w=.ok n w:=by
 subst h
 simp [Instr.sliceBound,asIntOf,hle]
def OptOk:Option Int→Option Value→Prop
 | none,none=>True
 | some n,some v=>∃ k,v=.int k n
 | _,_=>False
theorem bounds_run {w:World} {bb:Bool} {len cap:Nat} {lo hi mx:Option Int} {vl vh vm:Option Value} {l h m:Nat}
  (el1:OptOk lo vl) (el2:OptOk hi vh) (el3:OptOk mx vm) (hmh:mx.isSome=true→hi.isSome=true)
  (b1:bnd lo 0 l) (b2:bnd hi len h) (b3:bnd mx cap m) (hlh:l≤h) (hhm:h≤m) (hmc:m≤cap) :
  (Instr.sliceBounds bb len cap vl vh vm).run P w=.ok (l,h,m) w:=by
 unfold Instr.sliceBounds
 cases mx with
 | none =>
  cases vm with
  | some v=>exact el3.elim
  | none =>
   simp only [bnd] at b3
   subst b3
   cases hi with
   | none =>
    cases vh with
    | some v=>exact el2.elim
    | none =>
     simp only [bnd] at b2
     subst b2
     cases lo with
     | none=>cases vl with
      | some v=>exact el1.elim
      | none=>simp only [bnd] at b1;subst b1;simp
     | some n=>cases vl with
      | none=>exact el1.elim
      | some v=>obtain ⟨k,rfl⟩:=el1;simp [bound_run b1 hlh]
   | some n2 =>
    cases vh with
    | none=>exact el2.elim
    | some v2 =>
     obtain ⟨k2,rfl⟩:=el2
     cases lo with
     | none=>cases vl with
      | some v=>exact el1.elim
      | none=>simp only [bnd] at b1;subst b1;simp [bound_run b2 hhm]
     | some n=>cases vl with
      | none=>exact el1.elim
      | some v=>obtain ⟨k,rfl⟩:=el1;simp [bound_run b1 hlh,bound_run b2 hhm]
 | some n3 =>
  cases vm with
  | none=>exact el3.elim
  | some v3 =>
   obtain ⟨k3,rfl⟩:=el3
   cases hi with
   | none=>exact absurd (hmh rfl) (by simp)
   | some n2 =>
    cases vh with
    | none=>exact el2.elim
    | some v2 =>
     obtain ⟨k2,rfl⟩:=el2
     cases lo with
     | none=>cases vl with
      | some v=>exact el1.elim
      | none=>simp only [bnd] at b1;subst b1;simp [bound_run b2 hhm,bound_run b3 hmc]
     | some n=>cases vl with
      | none=>exact el1.elim
      | some v=>obtain ⟨k,rfl⟩:=el1;simp [bound_run b1 hlh,bound_run b2 hhm,bound_run b3 hmc]
theorem slice_run {w:World} {t el:TypeId} {s:Sl} {lo hi mx:Option Int} {vl vh vm:Option Value} {l h m:Nat} (hu:P.underlying t=some (.slice el)) (hsz:P.cellsOf el≠0)
  (el1:OptOk lo vl) (el2:OptOk hi vh) (el3:OptOk mx vm) (hmh:mx.isSome=true→hi.isSome=true)
  (hodd:s.odd=false) (hnz:s.cap≠0→s.p≠none) (b1:bnd lo 0 l) (b2:bnd hi s.len h) (b3:bnd mx s.cap m) (hb:l≤h∧h≤m∧m≤s.cap) :
  (Instr.sliceAt t (Lf.sl s).enc vl vh vm).run P w=.ok (Lf.sl (s.sub l h m (P.cellsOf el))).enc w:=by
 obtain ⟨hlh,hhm,hmc⟩:=hb
 have hbounds:(Instr.sliceBounds true s.len s.cap vl vh vm).run P w=.ok (l,h,m) w:=bounds_run el1 el2 el3 hmh b1 b2 b3 hlh hhm hmc
 unfold Instr.sliceAt
 have hsub:(s.sub l h m (P.cellsOf el)).odd=false:=by
  cases hp:s.p with
  | none =>
   have hc:s.cap=0∨s.len≠0:=by
    rw [Sl.odd,hp] at hodd
    by_cases h1:s.cap=0
    ·exact .inl h1
    ·refine .inr fun h2=>?_
     rw [h2] at hodd
     cases hh:s.cap with
     | zero=>exact h1 hh
     | succ k=>rw [hh] at hodd;cases hodd
   have hm0:m=0∨s.len≠0:=by omega
   rcases Nat.eq_zero_or_pos (m - l) with h0 | h0
   ·exact Sl.norm_c (s:=s.sub l h m _) h0
   ·exact absurd hp (hnz (by omega))
  | some q =>
   by_cases hml:m=l
   ·exact Sl.norm_p (q:=q) (by simp [Sl.sub,hml,hp])
   ·exact Sl.norm_p (q:=⟨q.b,q.o+l * P.cellsOf el⟩) (by simp [Sl.sub,hml,hp])
 simp only [Lf.enc,Sl.enc_n hodd,Sl.enc_n hsub,Sem.run_bind,run_underlying hu,Result.andThen_ok,Instr.slice,hbounds,cells_info hsz,Sem.run_pure]
 unfold Sl.sub
 by_cases hml:m=l
 ·simp [hml]
 ·simp only [if_neg hml]
  cases s.p with
  | none=>simp
  | some q=>simp [add_eq,Pt.addr]
theorem arrslice_run {w:World} {t el:TypeId} {n:Nat} {p:Pt} {lo hi mx:Option Int} {vl vh vm:Option Value} {l h m:Nat} (hu:P.underlying t=some (.array n el)) (hsz:P.cellsOf el≠0)
  (el1:OptOk lo vl) (el2:OptOk hi vh) (el3:OptOk mx vm) (hmh:mx.isSome=true→hi.isSome=true)
  (b1:bnd lo 0 l) (b2:bnd hi n h) (b3:bnd mx n m) (hb:l≤h∧h≤m∧m≤n) :
  (Instr.sliceAt t (Lf.ptr (some p)).enc vl vh vm).run P w=.ok (Lf.sl ((⟨some p,n,n⟩:Sl).sub l h m (P.cellsOf el))).enc w:=by
 obtain ⟨hlh,hhm,hmc⟩:=hb
 have hbounds:(Instr.sliceBounds false n n vl vh vm).run P w=.ok (l,h,m) w:=bounds_run el1 el2 el3 hmh b1 b2 b3 hlh hhm hmc
 unfold Instr.sliceAt
 simp only [Lf.enc,Option.map_some,Sem.run_bind,run_underlying hu,Result.andThen_ok,Instr.sureAddr,Sem.run_pure,hbounds,cells_info hsz]
 unfold Sl.sub
 by_cases hml:m=l
 ·simp [hml,Sl.enc_some]
 ·simp [hml,Sl.enc_some,add_eq,Pt.addr]
theorem strT_ok {t:TypeId} (h:strT P t=true):P.underlying t=some .string:=by
 unfold strT at h;split at h
 ·assumption
 ·cases h
theorem bytesT_ok {t:TypeId} (h:bytesT P t=true):∃ e,P.underlying t=some (.slice e)∧P.underlying e=some (.int .u8):=by
 unfold bytesT at h;split at h
 ·rename_i e he
  split at h
  ·exact ⟨e,he,by assumption⟩
  ·cases h
 ·cases h
theorem sslice_run {w:World} {t:TypeId} {s:ByteArray} {lo hi:Option Int} {vl vh vm:Option Value} {l h:Nat} (hu:P.underlying t=some .string)
  (el1:OptOk lo vl) (el2:OptOk hi vh) (el3:OptOk none vm) (b1:bnd lo 0 l) (b2:bnd hi s.size h) (hb:l≤h∧h≤s.size) :
  (Instr.sliceAt t (.string s) vl vh vm).run P w=.ok (.string (s.extract l h)) w:=by
 have hbounds:(Instr.sliceBounds false s.size s.size vl vh none).run P w=.ok (l,h,s.size) w:=bounds_run (mx:=none) el1 el2 trivial (fun hh=>by cases hh) b1 b2 rfl hb.1 hb.2 (Nat.le_refl _)
 have hvm:vm=none:=by cases vm with
  | none=>rfl
  | some v=>exact el3.elim
 subst hvm
 unfold Instr.sliceAt Instr.slice
 simp only [Sem.run_bind,run_underlying hu,Result.andThen_ok,Option.isSome_none,Bool.false_eq_true,if_false,Sem.run_pure,hbounds]
theorem bstr_run {w:World} {src dst e:TypeId} {s:Sl} {l:List UInt8} (hs:P.underlying src=some (.slice e)) (he:P.underlying e=some (.int .u8)) (hd:P.underlying dst=some .string) (h:SlRd w s 1 (bLs l)) (hl:s.len=l.length) :
  (convert src dst (Lf.sl s).enc).run P w=.ok (.string ⟨l.toArray⟩) w:=by
 obtain ⟨h1,h2,h3⟩:=h
 have nil:l=[]→∀ a c,(convert src dst (.slice a 0 c)).run P w=.ok (.string ⟨l.toArray⟩) w:=by
  intro e0 a c
  subst e0
  cases a with
  | none=>rw [run_convert_bytes_string w src dst e none 0 c hs he hd];rfl
  | some a=>exact run_convert_bytes_back w src dst e a c [] hs he hd (fun j hj=>absurd hj (by simp))
 cases hp:s.p with
 | none =>
  have h0:=h2 hp
  obtain ⟨a,c,hx,_⟩:=s.enc_len
  show (convert src dst s.enc).run P w=_
  rw [hx,h0]
  exact nil (List.eq_nil_of_length_eq_zero (by omega)) a c
 | some q =>
  show (convert src dst s.enc).run P w=_
  rw [Sl.enc_p hp,hl]
  refine run_convert_bytes_back w src dst e q.addr s.cap l hs he hd fun j hj=>?_
  have hr:=reads_cells (h3 q hp) j (.int .u8 (l[j].toNat:Int)) (by simp [bLs,Lf.enc,hj])
  exact hr
theorem clear_run {w:World} {ts:Array TypeId} {t ty el:TypeId} {z:List Lf} {s:Sl} {A:WP} (h0:ts[0]?=some ty) (hu:P.underlying ty=some (.slice el)) (hz:zeroLs P el=some z) (hpos:0 < z.length) (h:clr z s A w) :
  ∃ w',(Builtin.clear_ ts t #[(Lf.sl s).enc]).run P w=.ok (.tuple #[]) w'∧Dfr w w'∧A w':=by
 obtain ⟨zv,hzv,hzc⟩:=zero_run hz w
 unfold Builtin.clear_
 simp only [h0,Lf.enc,List.getElem?_toArray,List.getElem?_cons_zero,Sem.run_bind,run_underlying hu,Result.andThen_ok]
 rcases h with ⟨hn,hA⟩ | ⟨q,C,hp,hl,hb,hle,hk⟩
 ·refine ⟨w,?_,Dfr.refl w,hA⟩
  obtain ⟨a,c,hx,hy,_⟩:=s.enc_len
  rw [hx]
  rcases hn with hn | hn
  ·cases ho:s.odd with
   | true =>
    rw [(Sl.odd_of ho).2.1]
    cases a<;>simp
   | false=>rw [(hy ho).1,hn];simp
  ·rw [hn]
   cases a<;>simp
 ·obtain ⟨w',r1,r2,r3,r4⟩:=setCells_run (P:=P) (rep s.len z) C q.o 0 hb (by rw [rep_length];simpa using hle)
  rw [Nat.add_zero] at r3
  refine ⟨w',?_,r2.dfr,hk w' r2 r3 r4⟩
  rw [Sl.enc_p hp]
  simp only [Sem.run_bind,hzv,Result.andThen_ok,hzc]
  rw [zeroCells_eq' rfl hpos]
  simp only [Pt.addr]
  rw [r1]
  rfl
section
variable {e : Env} {a : Act} {c : Ctx} {w : World} {r : Option Nat}
theorem optI_ok (hA:Agr e a) (hc:Holds c a) {x:Option Operand} {n:Option Int} (h:optI e c x=some n):OptOk n (x.map a.eval):=by
 unfold optI at h
 cases x with
 | none=>cases h;trivial
 | some x =>
  simp only at h
  split at h
  ·rename_i k m hm
   cases h
   exact ⟨k,evG_ok hA hc hm⟩
  ·cases h
theorem blk_new (w:World) (ls:List Lf) (T:TypeId):Ext no1 w { w with heap:=w.heap.push (.cells (ls.map Lf.enc).toArray T) }∧Blk { w with heap:=w.heap.push (.cells (ls.map Lf.enc).toArray T) } w.heap.size ls∧({ w with heap:=w.heap.push (.cells (ls.map Lf.enc).toArray T) }:World).heap.size=w.heap.size+1 :=
 ⟨ext_alloc w _,blk_alloc w ls T,by simp⟩
theorem indexAt_sl {t el:TypeId} {d:TypeDesc} {q:Pt} {len cap:Nat} {k:IntKind} {n:Int} (hu:P.underlying t=some (.slice el)) (hd:P.underlying el=some d) (hb:0≤n∧n < len) :
  (Instr.indexAt t (.slice (some q.addr) len cap) (.int k n)).run P w=.ok (.pointer (some (⟨q.b,q.o+n.toNat * P.cellsOf el⟩:Pt).addr)) w:=by
 unfold Instr.indexAt
 simp [asIntOf,run_underlying hu,sizeOf_run hd,hb,add_eq,Pt.addr]
theorem indexAt_ar {t el:TypeId} {d:TypeDesc} {q:Pt} {len:Nat} {k:IntKind} {n:Int} (hu:P.underlying t=some (.array len el)) (hd:P.underlying el=some d) (hb:0≤n∧n < len) :
  (Instr.indexAt t (.pointer (some q.addr)) (.int k n)).run P w=.ok (.pointer (some (⟨q.b,q.o+n.toNat * P.cellsOf el⟩:Pt).addr)) w:=by
 unfold Instr.indexAt
 simp [asIntOf,run_underlying hu,sizeOf_run hd,hb,add_eq,Pt.addr,Instr.sureAddr]
theorem index_ar {t el:TypeId} {d:TypeDesc} {ls:List Lf} {len:Nat} {k:IntKind} {n:Int} {v:V1} (hu:P.underlying t=some (.array len el)) (hd:P.underlying el=some d) (hb:0≤n∧n < len) (hv:partV P el ls (n.toNat * P.cellsOf el)=some v) :
  (Instr.index t (.agg (ls.map Lf.enc).toArray) (.int k n)).run P w=.ok v.enc w:=by
 unfold Instr.index
 simp [asIntOf,run_underlying hu,hb,sizeOf_run hd,leafOf_run hv hd]
theorem pureV_nd {o:Oper} {v:TV} (h:pureV P e c o=some v):∀ x,o.op≠.defer x:=by
 intro x hx
 unfold pureV at h
 rw [hx] at h
 cases h
theorem opS_ok (hA:Agr e a) (hc:Holds c a) {o:Oper} {K:TV→WP} (h:opS P e c o K w):Goes P r a o w K:=by
 obtain ⟨Y,hX,h⟩:∃ Y,opS P e c o K=Y∧Y w:=⟨_,rfl,h⟩
 unfold opS at hX
 split at hX
 ·rename_i v hv
  subst hX
  exact goes_val (pureV_nd hv) (pureV_ok hA hc hv w) (Dfr.refl w) h
 ·split at hX
  · -- alloc
   rename_i t ho
   split at hX
   ·rename_i ls hz
    obtain ⟨b1,b2,b3⟩:=blk_new w ls t
    have hrun:(execOp a.eval o).run P w=.ok (.value (TV.enc (.one (.lf (.ptr (some ⟨w.heap.size,0⟩)))))) { w with heap:=w.heap.push (.cells (ls.map Lf.enc).toArray t) }:=by
     obtain ⟨zv,hzv,hzc⟩:=zero_run hz w
     simp only [execOp,ho,Instr.alloc,Sem.run_bind,hzv,Result.andThen_ok,newVar,newRow,hzc,run_newObj,Sem.run_pure]
     rfl
    split at hX
    ·subst hX
     exact goes_val (v:=.one (.lf (.ptr (some ⟨w.heap.size,0⟩)))) (by rw [ho];intro x;simp) hrun b1.dfr (h _ b1 (by simp [BlkT]) b3)
    ·subst hX
     exact goes_val (v:=.one (.lf (.ptr (some ⟨w.heap.size,0⟩)))) (by rw [ho];intro x;simp) hrun b1.dfr (h _ b1 b2 b3)
   ·subst hX;exact h.elim
  · -- box
   rename_i t x ho
   split at hX
   ·rename_i v hv
    subst hX
    obtain ⟨b1,b2,b3⟩:=blk_new w v.lfs t
    refine goes_val (v:=.one (.lf (.ptr (some ⟨w.heap.size,0⟩)))) (by rw [ho];intro x;simp) ?_ b1.dfr (h _ b1 b2 b3)
    simp only [execOp,ho,Instr.box,evG_ok hA hc hv,TV.enc,newVar,newRow,V1.cells,Sem.run_bind,run_newObj,Result.andThen_ok,Sem.run_pure]
    rfl
   ·subst hX;exact h.elim
  · -- buildSlice
   rename_i t n ps ho
   split at hX
   ·rename_i el hel
    split at hX
    ·rename_i z vs hz hvs
     split at hX
     ·rename_i ls hcond hls
      subst hX
      simp only [Bool.and_eq_true,Nat.beq_eq,Nat.ble_eq,Bool.not_eq_true'] at hcond
      obtain ⟨⟨hzl,hn⟩,hpos⟩:=hcond
      have hpos':P.cellsOf el≠0:=fun hh=>by rw [hh] at hpos;cases hpos
      obtain ⟨b1,b2,b3⟩:=blk_new w ls el
      refine goes_val (v:=.one (.lf (.sl ⟨some ⟨w.heap.size,0⟩,n,n⟩))) (by rw [ho];intro x;simp) ?_ b1.dfr (h _ b1 b2 b3)
      obtain ⟨zv,hzv,hzc⟩:=zero_run hz w
      have e1:=evParts_ok hA hc hvs
      have e2:(ps.map (fun x:Nat × Operand=>(x.1,a.eval x.2))).toList=vs.map fun x=>(x.1,x.2.enc):=by
       rw [← e1];exact Array.toList_map
      have hfill:=fill_ok hls
      have hrep:((List.replicate n z).flatten.map Lf.enc).toArray=(Array.range (n * P.cellsOf el)).map (fun i=>((z.map Lf.enc).toArray)[i % P.cellsOf el]!):=by
       rw [zeroCells_eq hzl (by omega)];rfl
      rw [hrep] at hfill
      simp only [execOp,ho,Instr.buildSlice,Sem.run_bind,run_underlying (elemT_ok hel),Result.andThen_ok,cells_info hpos',Sem.run_ite]
      rw [if_neg (by omega)]
      by_cases h0:n * P.cellsOf el=0
      ·have hn0:n=0:=by rcases Nat.mul_eq_zero.1 h0 with h | h;exact h;exact absurd h hpos'
       subst hn0
       simp only [Nat.zero_mul] at hfill
       have e0:∀ f:Nat→Value,Array.map f (Array.range 0)=#[]:=fun f=>by rw [arr_map];simp
       simp only [e0] at hfill
       simp only [Nat.zero_mul,if_true,Sem.run_pure,Result.andThen_ok,e0,Sem.run_bind,newRow,run_newObj]
       rw [e2,hfill]
       simp [TV.enc,V1.enc,Lf.enc,Sl.enc_some,Pt.addr]
      ·rw [if_neg h0]
       simp only [hzv,Result.andThen_ok,Sem.run_pure,Sem.run_bind,hzc]
       simp only [List.size_toArray,List.length_map,hzl]
       rw [e2,hfill]
       simp [newRow,TV.enc,V1.enc,Lf.enc,Sl.enc_some,Pt.addr]
     ·subst hX;exact h.elim
    ·subst hX;exact h.elim
   ·subst hX;exact h.elim
  · -- load
   rename_i t x ho
   split at hX
   ·rename_i p hp
    unfold loadS at hX
    have hrun:∀ v,(loadVar t p.addr).run P w=.ok v w→(execOp a.eval o).run P w=.ok (.value v) w:=by
     intro v hv
     simp only [execOp,ho,Instr.loadAt,evG_ok hA hc hp,TV.enc,V1.enc,Lf.enc,Option.map_some,Instr.sureAddr,Sem.run_bind,Sem.run_pure,Result.andThen_ok,hv]
    split at hX
    ·rename_i k hk
     subst hX
     obtain ⟨y,hr,hK⟩:=h
     obtain ⟨hg,d,hd⟩:=shT_lf hk
     exact goes_val (v:=.one (.lf (k.mk y))) (by rw [ho];intro x;simp) (hrun _ (loadVar_lf hd hg hr)) (Dfr.refl w) hK
    ·rename_i ks hk
     subst hX
     obtain ⟨y,hr,hK⟩:=h
     obtain ⟨hg,⟨d,hd⟩,hl⟩:=shT_agg hk
     exact goes_val (v:=.one (.agg (Ks.mk ks y))) (by rw [ho];intro x;simp) (hrun _ (loadVar_agg hd hg (by rw [Ks.len];exact hl) hr)) (Dfr.refl w) hK
    ·subst hX;exact h.elim
   ·subst hX;exact h.elim
  · -- store
   rename_i t x y ho
   split at hX
   ·rename_i p v hp hv
    split at hX
    ·rename_i hl
     subst hX
     obtain ⟨L,hb,hle,hk⟩:=h
     obtain ⟨w',r1,r2,r3,r4⟩:=setCells_run (P:=P) v.lfs L p.o 0 hb hle
     rw [Nat.add_zero] at r3
     simp only [Bool.and_eq_true,Nat.beq_eq,Bool.not_eq_true'] at hl
     obtain ⟨hlen,hz⟩:=hl
     have hz':P.cellsOf t≠0:=fun hh=>by rw [hh] at hz;cases hz
     refine goes_skip (by rw [ho];intro x;simp) ?_ r2.dfr (hk w' r2 r3 r4)
     have hrun:(Instr.storeAt t (.pointer (some p.addr)) v.enc).run P w=.ok () w':=by
      simp only [Instr.storeAt,Instr.sureAddr,Sem.run_bind,Sem.run_pure,Result.andThen_ok,storeVar,cells_info hz',V1.cells]
      rw [if_neg (by simp [hlen])]
      simp only [r1]
     simp only [execOp,ho,evG_ok hA hc hp,evG_ok hA hc hv]
     rw [Sem.run_bind]
     have:TV.enc (.one (.lf (.ptr (some p))))=.pointer (some p.addr):=rfl
     rw [this]
     have:TV.enc (.one v)=v.enc:=rfl
     rw [this,hrun]
     rfl
    ·subst hX;exact h.elim
   ·subst hX;exact h.elim
  · -- nilCheck
   rename_i x ho
   split at hX
   ·rename_i p hp
    subst hX
    obtain ⟨q,hq,hK⟩:=h
    subst hq
    refine goes_val (v:=.one (.lf (.ptr (some q)))) (by rw [ho];intro x;simp) ?_ (Dfr.refl w) hK
    simp only [execOp,ho,evG_ok hA hc hp]
    rfl
   ·rename_i f hf
    subst hX
    obtain ⟨⟨n,fi,ca,hfe⟩,hK⟩:=h
    refine goes_val (v:=.one (.lf (.fn f))) (by rw [ho];intro x;simp) ?_ (Dfr.refl w) hK
    simp only [execOp,ho,evG_ok hA hc hf]
    rcases hfe with rfl | rfl<;>rfl
   ·subst hX;exact h.elim
  · -- binOp
   rename_i op t x y u ho
   split at hX
   ·rename_i k p k' q hp hq
    split at hX
    ·subst hX;exact divS_ok ho (evG_ok hA hc hp) (evG_ok hA hc hq) (.inl rfl) h
    ·subst hX;exact divS_ok ho (evG_ok hA hc hp) (evG_ok hA hc hq) (.inr (.inl rfl)) h
    ·split at hX
     ·rename_i hk
      subst hX;exact divS_ok ho (evG_ok hA hc hp) (evG_ok hA hc hq) (.inr (.inr (isK_ok hk))) h
     ·subst hX;exact h.elim
   ·rename_i p q hp hq
    split at hX
    ·subst hX
     obtain ⟨hle,hK⟩:=h
     refine goes_val (v:=.one (.lf (.str (p++q)))) (by rw [ho];intro x;simp) ?_ (Dfr.refl w) hK
     have hg:=eqGuard_leaf (P:=P) .add t x y (.str p) (.str q) w
     simp only [Lf.enc] at hg
     have ep:a.eval x=.string p:=evG_ok hA hc hp
     have eq:a.eval y=.string q:=evG_ok hA hc hq
     simp only [execOp,ho,ep,eq]
     rw [Sem.run_bind,Sem.run_bind,hg]
     have hmx:IntKind.i64.max=9223372036854775807:=rfl
     rw [hmx] at hle
     simp [binOp,Op.stringOp,TV.enc,V1.enc,Lf.enc]
     omega
    ·subst hX;exact h.elim
   ·subst hX;exact h.elim
  · -- indexAddr
   rename_i t x i ho
   split at hX
   ·rename_i s k n hs hn
    split at hX
    ·rename_i el hel
     split at hX
     ·rename_i hdd
      subst hX
      obtain ⟨d,hd⟩:=Option.isSome_iff_exists.1 hdd
      obtain ⟨q,hq,hb,hK⟩:=h
      refine goes_val (v:=.one (.lf (.ptr (some _)))) (by rw [ho];intro x;simp) ?_ (Dfr.refl w) hK
      have e1:a.eval x=.slice (some q.addr) s.len s.cap:=by rw [evG_ok hA hc hs];simp [TV.enc,V1.enc,Lf.enc,Sl.enc_p hq]
      have e2:a.eval i=.int k n:=evG_ok hA hc hn
      simp only [execOp,ho,e1,e2]
      rw [Sem.run_bind,indexAt_sl (elemT_ok hel) hd hb]
      rfl
     ·subst hX;exact h.elim
    ·subst hX;exact h.elim
   ·rename_i p k n hp hn
    split at hX
    ·rename_i len el hu
     split at hX
     ·rename_i hdd
      subst hX
      obtain ⟨d,hd⟩:=Option.isSome_iff_exists.1 hdd
      obtain ⟨hb,hK⟩:=h
      refine goes_val (v:=.one (.lf (.ptr (some _)))) (by rw [ho];intro x;simp) ?_ (Dfr.refl w) hK
      have e1:a.eval x=.pointer (some p.addr):=evG_ok hA hc hp
      have e2:a.eval i=.int k n:=evG_ok hA hc hn
      simp only [execOp,ho,e1,e2]
      rw [Sem.run_bind,indexAt_ar hu hd hb]
      rfl
     ·subst hX;exact h.elim
    ·subst hX;exact h.elim
   ·subst hX;exact h.elim
  · -- makeSlice
   rename_i t l cp ho
   split at hX
   ·rename_i el k1 n k2 m hel hl hcp
    split at hX
    ·rename_i z hz
     split at hX
     ·rename_i hcond
      subst hX
      simp only [Bool.and_eq_true,Nat.beq_eq,Nat.ble_eq,Bool.not_eq_true'] at hcond
      obtain ⟨⟨hzl,hpos⟩,hby⟩:=hcond
      have hpos':P.cellsOf el≠0:=fun hh=>by rw [hh] at hpos;cases hpos
      obtain ⟨hb,hk⟩:=h
      obtain ⟨b1,b2,b3⟩:=blk_new w (rep m.toNat z) el
      have hr:=makeSlice_run (P:=P) (w:=w) (k1:=k1) (k2:=k2) (elemT_ok hel) hz hzl hpos' hby hb
      refine goes_val (v:=.one (.lf (.sl _))) (by rw [ho];intro x;simp) ?_ b1.dfr (hk _ b1 b2 b3)
      simp only [execOp,ho]
      have e1:a.eval l=.int k1 n:=evG_ok hA hc hl
      have e2:a.eval cp=.int k2 m:=evG_ok hA hc hcp
      rw [e1,e2,Sem.run_bind,hr]
      rfl
     ·subst hX;exact h.elim
    ·subst hX;exact h.elim
   ·subst hX;exact h.elim
  · -- slice
   rename_i t x lo hi mx ho
   split at hX
   ·rename_i n el harr
    split at hX
    ·rename_i p l hh m hs hlo hhi hmx
     split at hX
     ·rename_i hcond
      subst hX
      simp only [Bool.and_eq_true,Bool.not_eq_true'] at hcond
      obtain ⟨hz,hmh⟩:=hcond
      have hz':P.cellsOf el≠0:=fun hh=>by rw [hh] at hz;cases hz
      obtain ⟨_,l',h',m',b1,b2,b3,hb,hK⟩:=h
      refine goes_val (v:=.one (.lf (.sl _))) (by rw [ho];intro x;simp) ?_ (Dfr.refl w) hK
      have e1:a.eval x=(Lf.ptr (some p)).enc:=evG_ok hA hc hs
      simp only [execOp,ho,e1]
      rw [Sem.run_bind,arrslice_run (arrT_ok harr) hz' (optI_ok hA hc hlo) (optI_ok hA hc hhi) (optI_ok hA hc hmx) (fun hm=>by rw [hm] at hmh;simpa using hmh) b1 b2 b3 hb]
      rfl
     ·subst hX;exact h.elim
    ·subst hX;exact h.elim
   split at hX
   ·rename_i el s l hh m hel hs hlo hhi hmx
    split at hX
    ·rename_i hcond
     subst hX
     simp only [Bool.and_eq_true,Bool.not_eq_true'] at hcond
     obtain ⟨hz,hmh⟩:=hcond
     have hz':P.cellsOf el≠0:=fun hh=>by rw [hh] at hz;cases hz
     obtain ⟨⟨hodd,hnz⟩,l',h',m',b1,b2,b3,hb,hK⟩:=h
     refine goes_val (v:=.one (.lf (.sl _))) (by rw [ho];intro x;simp) ?_ (Dfr.refl w) hK
     have e1:a.eval x=(Lf.sl s).enc:=evG_ok hA hc hs
     simp only [execOp,ho,e1]
     rw [Sem.run_bind,slice_run (elemT_ok hel) hz' (optI_ok hA hc hlo) (optI_ok hA hc hhi) (optI_ok hA hc hmx) (fun hm=>by rw [hm] at hmh;simpa using hmh) hodd hnz b1 b2 b3 hb]
     rfl
    ·subst hX;exact h.elim
   ·rename_i s l hh hel hs hlo hhi hmx
    split at hX
    ·rename_i hst
     subst hX
     obtain ⟨l',h',b1,b2,hb,hK⟩:=h
     refine goes_val (v:=.one (.lf (.str _))) (by rw [ho];intro x;simp) ?_ (Dfr.refl w) hK
     have e1:a.eval x=.string s:=evG_ok hA hc hs
     simp only [execOp,ho,e1]
     rw [Sem.run_bind,sslice_run (strT_ok hst) (optI_ok hA hc hlo) (optI_ok hA hc hhi) (optI_ok hA hc hmx) b1 b2 hb]
     rfl
    ·subst hX;exact h.elim
   ·subst hX;exact h.elim
  · -- convert
   rename_i src dst x ho
   split at hX
   ·rename_i s hs hcond
    subst hX
    simp only [Bool.and_eq_true] at hcond
    obtain ⟨e,he1,he2⟩:=bytesT_ok hcond.1
    obtain ⟨l,hr,hl,hK⟩:=h
    refine goes_val (v:=.one (.lf (.str ⟨l.toArray⟩))) (by rw [ho];intro x;simp) ?_ (Dfr.refl w) hK
    have e1:a.eval x=(Lf.sl s).enc:=evG_ok hA hc hs
    simp only [execOp,ho,e1]
    rw [Sem.run_bind,bstr_run he1 he2 (strT_ok hcond.2) hr hl]
    rfl
   ·subst hX;exact h.elim
  · -- index
   rename_i t x i ho
   split at hX
   ·rename_i ls k n len el hls hn hu
    have e1:a.eval x=.agg (ls.map Lf.enc).toArray:=evG_ok hA hc hls
    have e2:a.eval i=.int k n:=evG_ok hA hc hn
    split at hX
    ·rename_i c hk
     subst hX
     obtain ⟨hb,y,hy,hK⟩:=h
     obtain ⟨hg,d,hd⟩:=shT_lf hk
     refine goes_val (v:=.one (.lf _)) (by rw [ho];intro x;simp) ?_ (Dfr.refl w) hK
     simp only [execOp,ho,e1,e2]
     rw [Sem.run_bind,index_ar (v:=.lf (c.mk y)) hu hd hb (by
      unfold partV
      rw [hg]
      have hz:=congrArg (fun z=>z[0]?) hy
      simp only [Ks.mk,List.getElem?_take] at hz
      split at hz
      ·simp only [List.getElem?_cons_zero,List.getElem?_drop,Nat.add_zero] at hz
       simp [← hz]
      ·simp at hz)]
     rfl
    ·rename_i c hk
     subst hX
     obtain ⟨hb,y,hy,hK⟩:=h
     obtain ⟨hg,⟨d,hd⟩,hl⟩:=shT_agg hk
     refine goes_val (v:=.one (.agg _)) (by rw [ho];intro x;simp) ?_ (Dfr.refl w) hK
     simp only [execOp,ho,e1,e2]
     rw [Sem.run_bind,index_ar (v:=.agg (Ks.mk c y)) hu hd hb (by unfold partV;rw [hg];simp [hy])]
     rfl
    ·subst hX;exact h.elim
   ·rename_i s k n hs hn hu
    subst hX
    have e1:a.eval x=.string s:=evG_ok hA hc hs
    have e2:a.eval i=.int k n:=evG_ok hA hc hn
    obtain ⟨b,⟨h0,hb⟩,hK⟩:=h
    refine goes_val (v:=.one (.lf (.int .u8 _))) (by rw [ho];intro x;simp) ?_ (Dfr.refl w) hK
    simp only [execOp,ho,e1,e2]
    have:(Instr.index t (.string s) (.int k n)).run P w=.ok (.int .u8 b.toNat) w:=by
     unfold Instr.index
     simp [asIntOf,run_underlying hu,h0,hb]
    rw [Sem.run_bind,this]
    rfl
   ·subst hX;exact h.elim
  · -- calls
   rename_i cl ho
   have hnd:∀ x,o.op≠.defer x:=by rw [ho];intro x;simp
   split at hX
   · -- append
    rename_i hcal
    split at hX
    ·rename_i s x el el2 hvs h0 h1
     split at hX
     ·rename_i z hz
      split at hX
      ·rename_i hcond
       subst hX
       simp only [Bool.and_eq_true,Nat.beq_eq,Nat.ble_eq,Bool.not_eq_true'] at hcond
       obtain ⟨⟨⟨hzl,hpos⟩,hby⟩,hb0⟩:=hcond
       have hpos':P.cellsOf el≠0:=fun hh=>by rw [hh] at hpos;cases hpos
       have hb0':P.bytesOf el≠0:=fun hh=>by rw [hh] at hb0;cases hb0
       obtain ⟨ty,ht0,hu⟩:=Option.bind_eq_some_iff.1 h0
       obtain ⟨ty2,ht1,hu2⟩:=Option.bind_eq_some_iff.1 h1
       obtain ⟨L,M,hs,hx,hlen,hK⟩:=h
       obtain ⟨w',s',r1,r2,r3,r4,r5,r6,r7⟩:=append_run (P:=P) (t:=o.type) ht0 ht1 (elemT_ok hu) (elemT_ok hu2) hz hzl rfl (by omega) hby hb0' hs hx hlen
       refine goes_val (v:=.one (.lf (.sl s'))) hnd ?_ r2.dfr (hK w' s' r2 r3 r4 r5 r6 r7)
       have e1:cl.args.map a.eval=#[(Lf.sl s).enc,(Lf.sl x).enc]:=by
        have:=evs_ok hA hc hvs
        rw [arr_map,this];rfl
       simp only [execOp,ho,resolve,hcal,e1,Sem.run_bind,Sem.run_pure,Result.andThen_ok,invoke]
       show (builtin .append cl.argTypes o.type _ _).run P w=_
       simp only [builtin,Sem.run_bind,r1,Result.andThen_ok]
       rfl
      ·subst hX;exact h.elim
     ·subst hX;exact h.elim
    · -- made zeros
     rename_i s k n el hvs h0 h1
     split at hX
     ·rename_i z hz hit
      split at hX
      ·rename_i hcond
       subst hX
       simp only [Bool.and_eq_true,Nat.beq_eq,Nat.ble_eq,Bool.not_eq_true'] at hcond
       obtain ⟨⟨⟨hzl,hpos⟩,hby⟩,hb0⟩:=hcond
       have hpos':P.cellsOf el≠0:=fun hh=>by rw [hh] at hpos;cases hpos
       have hb0':P.bytesOf el≠0:=fun hh=>by rw [hh] at hb0;cases hb0
       obtain ⟨ty,ht0,hu⟩:=Option.bind_eq_some_iff.1 h0
       obtain ⟨ty2,ht1,hu2⟩:=Option.bind_eq_some_iff.1 hit
       obtain ⟨k2,hu3⟩:∃ k2,P.underlying ty2=some (.int k2):=by
        unfold intT at hu2
        split at hu2
        ·rename_i k2 hk2;exact ⟨k2,hk2⟩
        ·cases hu2
       obtain ⟨L,hs,⟨hn0,hlen⟩,hK⟩:=h
       obtain ⟨w',s',r1,r2,r3,r4,r5,_⟩:=appendz_run (P:=P) (t:=o.type) (kx:=k) ht0 ht1 (elemT_ok hu) hu3 hz hzl rfl (by omega) hby hb0' hs hn0 hlen
       refine goes_val (v:=.one (.lf (.sl s'))) hnd ?_ r2.dfr (hK w' s' r2 r3 r4 r5)
       have e1:cl.args.map a.eval=#[(Lf.sl s).enc,Value.int k n]:=by
        have:=evs_ok hA hc hvs
        rw [arr_map,this];rfl
       simp only [execOp,ho,resolve,hcal,e1,Sem.run_bind,Sem.run_pure,Result.andThen_ok,invoke]
       show (builtin .append cl.argTypes o.type _ _).run P w=_
       simp only [builtin,Sem.run_bind,r1,Result.andThen_ok]
       rfl
      ·subst hX;exact h.elim
     ·subst hX;exact h.elim
    ·subst hX;exact h.elim
   · -- clear
    rename_i hcal
    split at hX
    ·rename_i s el hvs h0
     split at hX
     ·rename_i z hz
      split at hX
      ·rename_i hcond
       subst hX
       obtain ⟨ty,ht0,hu⟩:=Option.bind_eq_some_iff.1 h0
       obtain ⟨w',r1,r2,r3⟩:=clear_run (P:=P) (t:=o.type) ht0 (elemT_ok hu) hz (Nat.le_of_ble_eq_true hcond) h
       refine goes_val (v:=und) hnd ?_ r2 r3
       have e1:cl.args.map a.eval=#[(Lf.sl s).enc]:=by
        have:=evs_ok hA hc hvs
        rw [arr_map,this];rfl
       simp only [execOp,ho,resolve,hcal,e1,Sem.run_bind,Sem.run_pure,Result.andThen_ok,invoke]
       show (builtin .clear cl.argTypes o.type _ _).run P w=_
       simp only [builtin,Sem.run_bind,r1,Result.andThen_ok]
       rfl
      ·subst hX;exact h.elim
     ·subst hX;exact h.elim
    ·subst hX;exact h.elim
   · -- a function by name
    rename_i f hcal
    split at hX
    ·rename_i vs hvs
     subst hX
     refine resS_ok hnd ?_ h
     have e1:cl.args.map a.eval=(vs.map V1.enc).toArray:=by rw [← evs_ok hA hc hvs];exact arr_map _ _
     simp [execOp,ho,resolve,hcal,e1,Act.eval,Deferred.ofValue,invoke]
    ·subst hX;exact h.elim
   · -- a function value
    rename_i x hcal
    split at hX
    ·rename_i f vs hf hvs
     subst hX
     have e1:cl.args.map a.eval=(vs.map V1.enc).toArray:=by rw [← evs_ok hA hc hvs];exact arr_map _ _
     obtain ⟨callee,as,ts⟩:=cl
     simp only at hcal
     subst hcal
     exact resVS_ok ho (evG_ok hA hc hf) e1 h
    ·subst hX;exact h.elim
   ·subst hX;exact h.elim
  ·subst hX;exact h.elim
end
end Go.X

namespace Go.X
variable {P : Program}
structure KeepL (ws:List Nat) (a a':Act):Prop where
 size:a'.tmps.size=a.tmps.size
 same:∀ n,memN n ws=false→a'.tmps[n]?=a.tmps[n]?
theorem KeepL.refl (ws:List Nat) (a:Act):KeepL ws a a:=⟨rfl,fun _ _=>rfl⟩
theorem memN_append (n:Nat) (xs ys:List Nat):memN n (xs++ys)=(memN n xs || memN n ys):=by
 induction xs with
 | nil=>rfl
 | cons x xs ih=>simp [memN,ih,Bool.or_assoc]
theorem KeepL.trans {xs ys:List Nat} {a b c:Act} (h:KeepL xs a b) (k:KeepL ys b c):KeepL (xs++ys) a c :=
 ⟨k.size.trans h.size,fun n hn=>by
  rw [memN_append] at hn
  simp only [Bool.or_eq_false_iff] at hn
  exact (k.same n hn.2).trans (h.same n hn.1)⟩
theorem KeepL.mono {xs ys:List Nat} {a b:Act} (h:KeepL xs a b) (hs:∀ n,memN n ys=false→memN n xs=false):KeepL ys a b :=
 ⟨h.size,fun n hn=>h.same n (hs n hn)⟩
theorem KeepL.put {a a':Act} {o:Oper} {v:Value} {r:List Oper} (h:KeepL (opsWrites r) (a.put o.dst v) a'):KeepL (opsWrites (o :: r)) a a':=by
 refine ⟨by rw [h.size,size_put],fun n hn=>?_⟩
 simp only [opsWrites] at hn
 cases hd:o.dst with
 | none =>
  rw [hd] at hn h
  exact h.same n hn
 | some d =>
  rw [hd] at hn h
  simp only [memN,Bool.or_eq_false_iff] at hn
  rw [h.same n hn.2,tmps_put,if_neg]
  rintro ⟨rfl,_⟩
  simp at hn
theorem Agr.val {e:Env} {a:Act} (h:Agr e a) {n:Nat} {v:TV} (hv:e.get n=.val v):a.tmps[n]?=some v.enc:=by
 have:=h.ok n
 rw [hv] at this
 exact this
theorem defers_put (a:Act) (d:Option Nat) (v:Value):(a.put d v).defers=a.defers:=by cases d<;>rfl
section
variable {e : Env} {a : Act} {w : World} {r : Option Nat}
theorem ctxOf_ok (hA:Agr e a):∀ (n j:Nat) (b:Bool),a.tmps[j]?=some (.bool b)→Holds (ctxOf e n j) a
 | 0,_,_,_=>Holds.nil a
 | n+1,j,b,hj=>by
  simp only [ctxOf]
  have hk:=hA.ok j
  split
  ·rename_i i w v hg
   rw [hg] at hk
   simp only [EntOk] at hk
   have hi:a.tmps[i]?=some (.bool w):=Classical.byContradiction fun hne=>by
    have:=hk.2 hne
    rw [hj] at this
    simp [undef] at this
   exact holds_cons (ctxOf_ok hA n i w hi) hi
  ·exact Holds.nil a
theorem yielded_at {ops:Array Oper} {j sj:Nat} (h:(ops.toList[j]?).bind (·.dst)=some sj) (tmps:Array Value):yielded ops tmps j=match tmps[sj]? with | some (.bool b)=>some b | _=>none:=by
 unfold yielded
 have:(ops[j]?).bind (·.dst)=some sj:=by rw [← h];simp
 rw [this]
 rfl
theorem wanted_some {o:Oper} {j:Nat} {want:Bool} (hg:o.guard=some (j,want)) (y:Nat→Option Bool):Region.wanted o y=(y j == some want):=by
 unfold Region.wanted;rw [hg]
theorem opsS_ok {ops:Array Oper} {Q:Exit→Act→World→Prop}:∀ (l:List Oper) (i:Nat) (e:Env) (a:Act) (w:World) (K:Env→WP),Agr e a→opsS P ops.toList l i e K w →
  (∀ e' a' w',Agr e' a'→KeepL (opsWrites l) a a'→a'.defers=a.defers→Dfr w w'→K e' w'→Q .normal a' w')→wpListIn (Fr r) 0 P ops Q l a w
 | [],i,e,a,w,K,hA,h,hQ=>hQ e a w hA (KeepL.refl _ _) rfl (Dfr.refl w) h
 | o :: rest,i,e,a,w,K,hA,h,hQ=>by
  have hput:∀ (e1:Env) (u:Value) (w1:World),Agr e1 (a.put o.dst u)→Dfr w w1→opsS P ops.toList rest (i+1) e1 K w1→wpListIn (Fr r) 0 P ops Q rest (a.put o.dst u) w1:=by
   intro e1 u w1 hA1 hd h1
   refine opsS_ok rest (i+1) e1 _ w1 K hA1 h1 fun e' a' w' hA' hk hdf hdd hK=>?_
   exact hQ e' a' w' hA' hk.put (hdf.trans (defers_put _ _ _)) (hd.trans hdd) hK
  have hone:∀ (v:TV) (w1:World),Dfr w w1→opsS P ops.toList rest (i+1) (putV e o v) K w1→wpListIn (Fr r) 0 P ops Q rest (a.put o.dst v.enc) w1 :=
   fun v w1 hd h1=>hput _ _ w1 (hA.put o.dst v) hd h1
  unfold wpListIn
  obtain ⟨Y,hX,h⟩:∃ Y,opsS P ops.toList (o :: rest) i e K=Y∧Y w:=⟨_,rfl,h⟩
  unfold opsS at hX
  have hnext:∀ (v:TV) (w1:World),Dfr w w1→nextS (parts ops.toList 6 i) e o (fun e=>opsS P ops.toList rest (i+1) e K) v w1→wpListIn (Fr r) 0 P ops Q rest (a.put o.dst v.enc) w1:=by
   intro v w1 hd h1
   obtain ⟨Y,hX,h1⟩:∃ Y,nextS (parts ops.toList 6 i) e o (fun e=>opsS P ops.toList rest (i+1) e K) v=Y∧Y w1:=⟨_,rfl,h1⟩
   unfold nextS at hX
   split at hX
   ·split at hX
    ·rename_i d b hdst
     subst hX
     refine hone _ w1 hd ?_
     unfold putV
     rw [hdst]
     cases b<;>exact h1
    ·subst hX;exact h1.elim
   ·subst hX;exact hone v w1 hd h1
  split at hX
  ·rename_i hg
   subst hX
   have hw:Region.wanted o (yielded ops a.tmps)=true:=by unfold Region.wanted;rw [hg]
   rw [if_pos hw]
   exact opS_ok hA (Holds.nil a) h _ Q hnext
  ·rename_i j want hg
   split at hX
   ·subst hX;exact h.elim
   ·rename_i sj hsj
    have hy:=yielded_at hsj a.tmps
    have hwj:=wanted_some hg (yielded ops a.tmps)
    have hskip:(yielded ops a.tmps j == some want)=false→opsS P ops.toList rest (i+1) (putV e o und) K w→(if Region.wanted o (yielded ops a.tmps)=true then o.wpIn (Fr r) 0 P a w (wpListIn (Fr r) 0 P ops Q rest) Q
      else (∀ f,o.about P w a.eval=some f→(Fr r).fn f)∧wpListIn (Fr r) 0 P ops Q rest (a.put o.dst undef) w):=by
     intro hf h1
     rw [if_neg (by rw [hwj,hf];simp)]
     exact ⟨fun f _=>trivial,hone und w (Dfr.refl w) h1⟩
    have hrun:(yielded ops a.tmps j == some want)=true→opS P e [] o (nextS (parts ops.toList 6 i) e o fun e=>opsS P ops.toList rest (i+1) e K) w→(if Region.wanted o (yielded ops a.tmps)=true then o.wpIn (Fr r) 0 P a w (wpListIn (Fr r) 0 P ops Q rest) Q
      else (∀ f,o.about P w a.eval=some f→(Fr r).fn f)∧wpListIn (Fr r) 0 P ops Q rest (a.put o.dst undef) w):=by
     intro hf h1
     rw [if_pos (by rw [hwj,hf])]
     exact opS_ok hA (Holds.nil a) h1 _ Q hnext
    have hk:=hA.ok sj
    split at hX
    ·split at hX
     ·rename_i b hgs
      rw [hgs] at hk
      simp only [EntOk] at hk
      have hk':a.tmps[sj]?=some (.bool b):=hk
      rw [hk'] at hy
      simp only at hy
      split at hX
      ·subst hX;exact hrun (by rw [hy];rfl) h
      ·subst hX;exact hrun (by rw [hy];rfl) h
      ·rename_i hn1 hn2
       subst hX
       refine hskip ?_ h
       rw [hy]
       cases b<;>cases want<;>first | rfl | exact (hn1 rfl rfl).elim | exact (hn2 rfl rfl).elim
     ·rename_i hgs
      rw [hgs] at hk
      simp only [EntOk] at hk
      have hk':a.tmps[sj]?=some undef:=hk
      rw [hk'] at hy
      subst hX
      refine hskip ?_ h
      rw [hy];rfl
     ·subst hX;exact h.elim
    ·split at hX
     ·rename_i hud
      have hgs:e.get sj=.val (.tup []):=by
       unfold isUnd at hud
       split at hud
       ·assumption
       ·cases hud
      rw [hgs] at hk
      simp only [EntOk] at hk
      have hk':a.tmps[sj]?=some undef:=hk
      rw [hk'] at hy
      subst hX
      refine hskip ?_ h
      rw [hy];rfl
     split at hX
     ·rename_i v d hv hd
      have key:d≠sj→opsS P ops.toList rest (i+1) (e.put (some d) (.gv sj want v)) K w→(if Region.wanted o (yielded ops a.tmps)=true then o.wpIn (Fr r) 0 P a w (wpListIn (Fr r) 0 P ops Q rest) Q
        else (∀ f,o.about P w a.eval=some f→(Fr r).fn f)∧wpListIn (Fr r) 0 P ops Q rest (a.put o.dst undef) w):=by
       intro hne h1
       by_cases hw:a.tmps[sj]?=some (.bool want)
       ·rw [hw] at hy
        simp only at hy
        rw [if_pos (by rw [hwj,hy];simp)]
        have hc:Holds ((sj,want) :: ctxOf e 5 sj) a:=holds_cons (ctxOf_ok hA 5 sj want hw) hw
        refine goes_val (K:=fun u w'=>u=v∧w'=w) (pureV_nd hv) (pureV_ok hA hc hv w) (Dfr.refl w) ⟨rfl,rfl⟩ _ Q ?_
        rintro u w' - ⟨rfl,rfl⟩
        refine hput _ _ _ ?_ (Dfr.refl _) h1
        rw [hd]
        exact hA.put_gv hne want _ _ (fun _=>rfl) (fun hn=>absurd hw hn)
       ·have hnw:Region.wanted o (yielded ops a.tmps)=false:=by
         rw [hwj,hy]
         split
         ·rename_i b hb
          have:b≠want:=fun hh=>hw (by rw [hb,hh])
          cases b<;>cases want<;>first | rfl | exact absurd rfl this
         ·rfl
        rw [if_neg (by rw [hnw];simp)]
        refine ⟨fun f _=>trivial,hput _ _ _ ?_ (Dfr.refl _) h1⟩
        rw [hd]
        exact hA.put_gv hne want _ _ (fun hh=>absurd hh hw) (fun _=>rfl)
      split at hX
      ·subst hX
       exact key (Nat.ne_of_beq_eq_false (by assumption)) h
      ·subst hX
       exact key (Nat.ne_of_beq_eq_false (by assumption)) h
      ·subst hX;exact h.elim
     ·subst hX;exact h.elim
end
end Go.X

namespace Go.X
variable {P : Program}
theorem bit_set (m i j:Nat):bit (setb m i) j=(bit m j || decide (i=j)):=by
 unfold bit setb
 rw [Nat.testBit_or,Nat.one_shiftLeft,Nat.testBit_two_pow]
theorem sub_ok {a b:Nat}:subM a b=true↔∀ k,bit a k=true→bit b k=true:=by
 unfold subM bit
 constructor
 ·intro h k hk
  have h:=Nat.eq_of_beq_eq_true h
  rw [← h,Nat.testBit_and] at hk
  simp at hk;exact hk.2
 ·intro h
  have:a &&& b=a:=Nat.eq_of_testBit_eq fun k=>by
   rw [Nat.testBit_and]
   cases hk:Nat.testBit a k with
   | false=>simp
   | true=>simp [h k hk]
  rw [this];exact Nat.beq_refl a
theorem afterL_ok {l:List Edge} {k:Nat}:bit (afterL l) k=true↔∃ e∈l,Region.binds .any e=true∧e.on=k:=by
 induction l with
 | nil=>simp [afterL,bit]
 | cons e l ih =>
  simp only [afterL]
  cases hb:Region.binds .any e with
  | true=>simp only [];rw [bit_set];simp [ih,hb];constructor<;>(rintro (h | h)<;>simp [h])
  | false=>simp [ih,hb]
theorem memN_iff {n:Nat} {l:List Nat}:memN n l=true↔n∈l:=by
 induction l with
 | nil=>simp [memN]
 | cons x l ih =>
  simp only [memN,Bool.or_eq_true,ih,List.mem_cons]
  constructor
  ·rintro (h | h)
   ·exact .inl (Nat.eq_of_beq_eq_true h).symm
   ·exact .inr h
  ·rintro (h | h)
   ·left;rw [h];exact Nat.beq_refl x
   ·exact .inr h
theorem keepE_get (sl:List Nat):∀ (e:Env) (n i:Nat),(keepE sl n e).get i=if memN (n+i) sl then e.get i else .un
 | [],n,i=>by simp [keepE,Env.get]
 | x :: e,n,0=>by cases h:memN n sl<;>simp [keepE,Env.get,h]
 | x :: e,n,i+1=>by
  simp only [keepE,Env.get]
  rw [keepE_get sl e (n+1) i,show n+1+i=n+(i+1) by omega]
theorem keepE_len (sl:List Nat):∀ (e:Env) (n:Nat),(keepE sl n e).length=e.length
 | [],_=>rfl
 | _ :: e,n=>by simp [keepE,keepE_len sl e]
theorem agr_keep {sl:List Nat} {e:Env} {a:Act} (hl:e.length=a.tmps.size) (h:∀ s∈sl,EntOk a s (e.get s)):Agr (keepE sl 0 e) a:=by
 refine ⟨by rw [keepE_len,hl],fun i=>?_⟩
 rw [keepE_get,Nat.zero_add]
 split
 ·rename_i hm;exact h i (memN_iff.1 hm)
 ·trivial
theorem setE_len (e:Env) (d:Option Nat) (v:TV):(setE e d v).length=e.length:=by
 cases d<;>simp [setE,Env.len_set]
theorem setE_get (e:Env) (d:Option Nat) (v:TV) (i:Nat):(setE e d v).get i=if d=some i∧i < e.length then .val v else e.get i:=by
 cases d with
 | none=>simp [setE]
 | some d =>
  simp only [setE]
  rw [Env.get_set]
  by_cases h:i=d
  ·subst h;simp
  ·rw [if_neg (fun hh=>h hh.1),if_neg (fun hh=>h (Option.some.inj hh.1).symm)]
theorem hazL_ok {i ai:Nat} {sl:List Nat}:∀ {l:List Oper} {j:Nat},hazL i ai sl l j=true→∀ k o s,l[k]?=some o→o.dst=some s→s∈sl →
  bit ai (j+k)=true∨(bit (afterM o) i=true∧isF o.op=false)∨(i=j+k∧isF o.op=false)
 | [],j,_,k,o,s,h,_,_=>by simp at h
 | x :: r,j,h,k,o,s,hk,hd,hs=>by
  simp only [hazL,Bool.and_eq_true] at h
  cases k with
  | zero =>
   simp at hk
   subst hk
   have h1:=h.1
   rw [hd] at h1
   simp only [Bool.or_eq_true,Bool.not_eq_true',Bool.and_eq_true] at h1
   have hm:memN s sl=true:=memN_iff.2 hs
   rcases h1 with ((h1 | h1) | h1) | h1
   ·rw [hm] at h1;cases h1
   ·exact .inl h1
   ·exact .inr (.inl h1)
   ·exact .inr (.inr ⟨Nat.eq_of_beq_eq_true h1.1,h1.2⟩)
  | succ k =>
   have:=hazL_ok h.2 k o s (by simpa using hk) hd hs
   rw [show j+1+k=j+(k+1) by omega] at this
   exact this
theorem covL_ok {V C:Nat}:∀ {l:List Oper} {j:Nat},covL V C l j=true→∀ k o,l[k]?=some o→bit V (j+k)=true∨bit C (j+k)=true∨subM (afterM o) V=false
 | [],_,_,k,o,h=>by simp at h
 | x :: r,j,h,k,o,hk=>by
  simp only [covL,Bool.and_eq_true,Bool.or_eq_true,Bool.not_eq_true'] at h
  cases k with
  | zero=>simp at hk;subst hk;rcases h.1 with (h1 | h1) | h1<;>simp [h1]
  | succ k =>
   have:=covL_ok h.2 k o (by simpa using hk)
   rw [show j+1+k=j+(k+1) by omega] at this
   exact this
theorem fullL_ok {V:Nat}:∀ {l:List Oper} {j:Nat},fullL V l j=true→∀ k,k < l.length→bit V (j+k)=true
 | [],_,_,k,h=>by simp at h
 | x :: r,j,h,k,hk=>by
  simp only [fullL,Bool.and_eq_true] at h
  cases k with
  | zero=>exact h.1
  | succ k =>
   have:=fullL_ok h.2 k (by simpa using hk)
   rw [show j+1+k=j+(k+1) by omega] at this
   exact this
theorem dstIn_ok {d:Nat}:∀ {l:List Oper},dstIn d l=false→∀ o∈l,o.dst≠some d
 | [],_,o,h=>absurd h (by simp)
 | x :: r,h,o,ho=>by
  simp only [dstIn,Bool.or_eq_false_iff] at h
  rcases List.mem_cons.1 ho with rfl | ho
  ·intro hd;rw [hd] at h;simp at h
  ·exact dstIn_ok h.2 o ho
theorem distinct_ok:∀ {l:List Oper},distinctD l=true→∀ (i j:Nat) (o o':Oper) (s:Nat),l[i]?=some o→l[j]?=some o'→o.dst=some s→o'.dst=some s→i=j
 | [],_,i,_,_,_,_,h,_,_,_=>by simp at h
 | x :: r,h,i,j,o,o',s,hi,hj,hd,hd'=>by
  simp only [distinctD,Bool.and_eq_true] at h
  have no:∀ k (y:Oper),x.dst=some s→r[k]?=some y→y.dst=some s→False:=fun k y hx hy hys=>by
   have h1:=h.1
   rw [hx] at h1
   exact dstIn_ok (by simpa using h1) y (List.mem_of_getElem? hy) hys
  cases i with
  | zero =>
   simp at hi;subst hi
   cases j with
   | zero=>rfl
   | succ j=>exact (no j o' hd (by simpa using hj) hd').elim
  | succ i =>
   cases j with
   | zero=>simp at hj;subst hj;exact (no i o hd' (by simpa using hi) hd).elim
   | succ j=>rw [distinct_ok h.2 i j o o' s (by simpa using hi) (by simpa using hj) hd hd']
theorem ancL_after {acc:List Nat}:∀ {l:List Edge} {k:Nat},bit (ancL acc l) k=true→∃ e∈l,Region.binds .any e=true∧(e.on=k∨bit ((acc[e.on]?).getD 0) k=true)
 | [],k,h=>by simp [ancL,bit] at h
 | e :: l,k,h=>by
  simp only [ancL] at h
  cases hb:Region.binds .any e with
  | true =>
   rw [hb] at h
   simp only at h
   have h':bit (setb (ancL acc l) e.on) k=true∨bit ((acc[e.on]?).getD 0) k=true:=by
    unfold bit at h ⊢
    rw [Nat.testBit_or] at h
    simpa using h
   rw [bit_set] at h'
   simp only [Bool.or_eq_true,decide_eq_true_eq] at h'
   rcases h' with (h' | h') | h'
   ·obtain ⟨e',h1,h2,h3⟩:=ancL_after h'
    exact ⟨e',List.mem_cons_of_mem _ h1,h2,h3⟩
   ·exact ⟨e,List.mem_cons_self,hb,.inl h'⟩
   ·exact ⟨e,List.mem_cons_self,hb,.inr h'⟩
  | false =>
   rw [hb] at h
   obtain ⟨e',h1,h2,h3⟩:=ancL_after h
   exact ⟨e',List.mem_cons_of_mem _ h1,h2,h3⟩
theorem ancs_ok {D:Nat→Prop}:∀ (l:List Oper) (acc:List Nat) (all:List Oper),all=all.take acc.length++l→acc.length≤all.length →
  (∀ i o,all[i]?=some o→D i→∀ k,bit (afterM o) k=true→D k) →
  (∀ i,D i→∀ k,bit ((acc[i]?).getD 0) k=true→D k)→∀ i,D i→∀ k,bit (((ancs l acc)[i]?).getD 0) k=true→D k
 | [],acc,all,_,_,_,h,i,hi,k,hk=>h i hi k hk
 | o :: r,acc,all,he,hl,hc,h,i,hi,k,hk=>by
  simp only [ancs] at hk
  have hlt:acc.length < all.length:=by
   have:=congrArg List.length he
   simp at this;omega
  have ho:all[acc.length]?=some o:=by
   have h1:(all.take acc.length).length=acc.length:=by simp;omega
   rw [he,List.getElem?_append_right (by omega),h1]
   simp
  refine ancs_ok r (acc++[ancL acc o.after.toList]) all ?_ (by simp;omega) hc ?_ i hi k hk
  ·simp only [List.length_append,List.length_singleton]
   rw [List.take_add_one,ho]
   simp only [Option.toList_some,List.append_assoc,List.singleton_append]
   exact he
  ·intro i hi k hk
   by_cases hia:i < acc.length
   ·rw [List.getElem?_append_left hia] at hk
    exact h i hi k hk
   ·rw [List.getElem?_append_right (by omega)] at hk
    by_cases hie:i=acc.length
    ·subst hie
     simp at hk
     obtain ⟨e,h1,h2,h3⟩:=ancL_after hk
     have hD:D e.on:=hc _ o ho hi e.on (afterL_ok.2 ⟨e,h1,h2,rfl⟩)
     rcases h3 with h3 | h3
     ·rw [← h3];exact hD
     ·exact h _ hD k h3
    ·have:i - acc.length≠0:=by omega
     rw [List.getElem?_singleton,if_neg this] at hk
     simp [bit] at hk
theorem chks_ok {w:World} {m:Nat} {A:WP}:∀ {l:Lds},chks l m A w→A w∧∀ i p ls,(i,p,ls)∈l→bit m i=false→Reads w p.b p.o ls
 | [],h=>⟨h,fun _ _ _ hh=>absurd hh (by simp)⟩
 | (i,p,ls) :: r,h=>by
  simp only [chks] at h
  cases hb:bit m i with
  | true =>
   rw [hb] at h
   obtain ⟨h1,h2⟩:=chks_ok (l:=r) h
   refine ⟨h1,fun j q ms hh hj=>?_⟩
   rcases List.mem_cons.1 hh with hh | hh
   ·cases hh;rw [hb] at hj;cases hj
   ·exact h2 j q ms hh hj
  | false =>
   rw [hb] at h
   obtain ⟨h1,h2⟩:=chks_ok (l:=r) h.2
   refine ⟨h1,fun j q ms hh hj=>?_⟩
   rcases List.mem_cons.1 hh with hh | hh
   ·cases hh;exact h.1
   ·exact h2 j q ms hh hj
end Go.X

namespace Go.X
variable {P : Program}
def Const (P:Program) (e:Env) (o:Oper) (v:TV):Prop:=∀ a,Agr e a→∀ w,(execOp a.eval o).run P w=.ok (.value v.enc) w
section
variable {e : Env} {w : World}
theorem divC_ok {o:Oper} {K:TV→WP} {op:BinOp} {t u:TypeId} {x y:Operand} {k k':IntKind} {p q:Int} (ho:o.op=.binOp op t x y u) (hx:evG e [] x=some (.one (.lf (.int k p)))) (hy:evG e [] y=some (.one (.lf (.int k' q))))
  (hk:op=.shl∨op=.shr∨k=k') (h:divS op y k p q K w):∃ v,K v w∧Const P e o v:=by
 have hrun:∀ v,(∀ w,(binOp op t (.int k p) (.int k' q)).run P w=.ok v w)→∀ a,Agr e a→∀ w,(execOp a.eval o).run P w=.ok (.value v) w:=by
  intro v hv a hA w
  have hg:=eqGuard_leaf (P:=P) op t x y (.int k p) (.int k' q) w
  have ex:a.eval x=.int k p:=evG_ok hA (Holds.nil a) hx
  have ey:a.eval y=.int k' q:=evG_ok hA (Holds.nil a) hy
  simp only [Lf.enc] at hg
  simp only [execOp,ho,ex,ey]
  rw [Sem.run_bind,Sem.run_bind,hg]
  simp [hv]
 have hnz:nonZero y=true→q≠0:=by
  intro hz
  unfold nonZero at hz
  split at hz
  ·rename_i k'' m
   simp only [evG,constV,leafV,Option.some.injEq,TV.one.injEq,V1.lf.injEq,Lf.int.injEq] at hy
   obtain ⟨_,rfl⟩:=hy
   split at hz
   ·cases hz
   ·rename_i hd;exact of_decide_eq_false hd
  ·cases hz
 cases op with
 | quo =>
  have e:k=k':=by rcases hk with hk | hk | hk;cases hk;cases hk;exact hk
  subst e
  simp only [divS] at h
  cases hz:nonZero y with
  | true=>rw [hz] at h;exact ⟨_,h,hrun _ fun w=>(div_run (hnz hz) w).1 rfl⟩
  | false=>rw [hz] at h;exact ⟨_,h.2,hrun _ fun w=>(div_run h.1 w).1 rfl⟩
 | rem =>
  have e:k=k':=by rcases hk with hk | hk | hk;cases hk;cases hk;exact hk
  subst e
  simp only [divS] at h
  cases hz:nonZero y with
  | true=>rw [hz] at h;exact ⟨_,h,hrun _ fun w=>(div_run (hnz hz) w).2 rfl⟩
  | false=>rw [hz] at h;exact ⟨_,h.2,hrun _ fun w=>(div_run h.1 w).2 rfl⟩
 | shl=>exact ⟨_,h.2,hrun _ fun w=>(shift_run h.1 w).1 rfl⟩
 | shr=>exact ⟨_,h.2,hrun _ fun w=>(shift_run h.1 w).2 rfl⟩
 | _=>exact h.elim
theorem nop_ok {o:Oper} {K:TV→WP} (h:opS P e [] o K w) (hp:pureV P e [] o=none)
  (hc:(∃ x,o.op=.nilCheck x)∨(∃ t x i,o.op=.indexAddr t x i)∨(∃ t x i,o.op=.index t x i)∨∃ op t x y u,o.op=.binOp op t x y u):∃ v,K v w∧Const P e o v:=by
 obtain ⟨Y,hX,h⟩:∃ Y,opS P e [] o K=Y∧Y w:=⟨_,rfl,h⟩
 unfold opS at hX
 rw [hp] at hX
 simp only at hX
 rcases hc with ⟨x,ho⟩ | ⟨t,x,i,ho⟩ | ⟨t,x,i,ho⟩ | ⟨op,t,x,y,u,ho⟩
 ·rw [ho] at hX
  simp only at hX
  split at hX
  ·rename_i p hp
   subst hX
   obtain ⟨q,hq,hK⟩:=h
   subst hq
   refine ⟨_,hK,fun a hA w=>?_⟩
   simp only [execOp,ho,evG_ok hA (Holds.nil a) hp]
   rfl
  ·rename_i f hf
   subst hX
   obtain ⟨⟨n,fi,ca,hfe⟩,hK⟩:=h
   refine ⟨_,hK,fun a hA w=>?_⟩
   simp only [execOp,ho,evG_ok hA (Holds.nil a) hf]
   rcases hfe with rfl | rfl<;>rfl
  ·subst hX;exact h.elim
 ·rw [ho] at hX
  simp only at hX
  split at hX
  ·rename_i s k n hs hn
   split at hX
   ·rename_i el hel
    split at hX
    ·rename_i hdd
     subst hX
     obtain ⟨d,hd⟩:=Option.isSome_iff_exists.1 hdd
     obtain ⟨q,hq,hb,hK⟩:=h
     refine ⟨_,hK,fun a hA w=>?_⟩
     have e1:a.eval x=.slice (some q.addr) s.len s.cap:=by rw [evG_ok hA (Holds.nil a) hs];simp [TV.enc,V1.enc,Lf.enc,Sl.enc_p hq]
     have e2:a.eval i=.int k n:=evG_ok hA (Holds.nil a) hn
     simp only [execOp,ho,e1,e2]
     rw [Sem.run_bind,indexAt_sl (elemT_ok hel) hd hb]
     rfl
    ·subst hX;exact h.elim
   ·subst hX;exact h.elim
  ·rename_i p k n hp hn
   split at hX
   ·rename_i len el hu
    split at hX
    ·rename_i hdd
     subst hX
     obtain ⟨d,hd⟩:=Option.isSome_iff_exists.1 hdd
     obtain ⟨hb,hK⟩:=h
     refine ⟨_,hK,fun a hA w=>?_⟩
     have e1:a.eval x=.pointer (some p.addr):=evG_ok hA (Holds.nil a) hp
     have e2:a.eval i=.int k n:=evG_ok hA (Holds.nil a) hn
     simp only [execOp,ho,e1,e2]
     rw [Sem.run_bind,indexAt_ar hu hd hb]
     rfl
    ·subst hX;exact h.elim
   ·subst hX;exact h.elim
  ·subst hX;exact h.elim
 ·rw [ho] at hX
  simp only at hX
  split at hX
  ·rename_i ls k n len el hls hn hu
   split at hX
   ·rename_i c hk
    subst hX
    obtain ⟨hb,y,hy,hK⟩:=h
    obtain ⟨hg,d,hd⟩:=shT_lf hk
    refine ⟨_,hK,fun a hA w=>?_⟩
    have e1:a.eval x=.agg (ls.map Lf.enc).toArray:=evG_ok hA (Holds.nil a) hls
    have e2:a.eval i=.int k n:=evG_ok hA (Holds.nil a) hn
    simp only [execOp,ho,e1,e2]
    rw [Sem.run_bind,index_ar (v:=.lf (c.mk y)) hu hd hb (by
     unfold partV
     rw [hg]
     have hz:=congrArg (fun z=>z[0]?) hy
     simp only [Ks.mk,List.getElem?_take] at hz
     split at hz
     ·simp only [List.getElem?_cons_zero,List.getElem?_drop,Nat.add_zero] at hz
      simp [← hz]
     ·simp at hz)]
    rfl
   ·rename_i c hk
    subst hX
    obtain ⟨hb,y,hy,hK⟩:=h
    obtain ⟨hg,⟨d,hd⟩,hl⟩:=shT_agg hk
    refine ⟨_,hK,fun a hA w=>?_⟩
    have e1:a.eval x=.agg (ls.map Lf.enc).toArray:=evG_ok hA (Holds.nil a) hls
    have e2:a.eval i=.int k n:=evG_ok hA (Holds.nil a) hn
    simp only [execOp,ho,e1,e2]
    rw [Sem.run_bind,index_ar (v:=.agg (Ks.mk c y)) hu hd hb (by unfold partV;rw [hg];simp [hy])]
    rfl
   ·subst hX;exact h.elim
  ·rename_i s k n hs hn hu
   subst hX
   obtain ⟨b,⟨h0,hb⟩,hK⟩:=h
   refine ⟨_,hK,fun a hA w=>?_⟩
   have e1:a.eval x=.string s:=evG_ok hA (Holds.nil a) hs
   have e2:a.eval i=.int k n:=evG_ok hA (Holds.nil a) hn
   simp only [execOp,ho,e1,e2]
   have:(Instr.index t (.string s) (.int k n)).run P w=.ok (.int .u8 b.toNat) w:=by
    unfold Instr.index
    simp [asIntOf,run_underlying hu,h0,hb]
   rw [Sem.run_bind,this]
   rfl
  ·subst hX;exact h.elim
 ·rw [ho] at hX
  simp only at hX
  split at hX
  ·rename_i k p k' q hp hq
   split at hX
   ·subst hX;exact divC_ok ho hp hq (.inl rfl) h
   ·subst hX;exact divC_ok ho hp hq (.inr (.inl rfl)) h
   ·split at hX
    ·rename_i hk
     subst hX;exact divC_ok ho hp hq (.inr (.inr (isK_ok hk))) h
    ·subst hX;exact h.elim
  ·rename_i p q hp hq
   split at hX
   ·subst hX
    obtain ⟨hle,hK⟩:=h
    refine ⟨_,hK,fun a hA w=>?_⟩
    have hg:=eqGuard_leaf (P:=P) .add t x y (.str p) (.str q) w
    simp only [Lf.enc] at hg
    have ep:a.eval x=.string p:=evG_ok hA (Holds.nil a) hp
    have eq:a.eval y=.string q:=evG_ok hA (Holds.nil a) hq
    simp only [execOp,ho,ep,eq]
    rw [Sem.run_bind,Sem.run_bind,hg]
    have hmx:IntKind.i64.max=9223372036854775807:=rfl
    rw [hmx] at hle
    simp [binOp,Op.stringOp,TV.enc,V1.enc,Lf.enc]
    omega
   ·subst hX;exact h.elim
  ·subst hX;exact h.elim
def Yields' (P:Program) (e:Env) (o:Oper) (v:TV) (l:Option (Pt × List Lf)):Prop:=∀ a,Agr e a→∀ w,(∀ p ls,l=some (p,ls)→Reads w p.b p.o ls)→(execOp a.eval o).run P w=.ok (.value v.enc) w
theorem fop_ok {o:Oper} {K:TV→Option (Pt × List Lf)→WP} (h:fopS P e o K w):(∀ x,o.op≠.defer x)∧∃ v l,K v l w∧(∀ p ls,l=some (p,ls)→Reads w p.b p.o ls)∧Yields' P e o v l:=by
 obtain ⟨Y,hX,h⟩:∃ Y,fopS P e o K=Y∧Y w:=⟨_,rfl,h⟩
 unfold fopS at hX
 have noR:∀ p ls,(none:Option (Pt × List Lf))=some (p,ls)→Reads w p.b p.o ls:=fun _ _ hh=>by cases hh
 split at hX
 ·rename_i v hv
  subst hX
  exact ⟨pureV_nd hv,v,none,h,noR,fun a hA w _=>pureV_ok hA (Holds.nil a) hv w⟩
 ·rename_i hpn
  split at hX
  ·rename_i t x ho
   refine ⟨by rw [ho];intro x;simp,?_⟩
   split at hX
   ·rename_i p hp
    have hrun:∀ a,Agr e a→∀ w v,(loadVar t p.addr).run P w=.ok v w→(execOp a.eval o).run P w=.ok (.value v) w:=by
     intro a hA w v hv
     simp only [execOp,ho,Instr.loadAt,evG_ok hA (Holds.nil a) hp,TV.enc,V1.enc,Lf.enc,Option.map_some,Instr.sureAddr,Sem.run_bind,Sem.run_pure,Result.andThen_ok,hv]
    split at hX
    ·rename_i k hk
     subst hX
     obtain ⟨y,hr,hK⟩:=h
     obtain ⟨hg,d,hd⟩:=shT_lf hk
     refine ⟨_,_,hK,fun p' ls hh=>by cases hh;exact hr,fun a hA w' hw=>hrun a hA w' _ (loadVar_lf hd hg (hw p _ rfl))⟩
    ·rename_i ks hk
     subst hX
     obtain ⟨y,hr,hK⟩:=h
     obtain ⟨hg,⟨d,hd⟩,hl⟩:=shT_agg hk
     refine ⟨_,_,hK,fun p' ls hh=>by cases hh;exact hr,fun a hA w' hw=>hrun a hA w' _ (loadVar_agg hd hg (by rw [Ks.len];exact hl) (hw p _ rfl))⟩
    ·subst hX;exact h.elim
   ·subst hX;exact h.elim
  ·rename_i x ho
   subst hX
   obtain ⟨v,h1,h2⟩:=nop_ok h hpn (.inl ⟨x,ho⟩)
   exact ⟨by rw [ho];intro x;simp,v,none,h1,noR,fun a hA w _=>h2 a hA w⟩
  ·rename_i t x i ho
   subst hX
   obtain ⟨v,h1,h2⟩:=nop_ok h hpn (.inr (.inl ⟨t,x,i,ho⟩))
   exact ⟨by rw [ho];intro x;simp,v,none,h1,noR,fun a hA w _=>h2 a hA w⟩
  ·rename_i t x i ho
   subst hX
   obtain ⟨v,h1,h2⟩:=nop_ok h hpn (.inr (.inr (.inl ⟨t,x,i,ho⟩)))
   exact ⟨by rw [ho];intro x;simp,v,none,h1,noR,fun a hA w _=>h2 a hA w⟩
  ·rename_i op t x y u ho
   subst hX
   obtain ⟨v,h1,h2⟩:=nop_ok h hpn (.inr (.inr (.inr ⟨op,t,x,y,u,ho⟩)))
   exact ⟨by rw [ho];intro x;simp,v,none,h1,noR,fun a hA w _=>h2 a hA w⟩
  ·subst hX;exact h.elim
end
end Go.X

namespace Go.X
variable {P : Program}
section
variable {r : Option Nat} {ops : Array Oper} {Q : Exit → Act → World → Prop}
def Done (L:Array Bool) (i:Nat):Prop:=L[i]?=some true
def Yld (P:Program) (r:Option Nat) (ops:Array Oper) (Q:Exit→Act→World→Prop) (i:Nat) (o:Oper) (sl:List Nat) (e:Env) (v:TV) (R:Option (Pt × List Lf)):Prop :=
 ∀ (a:Act) (w:World) (K:Act→World→Prop),(∀ s∈sl,EntOk a s (e.get s))→e.length=a.tmps.size→(∀ p ls,R=some (p,ls)→Reads w p.b p.o ls)→K (a.put o.dst v.enc) w→wpOpIn (Fr r) 0 P ops Q i K a w
structure Pend (P:Program) (r:Option Nat) (ops:Array Oper) (Q:Exit→Act→World→Prop) (e:Env) (lds:Lds) (w:World) (i:Nat) (o:Oper) (sl:List Nat) (v:TV) (R:Option (Pt × List Lf)):Prop where
 at':ops[i]?=some o
 fl:isF o.op=true
 haz:hazOk ops.toList i o sl=true
 yld:Yld P r ops Q i o sl e v R
 rd:∀ p ls,R=some (p,ls)→Reads w p.b p.o ls
 ld:∀ p ls,R=some (p,ls)→(i,p,ls)∈lds
 val:∀ d,o.dst=some d→d < e.length→e.get d=.val v
structure Inv (P:Program) (r:Option Nat) (ops:Array Oper) (Q:Exit→Act→World→Prop) (a0:Act) (w0:World) (L:Array Bool) (V:Nat) (e:Env) (lds:Lds) (ord:List Nat) (a:Act) (w:World):Prop where
 sz:L.size=ops.size
 bits:∀ i,bit V i=true↔i∈ord
 lt:∀ i∈ord,i < ops.size
 sub:∀ i,Done L i→i∈ord
 clo:∀ i o,ops[i]?=some o→Done L i→∀ k,bit (afterM o) k=true→Done L k
 ordc:∀ pre i post o,ord=pre++i :: post→ops[i]?=some o→∀ k,bit (afterM o) k=true→k∈pre
 pend:∀ i∈ord,¬ Done L i→∃ o sl v R,Pend P r ops Q e lds w i o sl v R
 len:e.length=a.tmps.size
 slot:∀ s,(∃ j o,j∈ord∧¬ Done L j∧ops[j]?=some o∧o.dst=some s)∨EntOk a s (e.get s)
 clean:∀ s,e.get s=.un∨∃ v,e.get s=.val v
 keep:KeepL (opsWrites ops.toList) a0 a
 df:a.defers=a0.defers
 dfr:Dfr w0 w
theorem Inv.vclo {a0 a:Act} {w0 w:World} {L:Array Bool} {V:Nat} {e:Env} {lds:Lds} {ord:List Nat} (h:Inv P r ops Q a0 w0 L V e lds ord a w) {i:Nat} {o:Oper} (hi:i∈ord) (ho:ops[i]?=some o) {k:Nat} (hk:bit (afterM o) k=true):k∈ord:=by
 obtain ⟨pre,post,hp⟩:=List.append_of_mem hi
 rw [hp]
 exact List.mem_append_left _ (h.ordc pre i post o hp ho k hk)
theorem list_at {i:Nat}:ops.toList[i]?=ops[i]?:=by simp
theorem clean_ent {e:Env} (h:∀ s,e.get s=.un∨∃ v,e.get s=.val v) {a a':Act} {s:Nat} (hs:a'.tmps[s]?=a.tmps[s]?) (hk:EntOk a s (e.get s)):EntOk a' s (e.get s):=by
 rcases h s with hh | ⟨v,hh⟩
 ·rw [hh];trivial
 ·rw [hh] at hk ⊢
  simp only [EntOk] at *
  rw [hs];exact hk
theorem Inv.slots {a0 a:Act} {w0 w:World} {L:Array Bool} {V:Nat} {e:Env} {lds:Lds} {ord:List Nat} (h:Inv P r ops Q a0 w0 L V e lds ord a w) {i:Nat} {o:Oper} {sl:List Nat} (hh:hazOk ops.toList i o sl=true)
  (hr:∀ k,bit (afterM o) k=true→Done L k):∀ s∈sl,EntOk a s (e.get s):=by
 intro s hs
 rcases h.slot s with ⟨j,oj,hj,hnd,hoj,hd⟩ | hk
 ·exfalso
  rcases hazL_ok hh j oj s (by rw [list_at];exact hoj) hd hs with h1 | ⟨h1,h2⟩ | ⟨h1,h2⟩
  ·rw [Nat.zero_add] at h1;exact hnd (hr j h1)
  ·obtain ⟨o',sl',v',R',hp⟩:=h.pend j hj hnd
   have:o'=oj:=by have:=hp.at';rw [hoj] at this;exact (Option.some.inj this).symm
   subst this
   rw [hp.fl] at h2;cases h2
  ·obtain ⟨o',sl',v',R',hp⟩:=h.pend j hj hnd
   have:o'=oj:=by have:=hp.at';rw [hoj] at this;exact (Option.some.inj this).symm
   subst this
   rw [hp.fl] at h2;cases h2
 ·exact hk
theorem guard_ok {o:Oper} {e:Env} {go skip:WP} {w:World} (h:guardS ops.toList o e go skip w) :
  (go w∧∀ a,Agr e a→Region.wanted o (yielded ops a.tmps)=true)∨(skip w∧∀ a,Agr e a→Region.wanted o (yielded ops a.tmps)=false):=by
 obtain ⟨Y,hX,h⟩:∃ Y,guardS ops.toList o e go skip=Y∧Y w:=⟨_,rfl,h⟩
 unfold guardS at hX
 split at hX
 ·rename_i hg
  subst hX
  exact .inl ⟨h,fun a _=>by unfold Region.wanted;rw [hg]⟩
 ·rename_i j want hg
  split at hX
  ·subst hX;exact h.elim
  ·rename_i sj hsj
   split at hX
   ·rename_i b hb
    have hw:∀ a,Agr e a→Region.wanted o (yielded ops a.tmps)=(some b == some want):=fun a hA=>by
     have hv:a.tmps[sj]?=some (.bool b):=hA.val hb
     rw [wanted_some hg,yielded_at hsj,hv]
    split at hX
    ·subst hX;exact .inl ⟨h,fun a hA=>by rw [hw a hA];rfl⟩
    ·subst hX;exact .inl ⟨h,fun a hA=>by rw [hw a hA];rfl⟩
    ·rename_i hn1 hn2
     subst hX
     refine .inr ⟨h,fun a hA=>?_⟩
     rw [hw a hA]
     cases b<;>cases want<;>first | rfl | exact (hn1 rfl rfl).elim | exact (hn2 rfl rfl).elim
   ·rename_i hb
    subst hX
    refine .inr ⟨h,fun a hA=>?_⟩
    have hv:a.tmps[sj]?=some undef:=hA.val hb
    rw [wanted_some hg,yielded_at hsj,hv]
    rfl
   ·subst hX;exact h.elim
theorem brS_ok {g:Bool} {o:Oper} {e:Env} {k:Env→WP} {v:TV} {w:World} (h:brS g o e k v w):k (setE e o.dst v) w:=by
 cases g with
 | false=>exact h
 | true =>
  obtain ⟨Y,hX,h⟩:∃ Y,brS true o e k v=Y∧Y w:=⟨_,rfl,h⟩
  simp only [brS] at hX
  split at hX
  ·rename_i b
   subst hX
   cases b<;>exact h
  ·subst hX;exact h
theorem put_other (a:Act) (d:Option Nat) (v:Value) {s:Nat} (h:d≠some s):(a.put d v).tmps[s]?=a.tmps[s]?:=by
 cases d with
 | none=>rfl
 | some d=>rw [tmps_put,if_neg (fun hh=>h (by rw [hh.1]))]
theorem put_keep {a0 a:Act} {i:Nat} {o:Oper} {v:Value} (hi:ops[i]?=some o) (h:KeepL (opsWrites ops.toList) a0 a):KeepL (opsWrites ops.toList) a0 (a.put o.dst v):=by
 refine ⟨by rw [size_put,h.size],fun n hn=>?_⟩
 have:o.dst≠some n:=by
  intro hd
  have hm:o∈ops.toList:=by have:=Array.mem_of_getElem? hi;exact Array.mem_toList_iff.2 this
  have:memN n (opsWrites ops.toList)=true:=by
   clear hn h hi
   generalize ops.toList=l at hm
   induction l with
   | nil=>cases hm
   | cons x l ih =>
    rcases List.mem_cons.1 hm with rfl | hm
    ·simp only [opsWrites,hd,memN,Nat.beq_refl,Bool.true_or]
    ·simp only [opsWrites]
     split
     ·simp only [memN,ih hm,Bool.or_true]
     ·exact ih hm
  rw [this] at hn;cases hn
 rw [put_other a o.dst v this,h.same n hn]
theorem Inv.take {a0 a:Act} {w0 w:World} {L:Array Bool} {V:Nat} {e:Env} {lds:Lds} {ord:List Nat} (h:Inv P r ops Q a0 w0 L V e lds ord a w) {i:Nat} {o:Oper} {sl:List Nat} {v:TV} {R:Option (Pt × List Lf)}
  (hi:i∈ord) (hp:Pend P r ops Q e lds w i o sl v R) (hnd:¬ Done L i) (hr:∀ k,bit (afterM o) k=true→Done L k) :
  Inv P r ops Q a0 w0 (L.setIfInBounds i true) V e lds ord (a.put o.dst v.enc) w:=by
 have hlt:=h.lt i hi
 have hD:∀ k,Done (L.setIfInBounds i true) k↔k=i∨Done L k:=fun k=>by
  unfold Done
  by_cases hk:k=i
  ·subst hk;simp [h.sz,hlt]
  ·rw [Array.getElem?_setIfInBounds_ne (Ne.symm hk)];simp [hk]
 refine ⟨by simp [h.sz],h.bits,h.lt,fun k hk=>?_,fun k ok hok hk m hm=>?_,h.ordc,fun k hk hnk=>h.pend k hk (fun hh=>hnk ((hD k).2 (.inr hh))),by rw [size_put,h.len],fun s=>?_,h.clean,put_keep hp.at' h.keep,by rw [defers_put,h.df],h.dfr⟩
 ·rcases (hD k).1 hk with rfl | hk
  ·exact hi
  ·exact h.sub k hk
 ·rcases (hD k).1 hk with rfl | hk
  ·have:ok=o:=by rw [hp.at'] at hok;exact (Option.some.inj hok).symm
   subst this
   exact (hD m).2 (.inr (hr m hm))
  ·exact (hD m).2 (.inr (h.clo k ok hok hk m hm))
 ·by_cases hds:o.dst=some s
  ·right
   by_cases hl:s < e.length
   ·rw [hp.val s hds hl]
    simp only [EntOk]
    rw [hds,tmps_put,if_pos ⟨rfl,by rw [← h.len];exact hl⟩]
   ·rw [Env.get_past e s (Nat.not_lt.1 hl)];trivial
  ·rcases h.slot s with ⟨j,oj,hj,hnj,hoj,hdj⟩ | hk
   ·by_cases hji:j=i
    ·subst hji
     have:oj=o:=by rw [hp.at'] at hoj;exact (Option.some.inj hoj).symm
     subst this
     exact absurd hdj hds
    ·exact .inl ⟨j,oj,hj,fun hh=>((hD j).1 hh).elim hji hnj,hoj,hdj⟩
   ·exact .inr (clean_ent h.clean (put_other a o.dst _ hds) hk)
theorem setE_clean {e:Env} (h:∀ s,e.get s=.un∨∃ v,e.get s=.val v) (d:Option Nat) (v:TV):∀ s,(setE e d v).get s=.un∨∃ u,(setE e d v).get s=.val u:=by
 intro s
 rw [setE_get]
 split
 ·exact .inr ⟨v,rfl⟩
 ·exact h s
theorem Pend.ahead {e:Env} {lds lds':Lds} {w w':World} {j:Nat} {oj:Oper} {sl:List Nat} {v u:TV} {R:Option (Pt × List Lf)} {d:Option Nat} (h:Pend P r ops Q e lds w j oj sl v R)
  (hsl:∀ s∈sl,d≠some s) (hne:∀ s,oj.dst=some s→d≠some s) (hl:∀ x∈lds,x∈lds') (hw:∀ p ls,R=some (p,ls)→Reads w' p.b p.o ls):Pend P r ops Q (setE e d u) lds' w' j oj sl v R:=by
 refine ⟨h.at',h.fl,h.haz,fun a w K h1 h2 h3 h4=>h.yld a w K (fun s hs=>?_) (by rw [← h2,setE_len]) h3 h4,hw,fun p ls hh=>hl _ (h.ld p ls hh),fun s hs hlt=>?_⟩
 ·have:=h1 s hs
  rw [setE_get,if_neg (fun hh=>hsl s hs hh.1)] at this
  exact this
 ·rw [setE_len] at hlt
  rw [setE_get,if_neg (fun hh=>hne s hs hh.1)]
  exact h.val s hs hlt
theorem Inv.know {a0 a:Act} {w0 w:World} {L:Array Bool} {V:Nat} {e:Env} {lds lds':Lds} {ord:List Nat} (h:Inv P r ops Q a0 w0 L V e lds ord a w) (hdis:distinctD ops.toList=true) {i:Nat} {o:Oper} {sl:List Nat} {v:TV} {R:Option (Pt × List Lf)}
  (ho:ops[i]?=some o) (hok:okD ops.toList i o sl V=true) (hF:isF o.op=true) (hl:∀ x∈lds,x∈lds') (hR:∀ p ls,R=some (p,ls)→Reads w p.b p.o ls∧(i,p,ls)∈lds') (hy:Yld P r ops Q i o sl e v R) :
  Inv P r ops Q a0 w0 L (setb V i) (setE e o.dst v) lds' (ord++[i]) a w:=by
 simp only [okD,Bool.and_eq_true,Bool.not_eq_true'] at hok
 obtain ⟨hni,hsub,hhaz⟩:=hok
 have hni':i ∉ ord:=fun hh=>by rw [(h.bits i).2 hh] at hni;cases hni
 have hlt:i < ops.size:=(Array.getElem?_eq_some_iff.1 ho).1
 have hndi:¬ Done L i:=fun hh=>hni' (h.sub i hh)
 have haft:∀ k,bit (afterM o) k=true→k∈ord:=fun k hk=>(h.bits k).1 ((sub_ok.1 hsub) k hk)
 have hown:∀ s∈sl,o.dst≠some s:=by
  intro s hs hd
  rcases hazL_ok hhaz i o s (by rw [list_at];exact ho) hd hs with h1 | ⟨h1,h2⟩ | ⟨h1,h2⟩
  ·rw [Nat.zero_add] at h1;exact hni' (haft i h1)
  ·rw [hF] at h2;cases h2
  ·rw [hF] at h2;cases h2
 refine ⟨h.sz,fun k=>?_,fun k hk=>?_,fun k hk=>List.mem_append_left _ (h.sub k hk),h.clo,fun pre k post ok hp hok k' hk'=>?_,fun k hk hnk=>?_,by rw [setE_len,h.len],fun s=>?_,setE_clean h.clean _ _,h.keep,h.df,h.dfr⟩
 ·rw [bit_set]
  simp only [Bool.or_eq_true,h.bits k,decide_eq_true_eq,List.mem_append,List.mem_singleton,@eq_comm _ i k]
 ·rcases List.mem_append.1 hk with hk | hk
  ·exact h.lt k hk
  ·rw [List.mem_singleton] at hk;rw [hk];exact hlt
 ·rcases List.append_eq_append_iff.1 hp with ⟨as,h1,h2⟩ | ⟨as,h1,h2⟩
  ·cases as with
   | nil =>
    simp at h1 h2
    obtain ⟨rfl,_⟩:=h2
    have:ok=o:=by rw [ho] at hok;exact (Option.some.inj hok).symm
    subst this
    rw [h1];exact haft k' hk'
   | cons x as=>simp at h2
  ·cases as with
   | nil =>
    simp at h1 h2
    obtain ⟨rfl,_⟩:=h2
    have:ok=o:=by rw [ho] at hok;exact (Option.some.inj hok).symm
    subst this
    rw [← h1];exact haft k' hk'
   | cons x as =>
    simp at h2
    obtain ⟨rfl,h2⟩:=h2
    exact h.ordc pre k as ok h1 hok k' hk'
 ·rcases List.mem_append.1 hk with hk | hk
  ·obtain ⟨oj,sj,vj,Rj,hp⟩:=h.pend k hk hnk
   refine ⟨oj,sj,vj,Rj,hp.ahead (fun s hs hd=>?_) (fun s hs hd=>?_) hl hp.rd⟩
   ·rcases hazL_ok hp.haz i o s (by rw [list_at];exact ho) hd hs with h1 | ⟨h1,h2⟩ | ⟨h1,h2⟩
    ·rw [Nat.zero_add] at h1;exact hni' (h.vclo hk hp.at' h1)
    ·rw [hF] at h2;cases h2
    ·rw [hF] at h2;cases h2
   ·have:=distinct_ok hdis i k o oj s (by rw [list_at];exact ho) (by rw [list_at];exact hp.at') hd hs
    exact hni' (this ▸ hk)
  ·rw [List.mem_singleton] at hk
   subst hk
   refine ⟨o,sl,v,R,ho,hF,hhaz,fun a w K h1 h2 h3 h4=>hy a w K (fun s hs=>?_) (by rw [← h2,setE_len]) h3 h4,fun p ls hh=>(hR p ls hh).1,fun p ls hh=>(hR p ls hh).2,fun d hd hlt=>?_⟩
   ·have:=h1 s hs
    rw [setE_get,if_neg (fun hh=>hown s hs hh.1)] at this
    exact this
   ·rw [setE_len] at hlt
    rw [setE_get,if_pos ⟨hd,hlt⟩]
 ·by_cases hd:o.dst=some s
  ·exact .inl ⟨i,o,by simp,hndi,ho,hd⟩
  ·rcases h.slot s with ⟨j,oj,hj,hnj,hoj,hdj⟩ | hk
   ·exact .inl ⟨j,oj,List.mem_append_left _ hj,hnj,hoj,hdj⟩
   ·right
    rw [setE_get,if_neg (fun hh=>hd hh.1)]
    exact hk
theorem Inv.turn {a0 a : Act} {w0 w w' : World} {L : Array Bool} {V : Nat} {e : Env} {lds : Lds} {ord : List Nat} (h : Inv P r ops Q a0 w0 L V e lds ord a w) (hdis : distinctD ops.toList = true) {i : Nat} {o : Oper} {sl : List Nat} {v : TV}
    (ho : ops[i]? = some o) (hok : okD ops.toList i o sl V = true) (hr : ∀ k, bit (afterM o) k = true → Done L k)
    (hrd : ∀ j p ls, (j, p, ls) ∈ lds → bit (ancM ops.toList i) j = false → Reads w p.b p.o ls → Reads w' p.b p.o ls) (hdf : Dfr w w') :
    Inv P r ops Q a0 w0 (L.setIfInBounds i true) (setb V i) (setE e o.dst v) lds (ord ++ [i]) (a.put o.dst v.enc) w' := by
  simp only [okD, Bool.and_eq_true, Bool.not_eq_true'] at hok
  obtain ⟨hni, hsub, hhaz⟩ := hok
  have hni' : i ∉ ord := fun hh => by rw [(h.bits i).2 hh] at hni; cases hni
  have hlt : i < ops.size := (Array.getElem?_eq_some_iff.1 ho).1
  have hndi : ¬ Done L i := fun hh => hni' (h.sub i hh)
  have haft : ∀ k, bit (afterM o) k = true → k ∈ ord := fun k hk => (h.bits k).1 ((sub_ok.1 hsub) k hk)
  have hD : ∀ k, Done (L.setIfInBounds i true) k ↔ k = i ∨ Done L k := fun k => by
    unfold Done
    by_cases hk : k = i
    · subst hk; simp [h.sz, hlt]
    · rw [Array.getElem?_setIfInBounds_ne (Ne.symm hk)]; simp [hk]
  have hanc : ∀ k, bit (ancM ops.toList i) k = true → k = i ∨ Done L k := by
    intro k hk
    refine ancs_ok (D := fun k => k = i ∨ Done L k) ops.toList [] ops.toList (by simp) (by simp) ?_ ?_ i (.inl rfl) k hk
    · intro j oj hoj hj m hm
      rw [list_at] at hoj
      rcases hj with hj | hj
      · have : oj = o := by rw [hj, ho] at hoj; exact (Option.some.inj hoj).symm
        subst this
        exact .inr (hr m hm)
      · exact .inr (h.clo j oj hoj hj m hm)
    · intro j _ k hk
      simp [bit] at hk
  refine ⟨by simp [h.sz], fun k => ?_, fun k hk => ?_, fun k hk => ?_, fun k ok hok hk m hm => ?_, fun pre k post ok hp hok k' hk' => ?_, fun k hk hnk => ?_, by rw [setE_len, size_put, h.len], fun s => ?_, setE_clean h.clean _ _, put_keep ho h.keep, by rw [defers_put, h.df], h.dfr.trans hdf⟩
  · rw [bit_set]
    simp only [Bool.or_eq_true, h.bits k, decide_eq_true_eq, List.mem_append, List.mem_singleton, @eq_comm _ i k]
  · rcases List.mem_append.1 hk with hk | hk
    · exact h.lt k hk
    · rw [List.mem_singleton] at hk; rw [hk]; exact hlt
  · rcases (hD k).1 hk with rfl | hk
    · simp
    · exact List.mem_append_left _ (h.sub k hk)
  · rcases (hD k).1 hk with rfl | hk
    · have : ok = o := by rw [ho] at hok; exact (Option.some.inj hok).symm
      subst this
      exact (hD m).2 (.inr (hr m hm))
    · exact (hD m).2 (.inr (h.clo k ok hok hk m hm))
  · rcases List.append_eq_append_iff.1 hp with ⟨as, h1, h2⟩ | ⟨as, h1, h2⟩
    · cases as with
      | nil =>
        simp at h1 h2
        obtain ⟨rfl, _⟩ := h2
        have : ok = o := by rw [ho] at hok; exact (Option.some.inj hok).symm
        subst this
        rw [h1]; exact haft k' hk'
      | cons x as => simp at h2
    · cases as with
      | nil =>
        simp at h1 h2
        obtain ⟨rfl, _⟩ := h2
        have : ok = o := by rw [ho] at hok; exact (Option.some.inj hok).symm
        subst this
        rw [← h1]; exact haft k' hk'
      | cons x as =>
        simp at h2
        obtain ⟨rfl, h2⟩ := h2
        exact h.ordc pre k as ok h1 hok k' hk'
  · have hki : k ≠ i := fun hh => hnk ((hD k).2 (.inl hh))
    have hkd : ¬ Done L k := fun hh => hnk ((hD k).2 (.inr hh))
    have hk : k ∈ ord := by
      rcases List.mem_append.1 hk with hk | hk
      · exact hk
      · rw [List.mem_singleton] at hk; exact absurd hk hki
    obtain ⟨oj, sj, vj, Rj, hp⟩ := h.pend k hk hkd
    refine ⟨oj, sj, vj, Rj, hp.ahead (fun s hs hd => ?_) (fun s hs hd => ?_) (fun _ hx => hx) (fun p ls hh => hrd k p ls (hp.ld p ls hh) ?_ (hp.rd p ls hh))⟩
    · rcases hazL_ok hp.haz i o s (by rw [list_at]; exact ho) hd hs with h1 | ⟨h1, h2⟩ | ⟨h1, h2⟩
      · rw [Nat.zero_add] at h1; exact hni' (h.vclo hk hp.at' h1)
      · exact hkd (hr k h1)
      · rw [Nat.zero_add] at h1; exact hki h1
    · have := distinct_ok hdis i k o oj s (by rw [list_at]; exact ho) (by rw [list_at]; exact hp.at') hd hs
      exact hni' (this ▸ hk)
    · cases hb : bit (ancM ops.toList i) k with
      | false => rfl
      | true => rcases hanc k hb with hh | hh
                · exact absurd hh hki
                · exact absurd hh hkd
  · by_cases hds : o.dst = some s
    · right
      rw [setE_get]
      by_cases hl : s < e.length
      · rw [if_pos ⟨hds, hl⟩]
        simp only [EntOk]
        rw [hds, tmps_put, if_pos ⟨rfl, by rw [← h.len]; exact hl⟩]
      · rw [if_neg (fun hh => hl hh.2), Env.get_past e s (Nat.not_lt.1 hl)]; trivial
    · rcases h.slot s with ⟨j, oj, hj, hnj, hoj, hdj⟩ | hk
      · refine .inl ⟨j, oj, List.mem_append_left _ hj, fun hh => ((hD j).1 hh).elim (fun hji => ?_) hnj, hoj, hdj⟩
        subst hji
        exact hni' hj
      · right
        rw [setE_get, if_neg (fun hh => hds hh.1)]
        exact clean_ent h.clean (put_other a o.dst _ hds) hk
theorem run_f {a0 a:Act} {w0 w:World} {L:Array Bool} {K:Env→WP} (hdis:distinctD ops.toList=true):∀ (t:DT) (V:Nat) (e:Env) (lds:Lds) (ord:List Nat),Inv P r ops Q a0 w0 L V e lds ord a w→drawS P ops.toList K t V 0 e lds w →
  ∃ t' V' e' lds' ord',(t'=.fin∨isW t'=true)∧Inv P r ops Q a0 w0 L V' e' lds' ord' a w∧drawS P ops.toList K t' V' 0 e' lds' w
 | .fin,V,e,lds,ord,h,hd=>⟨_,_,_,_,_,.inl rfl,h,hd⟩
 | .w i sl t,V,e,lds,ord,h,hd=>⟨_,_,_,_,_,.inr rfl,h,hd⟩
 | .wa i sl t alt,V,e,lds,ord,h,hd=>⟨_,_,_,_,_,.inr rfl,h,hd⟩
 | .f i sl t,V,e,lds,ord,h,hd=>by
  obtain ⟨Y,hX,hd⟩:∃ Y,drawS P ops.toList K (.f i sl t) V 0 e lds=Y∧Y w:=⟨_,rfl,hd⟩
  simp only [drawS] at hX
  split at hX
  ·subst hX;exact hd.elim
  ·rename_i o ho
   rw [list_at] at ho
   split at hX
   ·rename_i hok
    subst hX
    simp only [Bool.and_eq_true] at hok
    obtain ⟨hok,hF⟩:=hok
    rcases guard_ok hd with ⟨hg,hw⟩ | ⟨hg,hw⟩
    ·obtain ⟨hnd,v,l,hk,hR,hy⟩:=fop_ok hg
     have hk:=brS_ok hk
     have hinv:=h.know (lds':=addL i l lds) (R:=l) (v:=v) hdis ho hok hF (fun x hx=>by cases l with
      | none=>exact hx
      | some q=>exact List.mem_cons_of_mem _ hx) (fun p ls hh=>⟨hR p ls hh,by rw [hh];exact List.mem_cons_self⟩) (fun a w K h1 h2 h3 h4=>by
       have hA:=agr_keep h2 h1
       unfold wpOpIn
       rw [ho]
       simp only
       rw [if_pos (hw a hA)]
       refine ⟨fun f _=>trivial,?_⟩
       rw [Oper.semAt_eq _ _ _ hnd,hy a hA w h3]
       exact h4)
     exact run_f hdis t _ _ _ _ hinv hk
    ·have hinv:=h.know (lds':=lds) (R:=none) (v:=und) hdis ho hok hF (fun x hx=>hx) (fun p ls hh=>by cases hh) (fun a w K h1 h2 h3 h4=>by
       have hA:=agr_keep h2 h1
       unfold wpOpIn
       rw [ho]
       simp only
       rw [if_neg (by rw [hw a hA];simp)]
       exact ⟨fun f _=>trivial,h4⟩)
     exact run_f hdis t _ _ _ _ hinv hg
   ·subst hX;exact hd.elim
def Next (P:Program) (ops:Array Oper) (K:Env→WP) (i:Nat) (V:Nat) (e:Env) (lds:Lds) (w:World):Prop :=
 ∃ o sl t,ops[i]?=some o∧okD ops.toList i o sl V=true∧guardS ops.toList o (keepE sl 0 e) (opS P (keepE sl 0 e) [] o fun v=>chks lds (ancM ops.toList i) (brS (gBy i ops.toList) o e (fun e'=>drawS P ops.toList K t (setb V i) 0 e' lds) v)) (drawS P ops.toList K t (setb V i) 0 (setE e o.dst und) lds) w
theorem next_ok {K:Env→WP} {V:Nat} {e:Env} {lds:Lds} {w:World} {i:Nat} {o:Oper} (ho:ops[i]?=some o) (hV:bit V i=false) (hs:subM (afterM o) V=true):∀ (t:DT) (C:Nat),isW t=true→drawS P ops.toList K t V C e lds w→bit C i=false→Next P ops K i V e lds w
 | .fin,_,h,_,_=>by cases h
 | .f _ _ _,_,h,_,_=>by cases h
 | .w j sl t,C,_,hd,hC=>by
  obtain ⟨Y,hX,hd⟩:∃ Y,drawS P ops.toList K (.w j sl t) V C e lds=Y∧Y w:=⟨_,rfl,hd⟩
  simp only [drawS] at hX
  split at hX
  ·subst hX;exact hd.elim
  ·rename_i oj hoj
   rw [list_at] at hoj
   split at hX
   ·rename_i hok
    subst hX
    simp only [Bool.and_eq_true] at hok
    obtain ⟨hok,hcov⟩:=hok
    by_cases hij:j=i
    ·subst hij;exact ⟨oj,sl,t,hoj,hok,hd⟩
    ·exfalso
     rcases covL_ok hcov i o (by rw [list_at];exact ho) with h1 | h1 | h1
     ·rw [Nat.zero_add,hV] at h1;cases h1
     ·rw [Nat.zero_add,bit_set,hC] at h1;simp at h1;exact hij h1
     ·rw [hs] at h1;cases h1
   ·subst hX;exact hd.elim
 | .wa j sl t alt,C,_,hd,hC=>by
  obtain ⟨Y,hX,hd⟩:∃ Y,drawS P ops.toList K (.wa j sl t alt) V C e lds=Y∧Y w:=⟨_,rfl,hd⟩
  simp only [drawS] at hX
  split at hX
  ·subst hX;exact hd.elim
  ·rename_i oj hoj
   rw [list_at] at hoj
   split at hX
   ·rename_i hok
    subst hX
    simp only [Bool.and_eq_true] at hok
    obtain ⟨hok,hW⟩:=hok
    by_cases hij:j=i
    ·subst hij;exact ⟨oj,sl,t,hoj,hok,hd.1⟩
    ·exact next_ok ho hV hs alt (setb C j) hW hd.2 (by rw [bit_set,hC];simpa using hij)
   ·subst hX;exact hd.elim
theorem ready_iff {L:Array Bool} (hsz:L.size=ops.size) {i:Nat}:i∈Region.ready .any ops L↔∃ o,ops[i]?=some o∧¬ Done L i∧∀ k,bit (afterM o) k=true→Done L k:=by
 unfold Region.ready
 rw [List.mem_filter,List.mem_range]
 constructor
 ·rintro ⟨hlt,h⟩
  have ho:ops[i]?=some ops[i]:=Array.getElem?_eq_getElem hlt
  refine ⟨ops[i],ho,?_,?_⟩
  ·intro hd
   unfold Done at hd
   simp [Array.getD_eq_getD_getElem?,hd] at h
  ·intro k hk
   obtain ⟨e,he,hb,hek⟩:=afterL_ok.1 hk
   simp only [Bool.and_eq_true,ho,Option.map_some,Option.getD_some] at h
   have h2:=h.2
   rw [← Array.all_toList,List.all_eq_true] at h2
   have h2:=h2 e he
   rw [hb,hek] at h2
   simp [Array.getD_eq_getD_getElem?] at h2
   unfold Done
   cases hL:L[k]? with
   | none=>rw [hL] at h2;simp at h2
   | some b=>rw [hL] at h2;simp at h2;rw [h2]
 ·rintro ⟨o,ho,hnd,h⟩
  obtain ⟨hlt,hoe⟩:=Array.getElem?_eq_some_iff.1 ho
  refine ⟨hlt,?_⟩
  have hL:L[i]?=some L[i]:=Array.getElem?_eq_getElem (by omega)
  have hf:L[i]=false:=by
   cases hh:L[i] with
   | false=>rfl
   | true=>exact absurd (by unfold Done;rw [hL,hh]) hnd
  rw [Bool.and_eq_true]
  refine ⟨by simp [Array.getD_eq_getD_getElem?,hL,hf],?_⟩
  simp only [ho,Option.map_some,Option.getD_some]
  rw [← Array.all_toList,List.all_eq_true]
  intro e he
  cases hb:Region.binds .any e with
  | false=>simp
  | true =>
   have:=h e.on (afterL_ok.2 ⟨e,he,hb,rfl⟩)
   unfold Done at this
   simp [Array.getD_eq_getD_getElem?,this]
theorem count_set {L:Array Bool} {i n:Nat} (hlt:i < L.size) (hnd:¬ Done L i) (h:L.toList.count false≤n+1):(L.setIfInBounds i true).toList.count false≤n:=by
 have hL:L[i]=false:=by
  cases hh:L[i] with
  | false=>rfl
  | true=>exact absurd (by unfold Done;rw [Array.getElem?_eq_getElem hlt,hh]) hnd
 have h1:(L.setIfInBounds i true).toList=L.toList.set i true:=by simp
 rw [h1,List.count_set (by simpa using hlt)]
 have:L.toList[i]'(by simpa using hlt)=false:=by simpa using hL
 simp only [this]
 have hpos:0 < L.toList.count false:=List.count_pos_iff.2 (by rw [← this];exact List.getElem_mem _)
 generalize L.toList.count false=N at *
 simp
 omega
theorem draw_main {a0:Act} {w0:World} {K:Env→WP} (hdis:distinctD ops.toList=true) (hQ:∀ e' a' w',Agr e' a'→KeepL (opsWrites ops.toList) a0 a'→a'.defers=a0.defers→Dfr w0 w'→K e' w'→Q .normal a' w') :
  ∀ (fuel:Nat) (L:Array Bool) (a:Act) (w:World) (V:Nat) (e:Env) (lds:Lds) (ord:List Nat) (t:DT),(t=.fin∨isW t=true)→Inv P r ops Q a0 w0 L V e lds ord a w→drawS P ops.toList K t V 0 e lds w →
   L.toList.count false≤fuel→wpAnyIn (Fr r) 0 P .any ops Q fuel L a w:=by
 have fin:∀ (L:Array Bool) (a:Act) (w:World) (V:Nat) (e:Env) (lds:Lds) (ord:List Nat) (t:DT),(t=.fin∨isW t=true)→Inv P r ops Q a0 w0 L V e lds ord a w→drawS P ops.toList K t V 0 e lds w →
   Region.ready .any ops L=[]→Q .normal a w:=by
  intro L a w V e lds ord t ht h hd hr
  have nor:∀ i o,ops[i]?=some o→¬ Done L i→(∀ k,bit (afterM o) k=true→Done L k)→False:=fun i o ho hn hk=>by
   have:i∈Region.ready .any ops L:=(ready_iff h.sz).2 ⟨o,ho,hn,hk⟩
   rw [hr] at this;cases this
  have hall:∀ i∈ord,Done L i:=by
   have:∀ (post pre:List Nat),ord=pre++post→(∀ i∈pre,Done L i)→∀ i∈post,Done L i:=by
    intro post
    induction post with
    | nil=>intro pre _ _ i hi;cases hi
    | cons x post ih =>
     intro pre hp hpre
     have hlt:=h.lt x (by rw [hp];simp)
     have ho:ops[x]?=some ops[x]:=Array.getElem?_eq_getElem hlt
     have hx:Done L x:=Classical.byContradiction fun hn=>nor x _ ho hn fun k hk=>hpre k (h.ordc pre x post _ hp ho k hk)
     intro i hi
     rcases List.mem_cons.1 hi with rfl | hi
     ·exact hx
     ·exact ih (pre++[x]) (by rw [hp];simp) (fun j hj=>by
       rcases List.mem_append.1 hj with hj | hj
       ·exact hpre j hj
       ·rw [List.mem_singleton] at hj;rw [hj];exact hx) i hi
   exact this ord [] rfl (fun _ hh=>by cases hh)
  have hA:Agr e a:=⟨h.len,fun s=>by
   rcases h.slot s with ⟨j,oj,hj,hnj,_⟩ | hk
   ·exact absurd (hall j hj) hnj
   ·exact hk⟩
  have stuckW:∀ j o (sl:List Nat),ops[j]?=some o→okD ops.toList j o sl V=true→False:=fun j o sl ho hok=>by
   simp only [okD,Bool.and_eq_true,Bool.not_eq_true'] at hok
   refine nor j o ho (fun hdn=>?_) (fun k hk=>hall k ((h.bits k).1 ((sub_ok.1 hok.2.1) k hk)))
   rw [(h.bits j).2 (h.sub j hdn)] at hok
   exact absurd hok.1 (by simp)
  obtain ⟨Y,hX,hd⟩:∃ Y,drawS P ops.toList K t V 0 e lds=Y∧Y w:=⟨_,rfl,hd⟩
  cases t with
  | fin =>
   simp only [drawS] at hX
   split at hX
   ·subst hX;exact hQ e a w hA h.keep h.df h.dfr hd
   ·subst hX;exact hd.elim
  | f i sl t=>rcases ht with ht | ht<;>cases ht
  | w i sl t =>
   simp only [drawS] at hX
   split at hX
   ·subst hX;exact hd.elim
   ·rename_i o ho
    rw [list_at] at ho
    split at hX
    ·rename_i hok
     simp only [Bool.and_eq_true] at hok
     exact (stuckW i o sl ho hok.1).elim
    ·subst hX;exact hd.elim
  | wa i sl t alt =>
   simp only [drawS] at hX
   split at hX
   ·subst hX;exact hd.elim
   ·rename_i o ho
    rw [list_at] at ho
    split at hX
    ·rename_i hok
     simp only [Bool.and_eq_true] at hok
     exact (stuckW i o sl ho hok.1).elim
    ·subst hX;exact hd.elim
 intro fuel
 induction fuel with
 | zero =>
  intro L a w V e lds ord t ht h hd hc
  have hr:Region.ready .any ops L=[]:=by
   rw [List.eq_nil_iff_forall_not_mem]
   intro i hi
   obtain ⟨o,ho,hn,_⟩:=(ready_iff h.sz).1 hi
   have hlt:=(Array.getElem?_eq_some_iff.1 ho).1
   have hltL:i < L.size:=by rw [h.sz];exact hlt
   have hL:L[i]=false:=by
    cases hh:L[i] with
    | false=>rfl
    | true=>exact absurd (by unfold Done;rw [Array.getElem?_eq_getElem hltL,hh]) hn
   have:0 < L.toList.count false:=List.count_pos_iff.2 (by rw [← hL];exact Array.mem_toList_iff.2 (Array.getElem_mem hltL))
   omega
  exact ⟨hr,fin L a w V e lds ord t ht h hd hr⟩
 | succ fuel ih =>
  intro L a w V e lds ord t ht h hd hc
  refine ⟨fin L a w V e lds ord t ht h hd,fun i hi=>?_⟩
  obtain ⟨o,ho,hn,hr⟩:=(ready_iff h.sz).1 hi
  have hlt:=(Array.getElem?_eq_some_iff.1 ho).1
  have hcnt:=count_set (by rw [h.sz];exact hlt) hn hc
  by_cases hio:i∈ord
  ·obtain ⟨o',sl,v,R,hp⟩:=h.pend i hio hn
   have:o'=o:=by have:=hp.at';rw [ho] at this;exact (Option.some.inj this).symm
   subst this
   exact hp.yld a w _ (h.slots hp.haz hr) h.len hp.rd (ih _ _ _ _ _ _ _ t ht (h.take hio hp hn hr) hd hcnt)
  ·have hVi:bit V i=false:=by
    cases hb:bit V i with
    | false=>rfl
    | true=>exact absurd ((h.bits i).1 hb) hio
   have hsub:subM (afterM o) V=true:=sub_ok.2 fun k hk=>(h.bits k).2 (h.sub k (hr k hk))
   rcases ht with rfl | hW
   ·exfalso
    simp only [drawS] at hd
    cases hf:fullL V ops.toList 0 with
    | false=>rw [hf] at hd;exact hd.elim
    | true =>
     have:=fullL_ok hf i (by simpa using hlt)
     rw [Nat.zero_add,hVi] at this;cases this
   ·obtain ⟨o',sl,t',ho',hok,hg⟩:=next_ok ho hVi hsub t 0 hW hd (by simp [bit])
    have:o'=o:=by rw [ho] at ho';exact (Option.some.inj ho').symm
    subst this
    have hhaz:hazOk ops.toList i o' sl=true:=by
     simp only [okD,Bool.and_eq_true] at hok;exact hok.2.2
    have hA:=agr_keep h.len (h.slots hhaz hr)
    unfold wpOpIn
    rw [ho]
    simp only
    rcases guard_ok hg with ⟨hgo,hw⟩ | ⟨hsk,hw⟩
    ·rw [if_pos (hw a hA)]
     refine opS_ok hA (Holds.nil a) hgo _ Q ?_
     intro v w' hdf hk
     obtain ⟨hk,hrd⟩:=chks_ok hk
     have hk:=brS_ok hk
     have hinv:=h.turn hdis (v:=v) ho hok hr (fun j p ls h1 h2 _=>hrd j p ls h1 h2) hdf
     obtain ⟨t2,V2,e2,lds2,ord2,ht2,hinv2,hd2⟩:=run_f hdis t' _ _ _ _ hinv hk
     exact ih _ _ _ _ _ _ _ t2 ht2 hinv2 hd2 hcnt
    ·rw [if_neg (by rw [hw a hA];simp)]
     refine ⟨fun f _=>trivial,?_⟩
     have hinv:=h.turn hdis (v:=und) (w':=w) ho hok hr (fun j p ls _ _ hh=>hh) (Dfr.refl w)
     obtain ⟨t2,V2,e2,lds2,ord2,ht2,hinv2,hd2⟩:=run_f hdis t' _ _ _ _ hinv hsk
     exact ih _ _ _ _ _ _ _ t2 ht2 hinv2 hd2 hcnt
theorem cleanE_cl (e:Env):∀ s,(cleanE e).get s=.un∨∃ v,(cleanE e).get s=.val v:=by
 induction e with
 | nil=>intro s;exact .inl rfl
 | cons x e ih=>intro s;cases s with
  | zero=>cases x<;>simp [cleanE,Env.get]
  | succ i=>cases x<;>simpa [cleanE,Env.get] using ih i
theorem draw_ok {id:Nat} {a:Act} {w:World} {e:Env} {K:Env→WP} {t:DT} (hm:P.follows .mixedOrders=true) (hdis:distinctD ops.toList=true) (hA:Agr (cleanE e) a) (h:drw (drawS P ops.toList K t 0 0 (cleanE e) []) w)
  (hQ:∀ e' a' w',Agr e' a'→KeepL (opsWrites ops.toList) a a'→a'.defers=a.defers→Dfr w w'→K e' w'→Q .normal a' w'):(Code.region id ops true).wpIn (Fr r) 0 P Q a w:=by
 have h0:=h { w with drawn:=w.drawn+1 } ⟨rfl,rfl,rfl,Nat.le_refl _,fun _ _ _=>rfl,fun _ hh=>hh⟩ rfl
 refine wpIn_region_any hm ?_
 have hinv:Inv P r ops Q a w (Array.replicate ops.size false) 0 (cleanE e) [] [] a { w with drawn:=w.drawn+1 }:=by
  have nd:∀ i,¬ Done (Array.replicate ops.size false) i:=fun i hi=>by
   unfold Done at hi
   simp [Array.getElem?_replicate] at hi
  refine ⟨by simp,fun i=>by simp [bit],fun i hi=>(by cases hi),fun i hi=>absurd hi (nd i),fun i _ _ hi=>absurd hi (nd i),fun pre i post o hp=>?_,fun i hi=>(by cases hi),hA.len,fun s=>.inr (hA.ok s),cleanE_cl e,KeepL.refl _ _,rfl,⟨Nat.le_refl _,fun _ hh=>hh⟩⟩
  have:=congrArg List.length hp
  simp at this
 obtain ⟨t2,V2,e2,lds2,ord2,ht2,hinv2,hd2⟩:=run_f hdis t _ _ _ _ hinv h0
 refine draw_main hdis hQ ops.size _ a _ V2 e2 lds2 ord2 t2 ht2 hinv2 hd2 ?_
 simp
end
end Go.X

namespace Go.X
variable {P : Program}
section
variable {F : Fence} {n : Nat} {Q : Exit → Act → World → Prop} {a : Act} {w : World} {b : Frame} {k : List Item} {cs : List Frame}
theorem stepR_scope' {c:Code}:step P (lone (b.atR a (.code (.scope c) :: k)) cs w)=.next (lone (b.atR a (.code c :: .inScope c :: k)) cs w) :=
 step_lone_go (by simp [stepG,stepG.exec,Frame.atR])
theorem stepR_inScope' {c:Code}:step P (lone (b.atR a (.inScope c :: k)) cs w)=.next (lone (b.atR a k) cs w) :=
 step_lone_go (by simp [stepG,stepG.exec,Frame.atR])
theorem wpIn_scope' {c:Code} (h:c.wpIn F n P (Exit.noGoto Q) a w):(Code.scope c).wpIn F n P Q a w:=by
 intro b k cs hro hb hr
 have h0:(lone (b.atR a (.code (.scope c) :: k)) cs w).fenced P F:=fenced_calm hb hr rfl
 obtain ⟨e,a₁,w₁,hq,harr⟩:=h b (.inScope c :: k) cs hro hb hr
 cases e with
 | normal=>exact ⟨.normal,a₁,w₁,hq,.head h0 stepR_scope' (StepsIn.trans harr (.one (fenced_calm hb hr rfl) stepR_inScope'))⟩
 | exit id =>
  have hx:exitTo id (.inScope c :: k)=exitTo id k:=by simp [exitTo]
  exact ⟨.exit id,a₁,w₁,hq,fun k' hk=>.head h0 stepR_scope' (harr.1 k' (by rw [hx];exact hk)),
   fun hr' hk=>let ⟨k₁,h1,h2⟩:=harr.2 hr' (by rw [hx];exact hk);⟨k₁,h1,.head h0 stepR_scope' h2⟩⟩
 | goto l=>exact hq.elim
 | ret=>exact ⟨_,a₁,w₁,hq,.of_steps (.one h0 stepR_scope') harr⟩
 | panic ch=>exact ⟨_,a₁,w₁,hq,.of_steps (.one h0 stepR_scope') harr⟩
 | outgrown=>exact ⟨_,a₁,w₁,hq,.of_steps (.one h0 stepR_scope') harr⟩
theorem wpIn_loop' {c:Code} (I:Nat→Act→World→Prop) (n₀:Nat) (h₀:I n₀ a w)
  (round:∀ m a w,I m a w→c.wpIn F n P (Exit.then (fun a' w'=>∃ n',n' < m∧I n' a' w') Q) a w):(Code.loop c).wpIn F n P Q a w:=by
 refine wpIn_loop (fun a w=>∃ n,I n a w) (fun a w=>leastOf (fun n=>I n a w)) ⟨n₀,h₀⟩ ?_
 intro a w hI
 refine wpIn_mono (round _ a w (leastOf_spec hI).1) ?_
 intro e a' w' hq
 cases e with
 | normal =>
  obtain ⟨n',hlt,hI'⟩:=hq
  exact show (∃ n,I n a' w')∧leastOf (fun n=>I n a' w') < leastOf (fun n=>I n a w) from ⟨⟨n',hI'⟩,Nat.lt_of_le_of_lt ((leastOf_spec ⟨n',hI'⟩).2 n' hI') hlt⟩
 | exit id=>exact hq
 | goto l=>exact hq
 | ret=>exact hq
 | panic ch=>exact hq
 | outgrown=>exact hq
end
abbrev markD (D:Nat):Deferred:={ target:=.collected D,args:=#[] }
structure Marks (n0:Nat) (ds:List Deferred) (w:World):Prop where
 all:∀ d∈ds,∃ D,d=markD D∧n0≤D∧w.heap[D]?=some openD
 nd:ds.Pairwise (·≠·)
theorem Marks.dfr {n0:Nat} {ds:List Deferred} {w w':World} (h:Marks n0 ds w) (hd:Dfr w w'):Marks n0 ds w' :=
 ⟨fun d hdm=>let ⟨D,e,h1,h2⟩:=h.all d hdm;⟨D,e,h1,hd.opn D h2⟩,h.nd⟩
theorem Marks.nil (n0:Nat) (w:World):Marks n0 [] w:=⟨fun _ h=>absurd h (by simp),List.Pairwise.nil⟩
theorem Agr.clean {e:Env} {a:Act} (h:Agr e a):Agr (cleanE e) a:=by
 have hl:∀ e:Env,(cleanE e).length=e.length:=fun e=>by
  induction e with
  | nil=>rfl
  | cons x e ih=>cases x<;>simp [cleanE,ih]
 have hg:∀ (e:Env) (i:Nat),(cleanE e).get i=.un∨(cleanE e).get i=e.get i:=fun e=>by
  induction e with
  | nil=>intro i;exact .inl rfl
  | cons x e ih=>intro i;cases i with
   | zero=>cases x<;>simp [cleanE,Env.get]
   | succ i=>cases x<;>simpa [cleanE,Env.get] using ih i
 refine ⟨by rw [hl,h.len],fun i=>?_⟩
 rcases hg e i with hh | hh<;>rw [hh]
 ·trivial
 ·exact h.ok i
theorem clean_get (e:Env) (i:Nat):(cleanE e).get i=.un∨∃ v,(cleanE e).get i=.val v:=by
 induction e generalizing i with
 | nil=>exact .inl rfl
 | cons x e ih=>cases i with
  | zero=>cases x<;>simp [cleanE,Env.get]
  | succ i=>cases x<;>simpa [cleanE,Env.get] using ih i
theorem havoc_len:∀ (ws:List Nat) (e:Env),(havocE ws e).length=e.length
 | [],_=>rfl
 | d :: r,e=>by rw [havocE,havoc_len r,Env.len_set]
theorem havoc_get:∀ (ws:List Nat) (e:Env) (i:Nat),(havocE ws e).get i=.un∨(memN i ws=false∧(havocE ws e).get i=e.get i)
 | [],_,_=>.inr ⟨rfl,rfl⟩
 | d :: r,e,i=>by
  simp only [havocE,memN]
  rcases havoc_get r (e.set d .un) i with h | ⟨h1,h2⟩
  ·exact .inl h
  ·rw [h2,Env.get_set]
   split
   ·exact .inl rfl
   ·rename_i hh
    by_cases hd:i=d
    ·subst hd
     left
     exact Env.get_past e i (by omega)
    ·right
     refine ⟨?_,rfl⟩
     rw [h1,Bool.or_false]
     cases hb:Nat.beq d i with
     | false=>rfl
     | true=>exact absurd (Eq.symm (Nat.eq_of_beq_eq_true hb)) hd
theorem Agr.base {c:Code} {e:Env} {a a1:Act} (h:Agr e a) (k:KeepL (writes c) a a1):Agr (baseE c e) a1:=by
 have hc:=h.clean
 refine ⟨by rw [baseE,havoc_len,hc.len,k.size],fun i=>?_⟩
 rcases havoc_get (writes c) (cleanE e) i with hh | ⟨h1,h2⟩
 ·rw [baseE,hh];trivial
 ·rw [baseE,h2]
  have:=hc.ok i
  rcases clean_get e i with hu | ⟨v,hv⟩
  ·rw [hu];trivial
  ·rw [hv] at this ⊢
   simp only [EntOk] at this ⊢
   rw [k.same i h1];exact this
theorem Agr.put_same {e:Env} {a:Act} (h:Agr e a) {n:Nat} {v:TV} (hv:a.tmps[n]?=some v.enc):Agr (e.put (some n) (.val v)) a:=by
 refine ⟨by rw [← h.len];simp [Env.put,Env.len_set],fun i=>?_⟩
 simp only [Env.put]
 rw [Env.get_set]
 split
 ·rename_i hh;rw [hh.1];exact hv
 ·rw [Env.get_map _ rfl]
  have:=h.ok i
  cases hx:e.get i with
  | un=>trivial
  | val u=>rw [hx] at this;exact this
  | gv j b u =>
   rw [hx] at this
   simp only [purge]
   split
   ·trivial
   ·exact this
theorem unpack_ok {e1:Env} {a1:Act} (h1:Agr e1 a1):∀ {sl:List Slot} {ls:List Lf} {e0:Env},Agr e0 a1→packL e1 sl=some ls→Agr (unpackE sl ls e0) a1
 | [],ls,e0,h0,_=>h0
 | (n,.lf c) :: r,ls,e0,h0,hp=>by
  simp only [packL] at hp
  split at hp
  ·rename_i l hl
   split at hp
   ·rename_i ls' hr
    cases hp
    simp only [unpackE]
    exact unpack_ok h1 (h0.put_same (h1.val hl)) hr
   ·cases hp
  ·cases hp
 | (n,.agg cs) :: r,ls,e0,h0,hp=>by
  simp only [packL] at hp
  split at hp
  ·rename_i xs hl
   split at hp
   ·rename_i ls' hb hr
    cases hp
    have hlen:=Nat.eq_of_beq_eq_true hb
    simp only [unpackE]
    rw [← hlen]
    simp only [List.drop_left,List.take_left]
    exact unpack_ok h1 (h0.put_same (h1.val hl)) hr
   ·cases hp
  ·cases hp
theorem pack_ok {c:Code} {e e1:Env} {a a1:Act} {sl:List Slot} {J:Ks.T (kindsL sl)→WP} {w:World} (h:Agr e a) (k:KeepL (writes c) a a1) (h1:Agr e1 a1) (hp:packK sl e1 J w) :
  ∃ x,J x w∧Agr (unpackK c sl e x) a1:=by
 unfold packK at hp
 cases hl:packL e1 sl with
 | none=>rw [hl] at hp;exact hp.elim
 | some ls =>
  rw [hl] at hp
  simp only at hp
  cases hu:Ks.un (kindsL sl) ls with
  | none=>rw [hu] at hp;exact hp.elim
  | some x =>
   rw [hu] at hp
   refine ⟨x,hp,?_⟩
   unfold unpackK
   rw [Ks.un_some hu]
   exact unpack_ok h1 (h.base k) hl
structure St (n0:Nat) (ws:List Nat) (hr:Bool) (a:Act) (e':Env) (a':Act) (w':World):Prop where
 agr:Agr e' a'
 keep:KeepL ws a a'
 df:hr=false→a'.defers=a.defers
 marks:Marks n0 a'.defers w'
 size:n0≤w'.heap.size
theorem St.pre {n0:Nat} {xs ys zs:List Nat} {hx hy hz:Bool} {a b:Act} {e1 e':Env} {a':Act} {w1 w':World} (h:St n0 ys hy b e' a' w') (k:St n0 xs hx a e1 b w1) (hm:∀ n,memN n zs=false→memN n (xs++ys)=false)
  (hd:hz=false→hx=false∧hy=false):St n0 zs hz a e' a' w' :=
 ⟨h.agr,(k.keep.trans h.keep).mono hm,fun hf=>(h.df (hd hf).2).trans (k.df (hd hf).1),h.marks,h.size⟩
theorem St.up {n0:Nat} {xs zs:List Nat} {hx hz:Bool} {a:Act} {e':Env} {a':Act} {w':World} (h:St n0 xs hx a e' a' w') (hm:∀ n,memN n zs=false→memN n xs=false)
  (hd:hz=false→hx=false):St n0 zs hz a e' a' w' :=
 ⟨h.agr,h.keep.mono hm,fun hf=>h.df (hd hf),h.marks,h.size⟩
theorem putsE_ok:∀ {ps:List Nat} {vs:List V1} {e:Env} {tmps:Array Value},Agr e ⟨tmps,[]⟩→Agr (putsE e ps vs) ⟨(ps.zip (vs.map V1.enc)).foldl (fun t (x:Nat × Value)=>t.setIfInBounds x.1 x.2) tmps,[]⟩
 | [],_,_,_,h=>by simpa [putsE] using h
 | _ :: _,[],_,_,h=>by simpa [putsE] using h
 | d :: ds,v :: vs,e,tmps,h=>by
  simp only [putsE,List.map_cons,List.zip_cons_cons,List.foldl_cons]
  exact putsE_ok (ps:=ds) (vs:=vs) (h.put (some d) (.one v))
theorem isBy_ok {n i:Nat} {A B:WP} {w:World} (h:isBy n i A B w):(i=n∧A w)∨(i≠n∧B w):=by
 unfold isBy at h
 cases hb:Nat.beq i n with
 | true=>rw [hb] at h;exact .inl ⟨Nat.eq_of_beq_eq_true hb,h⟩
 | false=>rw [hb] at h;exact .inr ⟨Nat.ne_of_beq_eq_false hb,h⟩
theorem chainK_ok {j:Nat} {kx:Nat→WP} {w:World}:∀ {l:List Nat},chainK j kx l w→∃ i,j=i+2∧kx i w
 | [],h=>h.elim
 | i :: r,h=>by
  rcases isBy_ok h with ⟨h1,h2⟩ | ⟨_,h2⟩
  ·exact ⟨i,h1,h2⟩
  ·exact chainK_ok h2
theorem jumpK_ok {c:Code} {j:Nat} {kn kr:WP} {kx:Nat→WP} {w:World} (h:jumpK c j kn kr kx w):(j=0∧kn w)∨(j=1∧kr w)∨∃ i,j=i+2∧kx i w:=by
 unfold jumpK at h
 rcases isBy_ok h with ⟨h1,h2⟩ | ⟨_,h2⟩
 ·exact .inl ⟨h1,h2⟩
 ·cases hr:retIn c<;>rw [hr] at h2
  ·exact .inr (.inr (chainK_ok h2))
  ·rcases isBy_ok h2 with ⟨h1,h2⟩ | ⟨_,h2⟩
   ·exact .inr (.inl ⟨h1,h2⟩)
   ·exact .inr (.inr (chainK_ok h2))
end Go.X

namespace Go.X
variable {P : Program}
theorem wide_in (l:Nat):Fence.wide.inRound l=Fr (some l):=rfl
theorem memN_app {n:Nat} {xs ys:List Nat} (h:memN n (xs++ys)=false):memN n xs=false∧memN n ys=false:=by
 rw [memN_append] at h;simpa using h
theorem foldl_zip (ps:Array Nat) (vs:List Value) (tmps:Array Value):(ps.zip vs.toArray).foldl (fun t (x:Nat × Value)=>t.setIfInBounds x.1 x.2) tmps=(ps.toList.zip vs).foldl (fun t (x:Nat × Value)=>t.setIfInBounds x.1 x.2) tmps:=by
 rw [← Array.foldl_toList];simp
theorem ext_put {w:World} {l:Nat} {o o':Obj} (h:w.heap[l]?=some o) (hd:o≠openD):Ext (at1 l) w (w.putObj l o') :=
 ⟨rfl,rfl,rfl,by simp,fun k _ hk=>World.putObj_heap_other hk,fun k hk=>by
  by_cases hkl:k=l
  ·subst hkl;rw [h] at hk;exact absurd (Option.some.inj hk) hd
  ·rw [World.putObj_heap_other hkl];exact hk⟩
theorem Rs.len:∀ (rs:List Sh) (x:Rs.T rs),(Rs.mk rs x).length=rs.length
 | [],_=>rfl
 | [_],_=>rfl
 | _ :: t :: r,x=>by simp only [Rs.mk,List.length_cons];rw [Rs.len (t :: r) x.2];rfl
theorem sem_ok (c:Code):∀ (inR:Bool) (an:Ann) (e:Env) (kn:Env→WP) (kx:Nat→Env→WP) (kr:Env→WP) (r:Option Nat) (n0:Nat) (a:Act) (w:World) (Q:Exit→Act→World→Prop),
  (inR=false→r=none)→Agr e a→Marks n0 a.defers w→n0≤w.heap.size→sem P inR c an e kn kx kr w →
  (∀ e' a' w',St n0 (writes c) (hasRange c) a e' a' w'→kn e' w'→Q .normal a' w') →
  (∀ i e' a' w',St n0 (writes c) (hasRange c) a e' a' w'→kx i e' w'→Q (.exit i) a' w') →
  (∀ e' a' w',St n0 (writes c) (hasRange c) a e' a' w'→kr e' w'→Q .ret a' w')→c.wpIn (Fr r) 0 P Q a w:=by
 induction c with
 | skip =>
  intro inR an e kn kx kr r n0 a w Q hro hA hM hz h hn hx hr
  cases an<;>exact wpIn_skip (hn e a w ⟨hA,KeepL.refl _ _,fun _=>rfl,hM,hz⟩ h)
 | label l =>
  intro inR an e kn kx kr r n0 a w Q hro hA hM hz h hn hx hr
  cases an<;>exact wpIn_label (hn e a w ⟨hA,KeepL.refl _ _,fun _=>rfl,hM,hz⟩ h)
 | region id ops draw =>
  intro inR an e kn kx kr r n0 a w Q hro hA hM hz h hn hx hr
  cases draw with
  | true =>
   cases an with
   | d t =>
    cases hc:(P.follows .mixedOrders && distinctD ops.toList) with
    | false=>simp only [sem,hc] at h;exact h.elim
    | true =>
     simp only [sem,hc] at h
     simp only [Bool.and_eq_true] at hc
     refine draw_ok hc.1 hc.2 hA.clean h fun e' a' w' hA' hk hdf hd hK=>?_
     exact hn e' a' w' ⟨hA',hk,fun _=>hdf,by rw [hdf];exact hM.dfr hd,Nat.le_trans hz hd.size⟩ hK
   | _=>exact h.elim
  | false =>
   have h':opsS P ops.toList ops.toList 0 e kn w:=by cases an<;>exact h
   refine wpIn_region_list (opsS_ok ops.toList 0 e a w kn hA h' fun e' a' w' hA' hk hdf hd hK=>?_)
   exact hn e' a' w' ⟨hA',hk,fun _=>hdf,by rw [hdf];exact hM.dfr hd,Nat.le_trans hz hd.size⟩ hK
 | seq x y ihx ihy =>
  intro inR an e kn kx kr r n0 a w Q hro hA hM hz h hn hx hr
  have pre:∀ {e1 a1 w1 e' a' w'},St n0 (writes x) (hasRange x) a e1 a1 w1→St n0 (writes y) (hasRange y) a1 e' a' w'→St n0 (writes (.seq x y)) (hasRange (.seq x y)) a e' a' w':=fun s1 s2=>s2.pre s1 (fun _ hh=>hh) (fun hh=>by simpa [hasRange] using hh)
  have wx:∀ {e' a' w'},St n0 (writes x) (hasRange x) a e' a' w'→St n0 (writes (.seq x y)) (hasRange (.seq x y)) a e' a' w':=fun s=>s.up (fun n hh=>(memN_app hh).1) (fun hh=>by simp [hasRange] at hh;exact hh.1)
  cases an with
  | s p q =>
   have h':sem P inR x p e (fun e1=>sem P inR y q e1 kn kx kr) kx kr w:=h
   refine wpIn_seq (ihx inR p e _ kx kr r n0 a w _ hro hA hM hz h' ?_ ?_ ?_)
   ·intro e1 a1 w1 s1 hk
    exact ihy inR q e1 kn kx kr r n0 a1 w1 Q hro s1.agr s1.marks s1.size hk (fun e' a' w' s hh=>hn e' a' w' (pre s1 s) hh) (fun i e' a' w' s hh=>hx i e' a' w' (pre s1 s) hh) (fun e' a' w' s hh=>hr e' a' w' (pre s1 s) hh)
   ·intro i e1 a1 w1 s1 hk;exact hx i e1 a1 w1 (wx s1) hk
   ·intro e1 a1 w1 s1 hk;exact hr e1 a1 w1 (wx s1) hk
  | j sl p q =>
   cases hsl:slIn (writes x) sl with
   | false=>simp only [sem,hsl] at h;exact h.elim
   | true =>
    simp only [sem,hsl] at h
    obtain ⟨J,hJ,h'⟩:=h
    refine wpIn_seq (ihx inR p e _ kx kr r n0 a w _ hro hA hM hz h' ?_ ?_ ?_)
    ·intro e1 a1 w1 s1 hk
     obtain ⟨v,hv,hA1⟩:=pack_ok hA s1.keep s1.agr hk
     exact ihy inR q _ kn kx kr r n0 a1 w1 Q hro hA1 s1.marks s1.size (hJ v w1 hv) (fun e' a' w' s hh=>hn e' a' w' (pre s1 s) hh) (fun i e' a' w' s hh=>hx i e' a' w' (pre s1 s) hh) (fun e' a' w' s hh=>hr e' a' w' (pre s1 s) hh)
    ·intro i e1 a1 w1 s1 hk;exact hx i e1 a1 w1 (wx s1) hk
    ·intro e1 a1 w1 s1 hk;exact hr e1 a1 w1 (wx s1) hk
  | _=>exact h.elim
 | cond c x y ihx ihy =>
  intro inR an e kn kx kr r n0 a w Q hro hA hM hz h hn hx hr
  have wx:∀ {e' a' w'},St n0 (writes x) (hasRange x) a e' a' w'→St n0 (writes (.cond c x y)) (hasRange (.cond c x y)) a e' a' w':=fun s=>s.up (fun n hh=>(memN_app hh).1) (fun hh=>by simp [hasRange] at hh;exact hh.1)
  have wy:∀ {e' a' w'},St n0 (writes y) (hasRange y) a e' a' w'→St n0 (writes (.cond c x y)) (hasRange (.cond c x y)) a e' a' w':=fun s=>s.up (fun n hh=>(memN_app hh).2) (fun hh=>by simp [hasRange] at hh;exact hh.2)
  cases an with
  | s p q =>
   obtain ⟨Y,hX,h⟩:∃ Y,sem P inR (.cond c x y) (.s p q) e kn kx kr=Y∧Y w:=⟨_,rfl,h⟩
   simp only [sem] at hX
   split at hX
   ·rename_i t ht
    subst hX
    refine wpIn_cond (t:=t) (evG_ok hA (Holds.nil a) ht) ?_
    cases t with
    | true=>exact ihx inR p e kn kx kr r n0 a w Q hro hA hM hz h (fun e' a' w' s hh=>hn e' a' w' (wx s) hh) (fun i e' a' w' s hh=>hx i e' a' w' (wx s) hh) (fun e' a' w' s hh=>hr e' a' w' (wx s) hh)
    | false=>exact ihy inR q e kn kx kr r n0 a w Q hro hA hM hz h (fun e' a' w' s hh=>hn e' a' w' (wy s) hh) (fun i e' a' w' s hh=>hx i e' a' w' (wy s) hh) (fun e' a' w' s hh=>hr e' a' w' (wy s) hh)
   ·subst hX;exact h.elim
  | _=>exact h.elim
 | block id x ih =>
  intro inR an e kn kx kr r n0 a w Q hro hA hM hz h hn hx hr
  cases an with
  | b p =>
   have h':sem P inR x p e kn (fun i e1=>isBy id i (kn e1) (kx i e1)) kr w:=h
   refine wpIn_block (ih inR p e kn _ kr r n0 a w _ hro hA hM hz h' (fun e' a' w' s hh=>hn e' a' w' s hh) ?_ (fun e' a' w' s hh=>hr e' a' w' s hh))
   intro i e' a' w' s hh
   simp only [Exit.inBlock]
   rcases isBy_ok hh with ⟨h1,h2⟩ | ⟨h1,h2⟩
   ·rw [if_pos h1];exact hn e' a' w' s h2
   ·rw [if_neg h1];exact hx i e' a' w' s h2
  | bj sl p =>
   cases hsl:slIn (writes x) sl with
   | false=>simp only [sem,hsl] at h;exact h.elim
   | true =>
    simp only [sem,hsl] at h
    obtain ⟨J,hJ,h'⟩:=h
    have fin:∀ {e' a' w'},St n0 (writes x) (hasRange x) a e' a' w'→packK sl e' J w'→Q .normal a' w':=fun s hh=>by
     obtain ⟨v,hv,hA1⟩:=pack_ok hA s.keep s.agr hh
     exact hn _ _ _ ⟨hA1,s.keep,s.df,s.marks,s.size⟩ (hJ v _ hv)
    refine wpIn_block (ih inR p e _ _ kr r n0 a w _ hro hA hM hz h' (fun e' a' w' s hh=>fin s hh) ?_ (fun e' a' w' s hh=>hr e' a' w' s hh))
    intro i e' a' w' s hh
    simp only [Exit.inBlock]
    rcases isBy_ok hh with ⟨h1,h2⟩ | ⟨h1,h2⟩
    ·rw [if_pos h1];exact fin s h2
    ·rw [if_neg h1];exact hx i e' a' w' s h2
  | _=>exact h.elim
 | loop x ih =>
  intro inR an e kn kx kr r n0 a w Q hro hA hM hz h hn hx hr
  cases an with
  | l sl p =>
   cases hsl:slIn (writes x) sl with
   | false=>simp only [sem,hsl] at h;exact h.elim
   | true =>
    simp only [sem,hsl] at h
    obtain ⟨x0,⟨I,μ,hI0,hround⟩,hA0⟩:=pack_ok (c:=x) hA (KeepL.refl _ a) hA h
    refine wpIn_loop' (fun m a' w'=>∃ v,I v w'∧μ v w'=m∧St n0 (writes x) (hasRange x) a (unpackK x sl e v) a' w') (μ x0 w) ⟨x0,hI0,rfl,hA0,KeepL.refl _ _,fun _=>rfl,hM,hz⟩ ?_
    rintro m a1 w1 ⟨v,hv,rfl,s1⟩
    have pre:∀ {e' a' w'},St n0 (writes x) (hasRange x) a1 e' a' w'→St n0 (writes x) (hasRange x) a e' a' w':=fun s2=>s2.pre s1 (fun n hh=>by rw [memN_append,hh];rfl) (fun hh=>⟨hh,hh⟩)
    refine ih inR p _ _ kx kr r n0 a1 w1 _ hro s1.agr s1.marks s1.size (hround v w1 hv) ?_ (fun i e' a' w' s hh=>hx i e' a' w' (pre s) hh) (fun e' a' w' s hh=>hr e' a' w' (pre s) hh)
    intro e2 a2 w2 s2 hh
    obtain ⟨v2,⟨hv2,hlt⟩,hA2⟩:=pack_ok (c:=x) hA (pre s2).keep s2.agr hh
    exact ⟨_,hlt,v2,hv2,rfl,hA2,(pre s2).keep,(pre s2).df,s2.marks,s2.size⟩
  | _=>exact h.elim
 | exit i =>
  intro inR an e kn kx kr r n0 a w Q hro hA hM hz h hn hx hr
  cases an<;>exact wpIn_exit (hx i e a w ⟨hA,KeepL.refl _ _,fun _=>rfl,hM,hz⟩ h)
 | goto l =>
  intro inR an e kn kx kr r n0 a w Q hro hA hM hz h hn hx hr
  cases an<;>exact h.elim
 | ret =>
  intro inR an e kn kx kr r n0 a w Q hro hA hM hz h hn hx hr
  cases an<;>exact wpIn_ret (hr e a w ⟨hA,KeepL.refl _ _,fun _=>rfl,hM,hz⟩ h)
 | scope x ih =>
  intro inR an e kn kx kr r n0 a w Q hro hA hM hz h hn hx hr
  have h':sem P inR x an e kn kx kr w:=by cases an<;>exact h
  exact wpIn_scope' (ih inR an e kn kx kr r n0 a w _ hro hA hM hz h' hn hx hr)
 | rangeFunc f ps as body iha ihb =>
  intro inR an e kn kx kr r n0 a w Q hro hA hM hz h hn hx hr
  cases an with
  | r rs p q =>
   obtain ⟨Y,hX,h⟩:∃ Y,sem P inR (.rangeFunc f ps as body) (.r rs p q) e kn kx kr=Y∧Y w:=⟨_,rfl,h⟩
   simp only [sem] at hX
   split at hX
   ·rename_i fv hf
    split at hX
    ·rename_i hlen
     subst hX
     have hlen:=Nat.eq_of_beq_eq_true hlen
     cases hro rfl
     have hfe:a.eval f=fv.enc:=evG_ok hA (Holds.nil a) hf
     refine wpIn_rangeFunc fun fn _=>?_
     obtain ⟨rec,hrec⟩:∃ rec:Loop,rec={ state:=.ready,pending:=none,fn,tmps:=a.tmps,params:=ps,assign:=as,body,defers:=w.heap.size }:=⟨_,rfl⟩
     obtain ⟨pend,hpend⟩:∃ pend:Nat→Option Code,pend=fun j=>match j with | 0=>none | 1=>some .ret | i+2=>some (.exit i):=⟨_,rfl⟩
     obtain ⟨st,hst⟩:∃ st:Nat→Obj,st=fun j=>Obj.loop { rec with state:=if (pend j).isNone then .ready else .done,pending:=pend j }:=⟨_,rfl⟩
     obtain ⟨busy,hbusy⟩:∃ busy:Obj,busy=Obj.loop { rec with state:=.busy }:=⟨_,rfl⟩
     have r1:rec.fn=fn:=by rw [hrec]
     have r2:rec.params=ps:=by rw [hrec]
     have r3:rec.tmps=a.tmps:=by rw [hrec]
     have r4:rec.assign=as:=by rw [hrec]
     have r5:rec.body=body:=by rw [hrec]
     have hst0:st 0=.loop rec:=by rw [hst,hpend,hrec];rfl
     obtain ⟨w1,hw1⟩:∃ w1:World,w1={ w with heap:=(w.heap.push openD).push (.loop rec) }:=⟨_,rfl⟩
     have hext:Ext no1 w w1:=by rw [hw1];exact (ext_alloc w openD).trans (ext_alloc _ _)
     have hl0:w1.heap[w.heap.size+1]?=some (st 0):=by
      rw [hst0,hw1]
      have:=Array.getElem?_push_size (xs:=w.heap.push openD) (x:=Obj.loop rec)
      rwa [Array.size_push] at this
     have hD0:w1.heap[w.heap.size]?=some openD:=by rw [hw1];simp [Array.getElem?_push]
     have hrun:=h w1 (w.heap.size+1) st busy (fun j=>by rw [hst];simp) (by rw [hbusy];simp) hext (Nat.le_succ _) (by rw [hw1];simp) hl0 ?_
     · -- the call
      cases fv with
      | nil=>exact hrun.elim
      | mk g first cap =>
       cases g with
       | func g =>
        have hent:ent P g=true:=hrun.1
        refine ⟨w.heap.size+1,[markD w.heap.size],w1,{ target:=.fn (.func g) cap.toArray,args:=first.toArray++#[Value.func (.yield (w.heap.size+1)) #[] #[]] },w1,g,(first++[Fv.enc (.mk (.yield (w.heap.size+1)) [] [])]++cap).toArray,w1,?_,?_,fun _ _=>trivial,?_,depth_fr,callsIn_fr (hrun.2.mono ?_)⟩
        ·rw [hw1,hrec];exact run_enterLoop_outer fn a.tmps ps as body
        ·have e1:resolve a.eval (rangeCall f (w.heap.size+1)) 0=Deferred.ofValue (a.eval f) (#[Operand.const (.func (.yield (w.heap.size+1)) #[] #[])].map a.eval):=rfl
         have e2:#[Operand.const (.func (.yield (w.heap.size+1)) #[] #[])].map a.eval=#[Value.func (.yield (w.heap.size+1)) #[] #[]]:=by simp [Act.eval]
         rw [e1,e2,hfe]
         simp [Fv.enc,Deferred.ofValue]
        ·have:invoke (.fn (.func g) cap.toArray) (first.toArray++#[Value.func (.yield (w.heap.size+1)) #[] #[]])=callFunc g (first++[Fv.enc (.mk (.yield (w.heap.size+1)) [] [])]++cap).toArray:=by
          simp [invoke,Fv.enc]
         rw [this]
         exact callFunc_run hent _ _
        ·rintro en w2 ⟨v,rfl,hd,j,hj,hK⟩
         have hj':w2.heap[w.heap.size+1]?=some (.loop { rec with state:=if (pend j).isNone then .ready else .done,pending:=pend j }):=by rw [hj,hst]
         have hend:=run_endLoop (P:=P) hj' (by show (if (pend j).isNone then LoopState.ready else LoopState.done)≠.busy;split<;>simp)
         obtain ⟨w4,hE,hend,hsz⟩:∃ w4,Ext (at1 (w.heap.size+1)) w2 w4∧(Instr.endLoop (w.heap.size+1)).run P w2=.ok (pend j) w4∧w4.heap.size=w2.heap.size:=⟨_,ext_put hj' (by simp),hend,by simp⟩
         have hKj:=hK w4 hE hsz
         have hdd:Dfr w w4:=hext.dfr.trans (hd.trans hE.dfr)
         have hst':St n0 (writes (.rangeFunc f ps as body)) (hasRange (.rangeFunc f ps as body)) a e { a with defers:=[markD w.heap.size]++a.defers } w4:=by
          refine ⟨⟨hA.len,hA.ok⟩,⟨rfl,fun _ _=>rfl⟩,(fun hh=>by cases hh),⟨?_,?_⟩,Nat.le_trans hz hdd.size⟩
          ·intro d hdm
           rcases List.mem_append.1 hdm with hm | hm
           ·rw [List.mem_singleton] at hm
            exact ⟨w.heap.size,hm,hz,hE.opn _ (hd.opn _ hD0)⟩
           ·exact (hM.dfr hdd).all d hm
          ·refine List.pairwise_cons.2 ⟨fun d hdm=>?_,hM.nd⟩
           obtain ⟨D,rfl,h1,h2⟩:=hM.all d hdm
           have hlt:=(Array.getElem?_eq_some_iff.1 h2).1
           intro hh
           simp [markD] at hh
           omega
         refine ⟨pend j,w4,hend,?_⟩
         rcases jumpK_ok hKj with ⟨rfl,hk⟩ | ⟨rfl,hk⟩ | ⟨i,rfl,hk⟩
         ·rw [hpend];exact hn e _ _ hst' hk
         ·rw [hpend];exact wpIn_ret (hr e _ _ hst' hk)
         ·rw [hpend];exact wpIn_exit (hx i e _ _ hst' hk)
       | _=>exact hrun.elim
     · -- one round
      intro x W R hB hW
      rw [hst0] at hW
      refine ⟨fn,(ps.zip ((Rs.mk rs x).map V1.enc).toArray).foldl (fun t (x:Nat × Value)=>t.setIfInBounds x.1 x.2) a.tmps,as,body,?_,?_⟩
      ·have hy:=run_yield (P:=P) (args:=((Rs.mk rs x).map V1.enc).toArray) hW (by rw [r2];simp [← hlen,Rs.len])
       rw [r1,r2,r3,r4,r5] at hy
       exact hy
      refine roundIn_of_wpIn trivial ?_
      rw [wide_in,foldl_zip]
      have hA0:Agr (putsE (cleanE e) ps.toList (Rs.mk rs x)) ⟨(ps.toList.zip ((Rs.mk rs x).map V1.enc)).foldl (fun t (x:Nat × Value)=>t.setIfInBounds x.1 x.2) a.tmps,[]⟩ :=
       putsE_ok (tmps:=a.tmps) ⟨hA.clean.len,hA.clean.ok⟩
      refine iha true p _ _ _ _ (some _) 0 _ W _ (fun hh=>by cases hh) hA0 (Marks.nil 0 W) (Nat.zero_le _) hB ?_ (fun _ _ _ _ _ hh=>hh.elim) (fun _ _ _ _ hh=>hh.elim)
      rintro e1 a1 w2 s1 ⟨hW1,hmid⟩
      rw [hst0] at hW1
      refine ⟨_,run_beginRound hW1 (by rw [hrec]),?_⟩
      have hE1:=ext_put (o':=.loop { rec with state:=.busy }) hW1 (by simp)
      have hb1:(w2.putObj (w.heap.size+1) (.loop { rec with state:=.busy })).heap[w.heap.size+1]?=some busy:=by
       rw [hbusy];exact World.putObj_heap_same (Array.getElem?_eq_some_iff.1 hW1).1
      have hbody:=hmid _ hE1 hb1 (by simp)
      have last:∀ (j:Nat) (W2:World) (jump:Option Code) (b:Bool),pend j=jump→jump.isNone=b→W2.heap[w.heap.size+1]?=some busy→(∀ W3,Ext (at1 (w.heap.size+1)) W2 W3→W3.heap[w.heap.size+1]?=some (st j)→W3.heap.size=W2.heap.size→R (.bool b) W3) →
        ∃ v w',(Instr.endRound (w.heap.size+1) jump).run P W2=.ok v w'∧∃ u,Ending.returned v=Ending.returned u∧R u w':=by
       intro j W2 jump b hj hb hW2 hk
       rw [hbusy] at hW2
       subst hj
       subst hb
       refine ⟨_,_,run_endRound (pend j) hW2,_,rfl,?_⟩
       refine hk _ (ext_put hW2 (by simp)) ?_ (by simp)
       rw [World.putObj_heap_same (Array.getElem?_eq_some_iff.1 hW2).1,hst]
      refine ihb true q e1 _ _ _ (some _) 0 a1 _ _ (fun hh=>by cases hh) s1.agr (s1.marks.dfr hE1.dfr) (Nat.zero_le _) hbody ?_ ?_ ?_
      ·rintro e2 a2 w3 s2 ⟨h1,h2⟩
       exact last 0 w3 none true (by rw [hpend]) rfl h1 h2
      ·rintro i e2 a2 w3 s2 ⟨h1,h2⟩
       exact last (i+2) w3 (some (.exit i)) false (by rw [hpend]) rfl h1 h2
      ·rintro e2 a2 w3 s2 ⟨h1,h2⟩
       exact last 1 w3 (some .ret) false (by rw [hpend]) rfl h1 h2
    ·subst hX;exact h.elim
   ·subst hX;exact h.elim
  | _=>exact h.elim
 | refuse why =>
  intro inR an e kn kx kr r n0 a w Q hro hA hM hz h hn hx hr
  cases an<;>exact h.elim
end Go.X

namespace Go.X
variable {P : Program}
theorem reads_lv {n b:Nat} {w w':World} (h:Lv n w w'):∀ {ls:List Lf} {o:Nat},Reads w b o ls→Reads w' b o ls
 | [],_,_=>trivial
 | l :: ls,o,hr=>by
  refine ⟨?_,reads_lv h hr.2⟩
  have h1:=hr.1
  rw [← h1]
  refine World.cell?_of_block (h.same b (.inr fun hh=>?_))
  have:w.cell? ⟨b,o,none⟩=none:=by simp [World.cell?,hh]
  rw [this] at h1
  cases h1
def rdRes (tmps:Array Value):ResultVar→Sem Value:=fun
 | .tmp t=>pure (tmps.getD t undef)
 | .cell a t=>do loadVar t (← asAddr (tmps.getD a undef))
theorem rdRes_tmp {tmps:Array Value} {t:Nat} {v:Value} (h:tmps[t]?=some v) (w:World):(rdRes tmps (.tmp t)).run P w=.ok v w:=by
 simp [rdRes,h]
theorem rdRes_cell {tmps:Array Value} {t:Nat} {ty:TypeId} {p:Pt} {v:Value} {w:World} (h:tmps[t]?=some (.pointer (some p.addr))) (hv:(loadVar ty ⟨p.b,p.o,none⟩).run P w=.ok v w):(rdRes tmps (.cell t ty)).run P w=.ok v w:=by
 simp [rdRes,h,asAddr,hv,Pt.addr]
theorem retS_ok {n:Nat} {e:Env} {a:Act} {w w':World} (hA:Agr e a) (hl:Lv n w w'):∀ {l:List ResultVar} {K:List V1→WP},retS P e l K w →
  ∃ vs,K vs w∧(l.mapM (rdRes a.tmps)).run P w'=.ok (vs.map V1.enc) w'
 | [],K,h=>⟨[],h,by simp⟩
 | .tmp t :: r,K,h=>by
  obtain ⟨Y,hX,h⟩:∃ Y,retS P e (.tmp t :: r) K=Y∧Y w:=⟨_,rfl,h⟩
  simp only [retS] at hX
  split at hX
  ·rename_i v hv
   subst hX
   obtain ⟨vs,hk,hr⟩:=retS_ok hA hl h
   have:=hA.val hv
   refine ⟨v :: vs,hk,?_⟩
   rw [List.mapM_cons]
   simp only [Sem.run_bind,rdRes_tmp this,Result.andThen_ok,hr,Sem.run_pure]
   rfl
  ·subst hX;exact h.elim
 | .cell t ty :: r,K,h=>by
  obtain ⟨Y,hX,h⟩:∃ Y,retS P e (.cell t ty :: r) K=Y∧Y w:=⟨_,rfl,h⟩
  simp only [retS] at hX
  split at hX
  ·rename_i p c hp hs
   subst hX
   obtain ⟨x,hx,h⟩:=h
   obtain ⟨vs,hk,hr⟩:=retS_ok hA hl h
   have:=hA.val hp
   obtain ⟨hg,d,hd⟩:=shT_lf hs
   refine ⟨_,hk,?_⟩
   rw [List.mapM_cons]
   have hld:=loadVar_lf (P:=P) hd hg (reads_lv hl hx)
   simp only [Sem.run_bind,rdRes_cell this hld,Result.andThen_ok,hr,Sem.run_pure]
   rfl
  ·rename_i p cs hp hs
   subst hX
   obtain ⟨x,hx,h⟩:=h
   obtain ⟨vs,hk,hr⟩:=retS_ok hA hl h
   have:=hA.val hp
   obtain ⟨hg,⟨d,hd⟩,hlen⟩:=shT_agg hs
   refine ⟨_,hk,?_⟩
   rw [List.mapM_cons]
   have hld:=loadVar_agg (P:=P) hd hg (by rw [Ks.len];exact hlen) (reads_lv hl hx)
   simp only [Sem.run_bind,rdRes_cell this hld,Result.andThen_ok,hr,Sem.run_pure]
   rfl
  ·subst hX;exact h.elim
theorem results_ok {fn:Func} {a:Act} {w:World} {vs:List V1} (h:(fn.results.toList.mapM (rdRes a.tmps)).run P w=.ok (vs.map V1.enc) w):(results fn a.tmps).run P w=.ok (retTV vs).enc w:=by
 have e1:results fn a.tmps=(fn.results.mapM (rdRes a.tmps) >>= fun vs=>pure (if h:vs.size=1 then vs[0] else .tuple vs)):=rfl
 rw [e1,Array.mapM_eq_mapM_toList]
 simp only [map_eq_pure_bind,Sem.run_bind]
 rw [h]
 simp only [Result.andThen_ok,Sem.run_pure]
 cases vs with
 | nil=>rfl
 | cons v vs=>cases vs with
  | nil=>rfl
  | cons u us=>simp [retTV,TV.enc]
theorem envOf_get (args:List V1) (n i:Nat):(envOf n args).get i=match args[i]? with | some v=>.val (.one v) | none=>if i < n then .val und else .un:=by
 have hg:∀ (e:Env) (j:Nat),e.get j=(e[j]?).getD .un:=fun e=>by
  induction e with
  | nil=>intro j;rfl
  | cons x e ih=>intro j;cases j<;>simp [Env.get,ih]
 rw [hg]
 unfold envOf
 rw [List.getElem?_append]
 simp only [List.length_map,List.getElem?_map]
 by_cases hi:i < args.length
 ·rw [if_pos hi,List.getElem?_eq_getElem hi];rfl
 ·rw [if_neg hi,List.getElem?_eq_none (by omega:args.length≤i),List.getElem?_replicate]
  by_cases h2:i < n
  ·rw [if_pos (by omega),if_pos h2];rfl
  ·rw [if_neg (by omega),if_neg h2];rfl
theorem Agr.start {args:List V1} {n:Nat} (hn:args.length≤n):Agr (envOf n args) { tmps:=(args.map V1.enc).toArray++Array.replicate (n - (args.map V1.enc).toArray.size) undef,defers:=[] }:=by
 refine ⟨by simp [envOf],fun i=>?_⟩
 rw [envOf_get]
 split
 ·rename_i v hv
  obtain ⟨hl,hv⟩:=List.getElem?_eq_some_iff.1 hv
  simp only [EntOk]
  rw [Array.getElem?_append_left (by simpa using hl)]
  simp [hl,hv,TV.enc]
 ·rename_i hv
  split
  ·rename_i hi
   simp only [EntOk]
   have hl:args.length≤i:=by simpa using hv
   rw [Array.getElem?_append_right (by simpa using hl)]
   simp only [List.size_toArray,List.length_map,Array.getElem?_replicate]
   rw [if_pos (by omega)]
   rfl
  ·trivial
theorem leavesM {fn:Func} {tmps:Array Value} {R:Ending→World→Prop} {n0:Nat}:∀ {ds:List Deferred} {w:World},Marks n0 ds w →
  (∀ w',Lv n0 w w'→LeavesInM Fence.wide 0 P fn tmps R [] .returning w')→LeavesInM Fence.wide 0 P fn tmps R ds .returning w
 | [],w,_,h=>h w ⟨rfl,rfl,rfl,rfl,fun _ _=>rfl⟩
 | d :: ds,w,hM,h=>by
  obtain ⟨D,rfl,hD,ho⟩:=hM.all d (List.mem_cons_self)
  have hne:∀ k,k≠D→(w.putObj D (.deferred none)).heap[k]?=w.heap[k]?:=fun k hk=>World.putObj_heap_other hk
  refine ⟨by simp,.inl ⟨D,w.putObj D (.deferred none),rfl,run_takeDeferred ho,leavesM (n0:=n0) ⟨?_,(List.pairwise_cons.1 hM.nd).2⟩ ?_⟩⟩
  ·intro d hd
   obtain ⟨D',rfl,h1,h2⟩:=hM.all d (by simp [hd])
   have:D'≠D:=fun hh=>(List.pairwise_cons.1 hM.nd).1 _ hd (by rw [hh])
   exact ⟨D',rfl,h1,by rw [hne _ this];exact h2⟩
  ·intro w' hl
   refine h w' ⟨hl.os,hl.tape,hl.output,by rw [hl.size];simp,fun k hk=>?_⟩
   have hkD:k≠D:=by
    rintro rfl
    rcases hk with hk | hk
    ·omega
    ·exact hk ho
   rw [hl.same k (hk.imp id fun hh=>by rw [hne k hkD];exact hh),hne k hkD]
theorem callX_of_semF {f:FuncId} {fn:Func} {an:Ann} {args:List V1} {rs:List Sh} {R:Rs.T rs→WP} {A:WP} {w:World} (hf:P.funcs[f]?=some fn) (he:ent P f=true) (hn:Nat.ble args.length fn.ntmps=true)
  (hs:Same (semF P fn an args rs R) A) (h:A w):CallX P f (args.map V1.enc) w fun v w'=>∃ x,v=(retTV (Rs.mk rs x)).enc∧R x w':=by
 rw [← hs.eq] at h
 refine .enters ⟨he,?_⟩
 unfold semF at h
 cases hb:fn.body with
 | none=>rw [hb] at h;exact h.elim
 | some c =>
  rw [hb] at h
  simp only at h
  refine callsIn_of_wp_marks hf hb trivial ?_
  have fin:∀ e' a' w',St w.heap.size (writes c) (hasRange c) { tmps:=(args.map V1.enc).toArray++Array.replicate (fn.ntmps - (args.map V1.enc).toArray.size) undef,defers:=[] } e' a' w' →
    retS P e' fn.results.toList (fun vs=>unRs rs vs fun x=>match hasRange c with | true=>leave w.heap.size (R x) | false=>R x) w' →
    LeavesInM Fence.wide 0 P fn a'.tmps (fun e w'=>∃ v,e=.returned v∧∃ x,v=(retTV (Rs.mk rs x)).enc∧R x w') a'.defers .returning w':=by
   intro e' a' w' s hret
   have key:∀ w2,Lv w.heap.size w' w2→(∃ x vs,Rs.mk rs x=vs∧(match hasRange c with | true=>leave w.heap.size (R x) | false=>R x) w'∧(results fn a'.tmps).run P w2=.ok (retTV vs).enc w2):=by
    intro w2 hl
    obtain ⟨vs,hk,hr⟩:=retS_ok s.agr hl hret
    unfold unRs at hk
    cases hu:Rs.un rs vs with
    | none=>rw [hu] at hk;exact hk.elim
    | some x =>
     rw [hu] at hk
     exact ⟨x,vs,Rs.un_some hu,hk,results_ok hr⟩
   cases hr:hasRange c with
   | false =>
    rw [s.df hr]
    obtain ⟨x,vs,h1,h2,h3⟩:=key w' ⟨rfl,rfl,rfl,rfl,fun _ _=>rfl⟩
    rw [hr] at h2
    exact ⟨_,h3,_,rfl,x,by rw [h1],h2⟩
   | true =>
    refine leavesM s.marks fun w2 hl=>?_
    obtain ⟨x,vs,h1,h2,h3⟩:=key w2 hl
    rw [hr] at h2
    exact ⟨_,h3,_,rfl,x,by rw [h1],h2 w2 hl⟩
  exact sem_ok c false an _ _ _ _ none w.heap.size _ w (bodyPostM Fence.wide 0 P fn _) (fun _=>rfl) (Agr.start (Nat.le_of_ble_eq_true hn)) (Marks.nil _ w) (Nat.le_refl _) h
   fin (fun _ _ _ _ _ hh=>hh.elim) fin
theorem callX_extern {f : FuncId} {fn : Func} {x : Array Value → Sem Value} {args : List Value} {w w' : World} {v : Value} {R : Value → World → Prop} (hf : P.funcs[f]? = some fn) (hname : (fn.name == "runtime.NumGoroutine") = false)
  (hb:fn.body.isNone=true) (hn:Extern.findNext fn=none) (he:Extern.find fn=some x) (hx:(x args.toArray).run P w=.ok v w') (hR:R v w'):CallX P f args w R:=by
 refine .now v w' ?_ hR
 rw [run_callFunc_extern hf hname hb hn he,hx]
 rfl
end Go.X

namespace Go.X
variable {P : Program}
structure SP where
 h:World→(Nat→Prop)→(Nat→Prop)→Prop
 st:∀ {w w':World} {S R:Nat→Prop},h w S R→(∀ k,S k∨R k→w'.heap[k]?=w.heap[k]?)→h w' S R
 nd:∀ {w:World} {S R:Nat→Prop} {k:Nat},h w S R→S k∨R k→∃ o,w.heap[k]?=some o∧o≠openD
theorem SP.lt (p:SP) {w:World} {S R:Nat→Prop} {k:Nat} (h:p.h w S R) (hk:S k∨R k):k < w.heap.size:=by
 obtain ⟨o,ho,_⟩:=p.nd h hk
 exact (Array.getElem?_eq_some_iff.1 ho).1
theorem SP.ext (p:SP) {w w':World} {S R T:Nat→Prop} (h:p.h w S R) (e:Ext T w w') (hS:∀ k,S k→¬ T k) (hR:∀ k,R k→¬ T k):p.h w' S R :=
 p.st h fun k hk=>e.same k (p.lt h hk) (hk.elim (hS k) (hR k))
def emp:SP:=⟨fun _ S R=>(∀ k,¬ S k)∧∀ k,¬ R k,fun h _=>h,fun h hk=>(hk.elim (h.1 _) (h.2 _)).elim⟩
def star (p q:SP):SP where
 h w S R:=∃ S1 R1 S2 R2:Nat→Prop,p.h w S1 R1∧q.h w S2 R2∧(∀ k,S k↔S1 k∨S2 k)∧(∀ k,R k↔R1 k∨R2 k)∧(∀ k,S1 k→¬ S2 k)∧(∀ k,S1 k→¬ R2 k)∧∀ k,R1 k→¬ S2 k
 st:=by
  rintro w w' S R ⟨S1,R1,S2,R2,h1,h2,hS,hR,d⟩ hw
  exact ⟨S1,R1,S2,R2,p.st h1 fun k hk=>hw k (hk.imp (fun h=>(hS k).2 (.inl h)) (fun h=>(hR k).2 (.inl h))),q.st h2 fun k hk=>hw k (hk.imp (fun h=>(hS k).2 (.inr h)) (fun h=>(hR k).2 (.inr h))),hS,hR,d⟩
 nd:=by
  rintro w S R k ⟨S1,R1,S2,R2,h1,h2,hS,hR,d⟩ hk
  rcases hk with hk | hk
  ·rcases (hS k).1 hk with hk | hk
   ·exact p.nd h1 (.inl hk)
   ·exact q.nd h2 (.inl hk)
  ·rcases (hR k).1 hk with hk | hk
   ·exact p.nd h1 (.inr hk)
   ·exact q.nd h2 (.inr hk)
instance:HPow SP SP SP:=⟨star⟩
def ex {α:Type} (f:α→SP):SP:=⟨fun w S R=>∃ a,(f a).h w S R,fun ⟨a,h⟩ hw=>⟨a,(f a).st h hw⟩,fun ⟨a,h⟩ hk=>(f a).nd h hk⟩
def pur (p:Prop) (q:SP):SP:=⟨fun w S R=>p∧q.h w S R,fun ⟨a,h⟩ hw=>⟨a,q.st h hw⟩,fun ⟨_,h⟩ hk=>q.nd h hk⟩
def Le (p q:SP):Prop:=∀ w S R,p.h w S R→q.h w S R
theorem Le.rfl {p:SP}:Le p p:=fun _ _ _ h=>h
theorem Le.trans {p q r:SP} (h:Le p q) (k:Le q r):Le p r:=fun w S R x=>k w S R (h w S R x)
theorem star_mono {p p' q q':SP} (h:Le p p') (k:Le q q'):Le (p^q) (p'^q'):=by
 rintro w S R ⟨S1,R1,S2,R2,h1,h2,d⟩
 exact ⟨S1,R1,S2,R2,h _ _ _ h1,k _ _ _ h2,d⟩
theorem star_comm (p q:SP):Le (p^q) (q^p):=by
 rintro w S R ⟨S1,R1,S2,R2,h1,h2,hS,hR,d1,d2,d3⟩
 exact ⟨S2,R2,S1,R1,h2,h1,fun k=>(hS k).trans Or.comm,fun k=>(hR k).trans Or.comm,fun k a b=>d1 k b a,fun k a b=>d3 k b a,fun k a b=>d2 k b a⟩
theorem star_assoc (p q r:SP):Le ((p^q)^r) (p^q^r):=by
 rintro w S R ⟨S12,R12,S3,R3,⟨S1,R1,S2,R2,h1,h2,hS',hR',e1,e2,e3⟩,h3,hS,hR,d1,d2,d3⟩
 refine ⟨S1,R1,fun k=>S2 k∨S3 k,fun k=>R2 k∨R3 k,h1,⟨S2,R2,S3,R3,h2,h3,fun _=>Iff.rfl,fun _=>Iff.rfl,fun k a b=>d1 k ((hS' k).2 (.inr a)) b,fun k a b=>d2 k ((hS' k).2 (.inr a)) b,fun k a b=>d3 k ((hR' k).2 (.inr a)) b⟩,
  fun k=>(hS k).trans ⟨fun h=>h.elim (fun h=>((hS' k).1 h).elim .inl fun h=>.inr (.inl h)) fun h=>.inr (.inr h),fun h=>h.elim (fun h=>.inl ((hS' k).2 (.inl h))) fun h=>h.elim (fun h=>.inl ((hS' k).2 (.inr h))) .inr⟩,
  fun k=>(hR k).trans ⟨fun h=>h.elim (fun h=>((hR' k).1 h).elim .inl fun h=>.inr (.inl h)) fun h=>.inr (.inr h),fun h=>h.elim (fun h=>.inl ((hR' k).2 (.inl h))) fun h=>h.elim (fun h=>.inl ((hR' k).2 (.inr h))) .inr⟩,?_,?_,?_⟩
 ·rintro k a (b | b)
  ·exact e1 k a b
  ·exact d1 k ((hS' k).2 (.inl a)) b
 ·rintro k a (b | b)
  ·exact e2 k a b
  ·exact d2 k ((hS' k).2 (.inl a)) b
 ·rintro k a (b | b)
  ·exact e3 k a b
  ·exact d3 k ((hR' k).2 (.inl a)) b
theorem star_assoc' (p q r:SP):Le (p^q^r) ((p^q)^r) :=
 ((star_comm _ _).trans ((star_mono (star_comm _ _) Le.rfl).trans ((star_assoc _ _ _).trans ((star_comm _ _).trans (star_mono (star_comm _ _) Le.rfl)))))
theorem star_swap (p q r:SP):Le (p^q^r) (q^p^r):=(star_assoc' _ _ _).trans ((star_mono (star_comm _ _) Le.rfl).trans (star_assoc _ _ _))
theorem star_emp (p:SP):Le p (p^emp):=fun w S R h=>⟨S,R,fun _=>False,fun _=>False,h,⟨fun _ h=>h,fun _ h=>h⟩,fun k=>by simp,fun k=>by simp,fun _ _ h=>h,fun _ _ h=>h,fun _ _ h=>h⟩
structure Own (w0:World) (S0 R0:Nat→Prop) (w:World) (F:SP):Prop where
 ext:Ext S0 w0 w
 own:∃ S R,F.h w S R∧(∀ k,S k→S0 k∨w0.heap.size≤k)∧∀ k,R k→S0 k∨R0 k∨w0.heap.size≤k
section
variable {w0 w : World} {S0 R0 : Nat → Prop} {F G A B : SP}
theorem own_start (h:F.h w S0 R0):Own w S0 R0 w F:=⟨Ext.refl _ _,S0,R0,h,fun _ h=>.inl h,fun _ h=>.inr (.inl h)⟩
theorem Own.le (h:Own w0 S0 R0 w F) (k:Le F G):Own w0 S0 R0 w G:=by
 obtain ⟨S,R,hF,hS,hR⟩:=h.own
 exact ⟨h.ext,S,R,k _ _ _ hF,hS,hR⟩
theorem Own.drop (h:Own w0 S0 R0 w (A^F)):Own w0 S0 R0 w F:=by
 obtain ⟨S,R,⟨S1,R1,S2,R2,h1,h2,hS',hR',_⟩,hS,hR⟩:=h.own
 exact ⟨h.ext,S2,R2,h2,fun k hk=>hS k ((hS' k).2 (.inr hk)),fun k hk=>hR k ((hR' k).2 (.inr hk))⟩
theorem Own.keep (h:Own w0 S0 R0 w (A^F)):Own w0 S0 R0 w A:=(h.le (star_comm _ _)).drop
theorem Own.emp' (h:Own w0 S0 R0 w F):Own w0 S0 R0 w emp:=((h.le (star_emp F)).drop)
theorem Own.exP {α:Type} {f:α→SP} (h:Own w0 S0 R0 w (ex f^F)):∃ a,Own w0 S0 R0 w (f a^F):=by
 obtain ⟨S,R,⟨S1,R1,S2,R2,⟨a,h1⟩,h2,d⟩,hS,hR⟩:=h.own
 exact ⟨a,h.ext,S,R,⟨S1,R1,S2,R2,h1,h2,d⟩,hS,hR⟩
theorem Own.purP {p:Prop} {A:SP} (h:Own w0 S0 R0 w (pur p A^F)):p∧Own w0 S0 R0 w (A^F):=by
 obtain ⟨S,R,⟨S1,R1,S2,R2,⟨hp,h1⟩,h2,d⟩,hS,hR⟩:=h.own
 exact ⟨hp,h.ext,S,R,⟨S1,R1,S2,R2,h1,h2,d⟩,hS,hR⟩
theorem Own.toEx {α:Type} {f:α→SP} (a:α) (h:Own w0 S0 R0 w (f a^F)):Own w0 S0 R0 w (X.ex f^F):=h.le (star_mono (fun _ _ _ h=>⟨a,h⟩) Le.rfl)
theorem Own.toPur {p:Prop} {A:SP} (hp:p) (h:Own w0 S0 R0 w (A^F)):Own w0 S0 R0 w (X.pur p A^F):=h.le (star_mono (fun _ _ _ h=>⟨hp,h⟩) Le.rfl)
theorem Own.part (h:Own w0 S0 R0 w (A^F)):∃ S R,A.h w S R∧(∀ k,S k→S0 k∨w0.heap.size≤k) ∧
  ∀ (w':World) (B:SP) (S' R':Nat→Prop),Ext S w w'→B.h w' S' R'→(∀ k,S' k→S k∨w.heap.size≤k)→(∀ k,R' k→S k∨R k∨w.heap.size≤k)→Own w0 S0 R0 w' (B^F):=by
 obtain ⟨S,R,⟨S1,R1,S2,R2,h1,h2,hS',hR',d1,d2,d3⟩,hS,hR⟩:=h.own
 refine ⟨S1,R1,h1,fun k hk=>hS k ((hS' k).2 (.inl hk)),fun w' B S' R' he hB hs hr=>?_⟩
 have hsz:=h.ext.size
 refine ⟨h.ext.trans' he fun i hi hk=>(hS i ((hS' i).2 (.inl hk))).elim id fun h=>absurd h (by omega),fun k=>S' k∨S2 k,fun k=>R' k∨R2 k,⟨S',R',S2,R2,hB,F.ext h2 he (fun k a b=>d1 k b a) (fun k a b=>d2 k b a),fun _=>Iff.rfl,fun _=>Iff.rfl,?_,?_,?_⟩,?_,?_⟩
 ·intro k a b
  rcases hs k a with hh | hh
  ·exact d1 k hh b
  ·have:=F.lt h2 (.inl b);omega
 ·intro k a b
  rcases hs k a with hh | hh
  ·exact d2 k hh b
  ·have:=F.lt h2 (.inr b);omega
 ·intro k a b
  rcases hr k a with hh | hh | hh
  ·exact d1 k hh b
  ·exact d3 k hh b
  ·have:=F.lt h2 (.inl b);omega
 ·rintro k (hk | hk)
  ·rcases hs k hk with hh | hh
   ·exact hS k ((hS' k).2 (.inl hh))
   ·exact .inr (by omega)
  ·exact hS k ((hS' k).2 (.inr hk))
 ·rintro k (hk | hk)
  ·rcases hr k hk with hh | hh | hh
   ·exact (hS k ((hS' k).2 (.inl hh))).imp id .inr
   ·exact hR k ((hR' k).2 (.inl hh))
   ·exact .inr (.inr (by omega))
  ·exact hR k ((hR' k).2 (.inr hk))
theorem Own.more (h:Own w0 S0 R0 w F) {w':World} {B:SP} {S':Nat→Prop} (he:Ext no1 w w') (hB:B.h w' S' (fun _=>False)) (hs:∀ k,S' k→w.heap.size≤k):Own w0 S0 R0 w' (B^F):=by
 have h:=h.le ((star_emp F).trans (star_comm _ _))
 obtain ⟨S,R,h1,_,h2⟩:=h.part
 exact h2 w' B S' _ (he.mono fun _ _ h=>h.elim) hB (fun k hk=>.inr (hs k hk)) (fun _ h=>h.elim)
theorem Own.same (h:Own w0 S0 R0 w F) {w':World} (he:Ext no1 w w'):Own w0 S0 R0 w' F:=by
 have h:=h.le ((star_emp F).trans (star_comm _ _))
 obtain ⟨S,R,h1,_,h2⟩:=h.part
 exact (h2 w' emp (fun _=>False) (fun _=>False) (he.mono fun _ _ h=>h.elim) ⟨fun _ h=>h,fun _ h=>h⟩ (fun _ h=>h.elim) (fun _ h=>h.elim)).drop
theorem Own.lv (h:Own w0 S0 R0 w F) {w':World} (hl:Lv w0.heap.size w w'):Own w0 S0 R0 w' F:=by
 obtain ⟨S,R,hF,hS,hR⟩:=h.own
 have e:=h.ext
 refine ⟨⟨hl.os.trans e.os,hl.tape.trans e.tape,hl.output.trans e.output,by rw [hl.size];exact e.size,fun k hk hn=>?_,fun k hk=>?_⟩,S,R,F.st hF fun k hk=>?_,hS,hR⟩
 ·rw [hl.same k (.inl hk)];exact e.same k hk hn
 ·rw [hl.same k (.inl (Array.getElem?_eq_some_iff.1 hk).1)];exact e.opn k hk
 ·obtain ⟨o,ho,hne⟩:=F.nd hF hk
  exact hl.same k (.inr (by rw [ho];exact fun hh=>hne (Option.some.inj hh)))
end
class Take (A F:SP) (G:outParam SP):Prop where
 le:Le F (A^G)
instance take_here (A G:SP):Take A (A^G) G:=⟨Le.rfl⟩
instance (priority:=500) take_there (A B F G:SP) [t:Take A F G]:Take A (B^F) (B^G):=⟨(star_mono Le.rfl t.le).trans (star_swap _ _ _)⟩
instance (priority:=900) take_last (A:SP):Take A A emp:=⟨star_emp A⟩
instance (priority:=950) take_emp (F:SP):Take emp F F:=⟨(star_emp F).trans (star_comm _ _)⟩
instance (priority:=400) take_in (A B C F G:SP) [t:Take A (B^C^F) G]:Take A ((B^C)^F) G:=⟨(star_assoc _ _ _).trans t.le⟩
instance (priority:=1100) take_star (A B F G H:SP) [t:Take A F G] [u:Take B G H]:Take (A^B) F H:=⟨t.le.trans ((star_mono Le.rfl u.le).trans (star_assoc' _ _ _))⟩
theorem Own.take {w0 w:World} {S0 R0:Nat→Prop} {F G:SP} (A:SP) [t:Take A F G] (h:Own w0 S0 R0 w F):Own w0 S0 R0 w (A^G):=h.le t.le
theorem Own.fin {w0 w:World} {S0 R0:Nat→Prop} {F G A:SP} (h:Own w0 S0 R0 w F) [t:Take A F G]:Own w0 S0 R0 w A:=(h.le t.le).keep
def blk (b:Nat) (L:List Lf):SP where
 h w S R:=Blk w b L∧(∀ k,S k↔k=b)∧∀ k,¬ R k
 st:=by
  rintro w w' S R ⟨⟨T,h⟩,hS,hR⟩ hw
  exact ⟨⟨T,by rw [hw b (.inl ((hS b).2 rfl))];exact h⟩,hS,hR⟩
 nd:=by
  rintro w S R k ⟨⟨T,h⟩,hS,hR⟩ hk
  rcases hk with hk | hk
  ·rw [(hS k).1 hk];exact ⟨_,h,by simp [openD]⟩
  ·exact (hR k hk).elim
def obj (b:Nat) (o:Obj):SP where
 h w S R:=(w.heap[b]?=some o∧o≠openD)∧(∀ k,S k↔k=b)∧∀ k,¬ R k
 st:=by
  rintro w w' S R ⟨h,hS,hR⟩ hw
  exact ⟨⟨by rw [hw b (.inl ((hS b).2 rfl))];exact h.1,h.2⟩,hS,hR⟩
 nd:=by
  rintro w S R k ⟨h,hS,hR⟩ hk
  rcases hk with hk | hk
  ·rw [(hS k).1 hk];exact ⟨_,h⟩
  ·exact (hR k hk).elim
class TakeB (b:Nat) (F:SP) (L:outParam (List Lf)) (G:outParam SP):Prop where
 le:Le F (blk b L^G)
instance takeB_here (b:Nat) (L:List Lf) (G:SP):TakeB b (blk b L^G) L G:=⟨Le.rfl⟩
instance (priority:=900) takeB_last (b:Nat) (L:List Lf):TakeB b (blk b L) L emp:=⟨star_emp _⟩
instance (priority:=400) takeB_in (b:Nat) (L:List Lf) (B C F G:SP) [t:TakeB b (B^C^F) L G]:TakeB b ((B^C)^F) L G:=⟨(star_assoc _ _ _).trans t.le⟩
instance (priority:=500) takeB_there (b:Nat) (L:List Lf) (B F G:SP) [t:TakeB b F L G]:TakeB b (B^F) L (B^G):=⟨(star_mono Le.rfl t.le).trans (star_swap _ _ _)⟩
section
variable {w0 w : World} {S0 R0 : Nat → Prop} {F G A B : SP}
theorem Own.blkP {b:Nat} {L:List Lf} (h:Own w0 S0 R0 w (blk b L^F)):Blk w b L∧∀ (w':World) (L':List Lf),Ext (at1 b) w w'→Blk w' b L'→Own w0 S0 R0 w' (X.blk b L'^F):=by
 obtain ⟨S,R,⟨h1,hS,hR⟩,_,h2⟩:=h.part
 exact ⟨h1,fun w' L' he hb=>h2 w' (X.blk b L') S (fun _=>False) (he.mono fun k _ hk=>(hS k).2 hk) ⟨hb,hS,fun _ h=>h⟩ (fun _ h=>.inl h) (fun _ h=>h.elim)⟩
theorem w_new {ls:List Lf} {K:Nat→WP} (h:Own w0 S0 R0 w F) (k:∀ b w',Own w0 S0 R0 w' (blk b ls^F)→K b w'):new ls K w :=
 fun w' he hb _=>k _ w' (h.more he (S':=fun k=>k=w.heap.size) ⟨hb,fun _=>Iff.rfl,fun _ h=>h⟩ (fun _ hk=>by rw [hk];exact Nat.le_refl _))
theorem un_mk:∀ {ks:Ks} {x:Ks.T ks},Ks.un ks (Ks.mk ks x)=some x:=by
 intro ks
 have one:∀ (c:CK) (x:c.T),c.un (c.mk x)=some x:=fun c x=>by cases c<;>simp [CK.un,CK.mk]
 induction ks with
 | nil=>intro x;rfl
 | cons c ks ih =>
  cases ks with
  | nil=>intro x;simp [Ks.un,Ks.mk,one]
  | cons d r=>intro x;simp only [Ks.un,Ks.mk,one,ih]
theorem reads_of {b o:Nat} {L:List Lf} {ks:Ks} {x:Ks.T ks} (hb:Blk w b L) (hx:Ks.un ks ((L.drop o).take ks.length)=some x):Reads w b o (Ks.mk ks x):=by
 have e:=Ks.un_some hx
 refine hb.reads _ _ fun i hi=>?_
 rw [e]
 rw [e] at hi
 have hi2:i < ks.length:=by rw [List.length_take] at hi;omega
 rw [List.getElem?_take,if_pos hi2,List.getElem?_drop]
theorem w_ld {p:Pt} {ks:Ks} {K:Ks.T ks→WP} {L:List Lf} {x:Ks.T ks} (h:Own w0 S0 R0 w F) [t:TakeB p.b F L G] (hx:Ks.un ks ((L.drop p.o).take ks.length)=some x) (k:K x w):ld ks p K w :=
 ⟨x,reads_of (h.le t.le).blkP.1 hx,k⟩
theorem w_chk {p:Pt} {ls:List Lf} {A:WP} {L:List Lf} (h:Own w0 S0 R0 w F) [t:TakeB p.b F L G] (hx:(L.drop p.o).take ls.length=ls) (k:A w):chk p ls A w:=by
 refine ⟨(h.le t.le).blkP.1.reads _ _ fun i hi=>?_,k⟩
 have:((L.drop p.o).take ls.length)[i]?=ls[i]?:=by rw [hx]
 rwa [List.getElem?_take,if_pos hi,List.getElem?_drop] at this
theorem w_st {p:Pt} {ls:List Lf} {A:WP} {L:List Lf} (h:Own w0 S0 R0 w F) [t:TakeB p.b F L G] (hx:p.o+ls.length≤L.length) (k:∀ w',Own w0 S0 R0 w' (X.blk p.b (splice L p.o ls)^G)→A w'):st p ls A w:=by
 obtain ⟨h1,h2⟩:=(h.le t.le).blkP
 exact ⟨L,h1,hx,fun w' he hb _=>k w' (h2 w' _ he hb)⟩
theorem w_drw {A:WP} (h:Own w0 S0 R0 w F) (k:∀ w',Own w0 S0 R0 w' F→A w'):drw A w:=fun w' he _=>k w' (h.same he)
theorem w_leave {A:WP} (h:Own w0 S0 R0 w F) (k:∀ w',Own w0 S0 R0 w' F→A w'):leave w0.heap.size A w:=fun w' hl=>k w' (h.lv hl)
theorem w_ite {b:Bool} {A B:WP} (h1:b=true→A w) (h2:b=false→B w):ite' b A B w:=by
 cases b
 ·exact h2 rfl
 ·exact h1 rfl
def Tri (P:Program) (f:FuncId) (args:List V1) (rs:List Sh) (Pre:SP) (Post:Rs.T rs→SP):Prop :=
 ∀ w S R,Pre.h w S R→CallX P f (args.map V1.enc) w fun v w'=>∃ x,v=(retTV (Rs.mk rs x)).enc∧Own w S R w' (Post x)
def TriG (P:Program) (f:Fv) (args:List V1) (rs:List Sh) (Pre:SP) (Post:Rs.T rs→SP):Prop :=
 ∀ w S R,Pre.h w S R→CallG P f (args.map V1.enc) w fun v w'=>∃ x,v=(retTV (Rs.mk rs x)).enc∧Own w S R w' (Post x)
def TriV (P:Program) (f:Fv) (args:List V1) (rs:List Sh) (Pre:SP) (Post:Rs.T rs→SP):Prop :=
 ∀ w S R,Pre.h w S R→CallV P f (args.map V1.enc) w fun v w'=>∃ x,v=(retTV (Rs.mk rs x)).enc∧Own w S R w' (Post x)
theorem CallG.v {f:Fv} {args:List Value} {w:World} {R:Value→World→Prop} (h:CallG P f args w R):CallV P f args w R:=by
 cases f with
 | nil=>exact h.elim
 | mk fn a c=>cases fn with
  | func g=>exact h
  | _=>exact h.elim
theorem TriG.v {f:Fv} {args:List V1} {rs:List Sh} {Pre:SP} {Post:Rs.T rs→SP} (h:TriG P f args rs Pre Post):TriV P f args rs Pre Post:=fun w S R hp=>(h w S R hp).v
theorem Own.call {Pre:SP} (h:Own w0 S0 R0 w (Pre^G)):∃ S R,Pre.h w S R∧∀ w' Q,Own w S R w' Q→Dfr w w'∧Own w0 S0 R0 w' (Q^G):=by
 obtain ⟨S,R,h1,_,h2⟩:=h.part
 refine ⟨S,R,h1,fun w' Q hq=>?_⟩
 obtain ⟨S',R',hQ,hs,hr⟩:=hq.own
 exact ⟨hq.ext.dfr,h2 w' Q S' R' hq.ext hQ hs hr⟩
theorem w_call {f:FuncId} {args:List V1} {rs:List Sh} {Pre:SP} {Post:Rs.T rs→SP} {K:Rs.T rs→WP} (t:Tri P f args rs Pre Post) (h:Own w0 S0 R0 w F) [tk:Take Pre F G] (k:∀ x w',Own w0 S0 R0 w' (Post x^G)→K x w'):call P f args rs K w:=by
 obtain ⟨S,R,h1,h2⟩:=(h.le tk.le).call
 exact CallX.mono (t w S R h1) fun v w' ⟨x,hv,ho⟩=>⟨x,hv,(h2 w' _ ho).1,k x w' (h2 w' _ ho).2⟩
theorem w_callv {f:Fv} {args:List V1} {rs:List Sh} {Pre:SP} {Post:Rs.T rs→SP} {K:Rs.T rs→WP} (t:TriV P f args rs Pre Post) (h:Own w0 S0 R0 w F) [tk:Take Pre F G] (k:∀ x w',Own w0 S0 R0 w' (Post x^G)→K x w'):callv P f args rs K w:=by
 obtain ⟨S,R,h1,h2⟩:=(h.le tk.le).call
 exact CallV.mono (t w S R h1) fun v w' ⟨x,hv,ho⟩=>⟨x,hv,(h2 w' _ ho).1,k x w' (h2 w' _ ho).2⟩
end
end Go.X

