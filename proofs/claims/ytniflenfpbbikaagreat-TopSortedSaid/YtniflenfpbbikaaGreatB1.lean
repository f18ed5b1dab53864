/- Contracts and plain facts: ArithC Conf Delays Ints Lists TreeA. -/
import Derived.Test.YtniflenfpbbikaaGreatB0
import Derived.Test.YtniflenfpbbikaaGreatK
import Derived.Test.YtniflenfpbbikaaGreatF0
import Derived.Test.YtniflenfpbbikaaGreatF1
import Derived.Test.YtniflenfpbbikaaGreatF2
set_option linter.unusedVariables false
set_option linter.unusedSimpArgs false
set_option linter.unusedSectionVars false
namespace Go.X
open Go.Proofs
namespace ArithC
open Arith
theorem add64_tri (a b:Int) (ha:U a) (hb:U b):Tri Tryz.prog N_math_bits_Add64 [.lf (.int .u64 a),.lf (.int .u64 b),.lf (.int .u64 (0:Int))] [.lf (.int .u64),.lf (.int .u64)] emp (fun r=>pur (r=((a+b) % 18446744073709551616,(a+b) / 18446744073709551616)) emp) :=
 tri_0 (call_math_bits_Add64 a b 0) fun w0 S R h=>by
  unfold W_math_bits_Add64
  refine ⟨⟨⟨ha.1,hb.1⟩,by omega,by omega⟩,?_⟩
  rw [show a+b+(0:Int)=a+b by omega]
  exact Own.retP rfl h.fin
theorem satadd_tri (a b:Int) (ha:U a) (hb:U b):Tri Tryz.prog N_sat_Add [.lf (.int .u64 a),.lf (.int .u64 b)] [.lf (.int .u64)] emp (fun r=>pur (r=addI a b) emp) :=
 tri_0 (call_sat_Add a b) fun w0 S R h=>by
  unfold W_sat_Add
  refine w_call (add64_tri a b ha hb) h fun r w h=>?_
  obtain ⟨hr,h⟩:=h.purP
  rw [hr]
  unfold U at ha hb
  refine w_ite (fun c=>?_) fun c=>?_
  ·have c:(a+b) / 18446744073709551616 > 0:=by simpa using c
   exact Own.retP (by unfold addI;rw [if_neg (by omega)]) h.fin
  ·have c:¬ (a+b) / 18446744073709551616 > 0:=by simpa using c
   exact Own.retP (by unfold addI;rw [if_pos (by omega)];show (a+b) % 18446744073709551616=_;omega) h.fin
theorem rsub_eq {a b:Int} (ha:U a) (hb:U b):IntKind.u64.wrap (a - (if b < a then b else a))=subI a b:=by
 unfold U subI at *
 split
 ·rw [if_neg (by omega),wu (by omega) (by omega)]
 ·rw [wu (by omega) (by omega)];split<;>omega
theorem satsub_tri (a b:Int) (ha:U a) (hb:U b):Tri Tryz.prog N_sat_Sub [.lf (.int .u64 a),.lf (.int .u64 b)] [.lf (.int .u64)] emp (fun r=>pur (r=subI a b) emp) :=
 tri_0 (call_sat_Sub a b) fun w0 S R h=>by
  unfold W_sat_Sub
  exact Own.retP (rsub_eq ha hb) h.fin
theorem mm (x:Int):x % 4294967296 % 18446744073709551616=x % 4294967296:=by omega
theorem mul_hi {x1 x0 y1 y0:Int} (h1:0≤x1∧x1 < 4294967296) (h0:0≤x0∧x0 < 4294967296) (g1:0≤y1∧y1 < 4294967296) (g0:0≤y0∧y0 < 4294967296) :
  (0≤x1 * y1∧x1 * y1≤18446744065119617025)∧(0≤x1 * y0∧x1 * y0≤18446744065119617025)∧(0≤x0 * y1∧x0 * y1≤18446744065119617025)∧(0≤x0 * y0∧x0 * y0≤18446744065119617025):=by
 have k:∀ {a b:Int},(0≤a∧a < 4294967296)→(0≤b∧b < 4294967296)→0≤a * b∧a * b≤18446744065119617025:=fun {a b} ha hb =>
  ⟨Int.mul_nonneg ha.1 hb.1,by
   have:=Int.mul_le_mul (show a≤4294967295 by omega) (show b≤4294967295 by omega) hb.1 (by omega)
   omega⟩
 exact ⟨k h1 g1,k h1 g0,k h0 g1,k h0 g0⟩
theorem mul_split (x y:Int):x * y=(x / 4294967296 * (y / 4294967296)) * 18446744073709551616+(x / 4294967296 * (y % 4294967296)+x % 4294967296 * (y / 4294967296)) * 4294967296+x % 4294967296 * (y % 4294967296):=by
 have hx:x=x / 4294967296 * 4294967296+x % 4294967296:=by omega
 have hy:y=y / 4294967296 * 4294967296+y % 4294967296:=by omega
 obtain ⟨a,ha⟩:∃ a,x / 4294967296=a:=⟨_,rfl⟩
 obtain ⟨b,hb⟩:∃ a,x % 4294967296=a:=⟨_,rfl⟩
 obtain ⟨c,hc⟩:∃ a,y / 4294967296=a:=⟨_,rfl⟩
 obtain ⟨d,hd⟩:∃ a,y % 4294967296=a:=⟨_,rfl⟩
 rw [ha,hb] at hx
 rw [hc,hd] at hy
 rw [ha,hb,hc,hd,hx,hy]
 simp only [Int.add_mul,Int.mul_add]
 have e1:a * 4294967296 * (c * 4294967296)=a * c * 18446744073709551616:=by
  rw [Int.mul_assoc,Int.mul_left_comm 4294967296,← Int.mul_assoc];rfl
 have e2:a * 4294967296 * d=a * d * 4294967296:=by rw [Int.mul_assoc,Int.mul_comm 4294967296,← Int.mul_assoc]
 have e3:b * (c * 4294967296)=b * c * 4294967296:=by rw [← Int.mul_assoc]
 omega
theorem mul64_tri (a b:Int) (ha:U a) (hb:U b):Tri Tryz.prog N_math_bits_Mul64 [.lf (.int .u64 a),.lf (.int .u64 b)] [.lf (.int .u64),.lf (.int .u64)] emp (fun r=>pur (r=(a * b / 18446744073709551616,a * b % 18446744073709551616)) emp) :=
 tri_0 (call_math_bits_Mul64 a b) fun w0 S R h=>by
  unfold W_math_bits_Mul64
  refine ⟨by decide,by decide,by decide,by decide,by decide,?_⟩
  refine Own.retP ?_ h.fin
  have k:=mul_hi (x1:=a / 4294967296) (x0:=a % 4294967296) (y1:=b / 4294967296) (y0:=b % 4294967296) (by unfold U at ha;omega) (by omega) (by unfold U at hb;omega) (by omega)
  have hs:=mul_split a b
  simp only [fdiv32,andm,wm,mm]
  generalize a * b=z at *
  generalize a / 4294967296 * (b / 4294967296)=p11 at *
  generalize a / 4294967296 * (b % 4294967296)=p10 at *
  generalize a % 4294967296 * (b / 4294967296)=p01 at *
  generalize a % 4294967296 * (b % 4294967296)=p00 at *
  refine Prod.ext ?_ rfl
  show _=z / 18446744073709551616
  omega
def divI (h l c:Int):Int × Int:=if c=0 then (0,1) else if h ≥ c then (0,3) else ((h * 18446744073709551616+l) / c,0)
theorem p63 {q:Int} {i:Nat} (hi:i < 64) (h:q < 2^i):q < 9223372036854775808:=by
 have k:∀ i:Nat,i < 64→(2:Int)^i≤9223372036854775808:=by decide +kernel
 have:=k i hi
 omega
theorem div_tri (h l c:Int) (hh:U h) (hl:U l) (hc:U c):Tri Tryz.prog N_wide_Div [.lf (.int .u64 h),.lf (.int .u64 l),.lf (.int .u64 c)] [.lf (.int .u64),.lf (.int .i64)] emp (fun r=>pur (r=divI h l c) emp) :=
 tri_0 (call_wide_Div h l c) fun w0 S R hO=>by
  unfold W_wide_Div
  refine w_ite (fun c1=>?_) fun c1=>?_
  ·have c1:c=0:=by simpa using c1
   exact Own.retP (by unfold divI;rw [if_pos c1]) hO.fin
  have c1:¬ c=0:=by simpa using c1
  refine w_ite (fun c2=>?_) fun c2=>?_
  ·have c2:h ≥ c:=by simpa using c2
   exact Own.retP (by unfold divI;rw [if_neg c1,if_pos c2]) hO.fin
  have c2:¬ h ≥ c:=by simpa using c2
  have e0:divI h l c=((h * 18446744073709551616+l) / c,0):=by unfold divI;rw [if_neg c1,if_neg c2]
  rw [e0]
  refine w_loop (fun (_:T_u3i)=>emp) (fun (y:T_u3i)=>(0≤(y.2.2.2:Int))∧Dv (h * 18446744073709551616+l) c y.2.2.1 y.1 y.2.1 y.2.2.2.toNat) (fun (y:T_u3i)=>64 - y.2.2.2.toNat) hO ⟨Int.le_refl _,Dv.start hl hh.1 (by omega)⟩ ?_
  rintro (⟨r,l,q,i⟩:Int × Int × Int × Int) w ⟨h0,d⟩ hO
  dsimp only at h0 d hO ⊢
  refine w_ite (fun c3=>?_) fun c3=>?_
  ·have c3:i=64:=by simpa using c3
   rw [c3] at d
   exact Own.retP (by rw [d.last (by unfold U at hc;omega)]) hO.fin
  have c3:¬ i=64:=by simpa using c3
  have il:=d.il
  have hi:i.toNat < 64:=by omega
  obtain ⟨n1,n2⟩:=d.next hi
  have q1:=p63 hi d.ql
  have q0:=d.q0
  have r0:=d.r0
  have rc:=d.rc
  have ul:=d.ul
  have ei:(i+1).toNat=i.toNat+1:=by omega
  refine ⟨by decide,by decide,by decide,by decide,by decide,?_⟩
  rw [or_bit ul,or_one,shl1,shl1,fdiv63,wi (n:=i+1) (by omega) (by omega)]
  unfold U at hc ul
  refine w_ite (fun c4=>?_) fun c4=>?_
  ·have c4:r / 9223372036854775808=0∧2 * r % 18446744073709551616+l / 9223372036854775808 < c:=by simpa using c4
   have n:=n1 (by omega)
   refine ⟨⟨⟨by show 0≤i+1;omega,?_⟩,hO⟩,by show 64 - (i+1).toNat < 64 - i.toNat;omega⟩
   show Dv _ c (2 * q % 18446744073709551616) (2 * r % 18446744073709551616+l / 9223372036854775808) (2 * l % 18446744073709551616) (i+1).toNat
   rw [ei,show 2 * q % 18446744073709551616=2 * q by omega,show 2 * r % 18446744073709551616=2 * r by omega]
   exact n
  ·have c4:¬ (r / 9223372036854775808=0∧2 * r % 18446744073709551616+l / 9223372036854775808 < c):=fun hh=>by simp [hh] at c4
   have n:=n2 (by omega)
   refine ⟨⟨⟨by show 0≤i+1;omega,?_⟩,hO⟩,by show 64 - (i+1).toNat < 64 - i.toNat;omega⟩
   show Dv _ c (2 * q % 18446744073709551616+1) (IntKind.u64.wrap (2 * r % 18446744073709551616+l / 9223372036854775808 - c)) (2 * l % 18446744073709551616) (i+1).toNat
   rw [ei,wm,show 2 * q % 18446744073709551616=2 * q by omega,show (2 * r % 18446744073709551616+l / 9223372036854775808 - c) % 18446744073709551616=2 * r+l / 9223372036854775808 - c by omega]
   exact n
theorem md_eq {a b c:Int} (ha:U a) (hb:U b) (hc:U c) (h:a * b≠0):mdI a b c=if (divI (a * b / 18446744073709551616) (a * b % 18446744073709551616) c).2≠0 then 18446744073709551615 else (divI (a * b / 18446744073709551616) (a * b % 18446744073709551616) c).1:=by
 have hn:=Int.mul_nonneg ha.1 hb.1
 unfold mdI divI
 rw [if_neg h]
 unfold U at hc
 generalize a * b=z at *
 by_cases c1:c=0
 ·rw [if_pos c1,if_neg (by omega)];rfl
 ·rw [if_neg c1]
  by_cases c2:z / 18446744073709551616 ≥ c
  ·rw [if_pos c2,if_neg (by omega)];rfl
  ·rw [if_neg c2,if_pos (by omega),show z / 18446744073709551616 * 18446744073709551616+z % 18446744073709551616=z by omega];rfl
theorem U_hi {a b:Int} (ha:U a) (hb:U b):U (a * b / 18446744073709551616):=by
 have hn:=Int.mul_nonneg ha.1 hb.1
 refine ⟨by omega,Int.ediv_lt_of_lt_mul (by decide) ?_⟩
 unfold U at ha hb
 have:=Int.mul_le_mul (show a≤18446744073709551615 by omega) (show b≤18446744073709551615 by omega) hb.1 (by omega)
 omega
theorem U_lo (a:Int):U (a % 18446744073709551616):=by unfold U;omega
theorem wmul_tri (a b:Int) (ha:U a) (hb:U b):Tri Tryz.prog N_wide_Mul [.lf (.int .u64 a),.lf (.int .u64 b)] [.lf (.int .u64),.lf (.int .u64)] emp (fun r=>pur (r=(a * b / 18446744073709551616,a * b % 18446744073709551616)) emp) :=
 tri_0 (call_wide_Mul a b) fun w0 S R h=>by
  unfold W_wide_Mul
  refine w_call (mul64_tri a b ha hb) h fun r w h=>?_
  obtain ⟨hr,h⟩:=h.purP
  rw [hr]
  exact Own.retP rfl h.fin
theorem zero_of {z:Int} (h:((z / 18446744073709551616 == (0:Int)) && (z % 18446744073709551616 == (0:Int)))=true):z=0:=by
 simp at h;omega
theorem zero_not {z:Int} (h:((z / 18446744073709551616 == (0:Int)) && (z % 18446744073709551616 == (0:Int)))=false):z≠0:=by
 rintro rfl;simp at h
theorem md_tri (a b c:Int) (ha:U a) (hb:U b) (hc:U c):Tri Tryz.prog N_wide_MulDiv [.lf (.int .u64 a),.lf (.int .u64 b),.lf (.int .u64 c)] [.lf (.int .u64)] emp (fun r=>pur (r=mdI a b c) emp) :=
 tri_0 (call_wide_MulDiv a b c) fun w0 S R h=>by
  unfold W_wide_MulDiv
  refine w_call (wmul_tri a b ha hb) h fun r w h=>?_
  obtain ⟨hr,h⟩:=h.purP
  rw [hr]
  refine w_ite (fun c1=>?_) fun c1=>?_
  ·exact Own.retP (by unfold mdI;rw [if_pos (zero_of c1)]) h.fin
  have hz:=zero_not c1
  refine w_call (div_tri _ _ c (U_hi ha hb) (U_lo _) hc) h fun r w h=>?_
  obtain ⟨hr,h⟩:=h.purP
  rw [hr]
  have hm:=md_eq ha hb hc hz
  refine w_ite (fun c2=>?_) fun c2=>?_
  ·exact Own.retP (by rw [hm,if_pos (by simpa using c2)]) h.fin
  ·exact Own.retP (by rw [hm,if_neg (by simpa using c2)]) h.fin
theorem satmul_tri (a b:Int) (ha:U a) (hb:U b):Tri Tryz.prog N_sat_Mul [.lf (.int .u64 a),.lf (.int .u64 b)] [.lf (.int .u64)] emp (fun r=>pur (r=mulI a b) emp) :=
 tri_0 (call_sat_Mul a b) fun w0 S R h=>by
  unfold W_sat_Mul
  refine w_call (mul64_tri a b ha hb) h fun r w h=>?_
  obtain ⟨hr,h⟩:=h.purP
  rw [hr]
  have hn:=Int.mul_nonneg ha.1 hb.1
  refine w_ite (fun c=>?_) fun c=>?_
  ·have c:a * b / 18446744073709551616 > 0:=by simpa using c
   exact Own.retP (by unfold mulI;rw [if_neg (by omega)]) h.fin
  ·have c:¬ a * b / 18446744073709551616 > 0:=by simpa using c
   exact Own.retP (by unfold mulI;rw [if_pos (by omega)];show a * b % 18446744073709551616=_;omega) h.fin
end ArithC

namespace Conf
open Arith
abbrev Cf:=Int × Int × Int × Int × Int × Int × Bool × Int × Int
abbrev KC:Ks:=[.int .i64,.int .i64,.int .i64,.int .i64,.int .u64,.int .u64,.bool,.int .i64,.int .i64]
abbrev cQ (c:Cf):Int:=c.1
abbrev cF (c:Cf):Int:=c.2.1
abbrev cL (c:Cf):Int:=c.2.2.1
abbrev cW (c:Cf):Int:=c.2.2.2.1
abbrev cH (c:Cf):Int:=c.2.2.2.2.1
abbrev cR (c:Cf):Int:=c.2.2.2.2.2.1
abbrev cD (c:Cf):Bool:=c.2.2.2.2.2.2.1
abbrev cCap (c:Cf):Int:=c.2.2.2.2.2.2.2.1
abbrev cMss (c:Cf):Int:=c.2.2.2.2.2.2.2.2
def may (c:Cf):Bool:=decide (100≤cQ c∧cQ c≤65536) && (decide (100≤cF c∧cF c≤65536) && (decide (1≤cL c∧cL c≤512) && (decide (1≤cW c∧cW c≤512) && (decide (cH c≤4611686018427387904) && (decide (1≤cCap c∧cCap c≤1073741824) && decide (100≤cMss c∧cMss c≤9000))))))
structure OkC (c:Cf):Prop where
 q:100≤cQ c∧cQ c≤65536
 f:100≤cF c∧cF c≤65536
 l:1≤cL c∧cL c≤512
 w:1≤cW c∧cW c≤512
 h:0≤cH c∧cH c≤4611686018427387904
 r:U (cR c)
 cap:1≤cCap c∧cCap c≤1073741824
 mss:100≤cMss c∧cMss c≤9000
abbrev plainC:Cf:=(3000,15000,100,50,10000000000,0,false,100000,1000)
def configF (d:Cf):Cf:=((if 100≤cQ d∧cQ d≤65536 then cQ d else 3000),(if 100≤cF d∧cF d≤65536 then cF d else 15000),(if 1≤cL d∧cL d≤512 then cL d else 100),(if 1≤cW d∧cW d≤512 then cW d else 50),(if cH d≤4611686018427387904 then cH d else 10000000000),(cR d),(cD d),(if 1≤cCap d∧cCap d≤1073741824 then cCap d else 100000),(if 100≤cMss d∧cMss d≤9000 then cMss d else 1000))
abbrev zC:List Lf:=[.int .i64 0,.int .i64 0,.int .i64 0,.int .i64 0,.int .u64 0,.int .u64 0,.bool false,.int .i64 0,.int .i64 0]
end Conf

namespace Delays
open Arith ArithC
def delayI (size rate:Int):Int:=if size < 1∨rate=18446744073709551615 then 0 else if 1000000000 < mdI size 1000000000 rate then 1000000000 else mdI size 1000000000 rate
def lessI (a b:Int):Int:=if (if a=0 then 18446744073709551615 else a) > (if b=0 then 18446744073709551615 else b) then (if b=0 then 18446744073709551615 else b) else (if a=0 then 18446744073709551615 else a)
theorem delay_tri (n r:Int) (hn:n < 9223372036854775808) (hr:U r):Tri Tryz.prog N_delay_Of [.lf (.int .i64 n),.lf (.int .u64 r)] [.lf (.int .u64)] emp (fun x=>pur (x=delayI n r) emp) :=
 tri_0 (call_delay_Of n r) fun w0 S R h=>by
  unfold W_delay_Of delayI
  refine w_ite (fun c=>?_) fun c=>?_
  ·have c:n < 1∨r=18446744073709551615:=by simpa using c
   rw [if_pos c];exact Own.retP rfl h
  have c:¬ (n < 1∨r=18446744073709551615):=by simpa using c
  rw [if_neg c,wu (n:=n) (by omega) (by omega)]
  refine w_call (md_tri n 1000000000 r ⟨by omega,by omega⟩ (U_lit _) hr) h fun x w h=>?_
  obtain ⟨hx,h⟩:=h.purP;rw [hx]
  exact Own.retP rfl h.emp'
theorem U_delay {n r:Int} (hn:n < 9223372036854775808) (hr:U r):U (delayI n r):=by
 unfold delayI
 split
 ·exact U_lit 0
 ·rename_i c
  have h:=U_md (a:=n) (b:=1000000000) (c:=r) ⟨by omega,by omega⟩ (U_lit _) hr
  split
  ·exact U_lit _
  ·exact h
end Delays

namespace Ints
theorem int_index_tri (s:Sl) (f:Fv) (C:SP) (xs:List (Ks.T KI)) (p:Ks.T KI→Bool) (hl:xs.length≤4294967296) (hf:∀ x∈xs,TriV Tryz.prog f [.lf (.int .i64 x)] [.lf .bool] C (fun r=>pur (r=p x) C)) :
  Tri Tryz.prog N_slices_IndexFunc_sintint [.lf (.sl s),.lf (.fn f)] [.lf (.int .i64)] (C^rarr s KI xs) (fun r=>pur (r=fI p xs) C) :=
 tri_0 (call_slices_IndexFunc_sintint _ _) fun w S R h=>by
  unfold W_slices_IndexFunc_sintint
  have hsl:=(h.rd (s:=s)).2
  refine w_loop (fun _=>C^rarr s KI xs) (fun (y:Int)=>0≤y∧y.toNat≤xs.length∧∀ j y',j < y.toNat→xs[j]?=some y'→p y'=false) (fun (y:Int)=>xs.length - y.toNat) h ⟨Int.le_refl 0,by simp,fun j _ hj=>by simp at hj⟩ ?_
  rintro (y:Int) w ⟨h0,h1,h2⟩ h
  refine w_ite (fun c=>?_) fun c=>?_
  ·have hy:y.toNat < xs.length:=by simp at c;omega
   refine w_idx h h0 hy ?_
   refine w_ldA h s y.toNat 0 _ (at_some hy) rfl (by decide) (un_mk (ks:=KI)) ?_
   refine w_callv (hf _ (List.getElem_mem hy)) h fun r w h=>?_
   obtain ⟨hr,h⟩:=h.purP
   have hw:IntKind.i64.wrap (y+1)=y+1:=wi (by omega) (by omega)
   refine w_ite (fun c=>?_) fun c=>?_
   ·refine Own.retP ?_ h.fin
    rw [fI_at (at_some hy) (by rw [← hr];exact c) h2];exact (Int.toNat_of_nonneg h0).symm
   ·rw [hw]
    refine ⟨⟨⟨(by show (0:Int)≤y+1;omega),(by show (y+1).toNat≤_;omega),fun j y' hj hy'=>?_⟩,h⟩,(by show _ - (y+1).toNat < _;omega)⟩
    have hj:j < (y+1).toNat:=hj
    by_cases hjy:j=y.toNat
    ·subst hjy
     rw [at_some hy] at hy'
     cases hy'
     rw [← hr];exact c
    ·exact h2 j y' (by omega) hy'
  ·refine Own.retP ?_ h.fin
   rw [fI_none]
   intro x hx
   obtain ⟨j,hj,rfl⟩:=List.mem_iff_getElem.1 hx
   refine h2 j _ ?_ (at_some hj)
   simp at c;omega
end Ints

namespace Lists
abbrev LV:=List Int × List Int
def lst (b:Nat) (v:LV):SP:=ex fun s:Sl × Sl=>blk b [.sl s.1,.sl s.2]^arr s.1 KI v.1^arr s.2 KI v.2
instance (b:Nat) (v:LV):NoR (lst b v):=by unfold lst;infer_instance
theorem _root_.Go.X.Own.lst {w0 w:World} {S0 R0:Nat→Prop} {F G:SP} {v:LV} (h:Own w0 S0 R0 w F) (b:Nat) [t:TakeK Lists.lst b F v G]:∃ s1 s2,Own w0 S0 R0 w (blk b [.sl s1,.sl s2]^arr s1 KI v.1^arr s2 KI v.2^G):=by
 obtain ⟨s,h⟩:=(h.le t.le).exP
 exact ⟨s.1,s.2,h.le ((star_assoc _ _ _).trans (star_mono Le.rfl (star_assoc _ _ _)))⟩
theorem _root_.Go.X.Own.mkLst {w0 w:World} {S0 R0:Nat→Prop} {F G:SP} (h:Own w0 S0 R0 w F) (b:Nat) (s1 s2:Sl) (v:LV) [t:Take (blk b [.sl s1,.sl s2]^arr s1 KI v.1^arr s2 KI v.2) F G]:Own w0 S0 R0 w (Lists.lst b v^G) :=
 (h.le t.le).toEx (f:=fun s:Sl × Sl=>blk b [.sl s.1,.sl s.2]^arr s.1 KI v.1^arr s.2 KI v.2) (s1,s2)
def okL (v:LV):Prop:=(v.1++v.2).Nodup∧∀ x∈v.1++v.2,0≤x∧x < 8
theorem okL.few {v:LV} (h:okL v):v.1.length+v.2.length≤8:=by
 have:=nodup_few 8 (v.1++v.2) h.1 h.2
 rwa [List.length_append] at this
def placeF (v:LV) (s:Int):Int:=if s∈v.1 then 1 else if s∈v.2 then 2 else 0
theorem placeF_0 {v:LV} {s:Int}:placeF v s=0↔s ∉ v.1++v.2:=by
 unfold placeF;rw [List.mem_append];split
 ·simp_all
 ·split<;>simp_all
def pushF (v:LV) (s:Int) (f:Bool):Int × LV:=if s < 0∨8≤s then (8,v) else if placeF v s≠0 then (6,v) else if f then (0,(v.1++[s],v.2)) else (0,(v.1,v.2++[s]))
def headF (v:LV):Int × Bool × Bool:=match v.1,v.2 with
 | x :: _,_=>(x,true,true)
 | [],x :: _=>(x,false,true)
 | [],[]=>(0,false,false)
def outF (v:LV) (s:Int):LV:=(v.1.filter (fun x=>decide (x≠s)),v.2.filter (fun x=>decide (x≠s)))
def removeF (v:LV) (s:Int):Bool × LV:=(decide (placeF v s≠0),outF v s)
def dropF (v:LV):Bool × LV:=if (headF v).2.2 then (true,outF v (headF v).1) else (false,v)
def backF (v:LV):Bool × LV:=if (headF v).2.2 then (true,((outF v (headF v).1).1,(outF v (headF v).1).2++[(headF v).1])) else (false,v)
def allF (v:LV):List (Int × Bool):=v.1.map (fun x=>(x,true))++v.2.map (fun x=>(x,false))
theorem okL.push {v:LV} (h:okL v) (s:Int) (f:Bool):okL (pushF v s f).2:=by
 unfold pushF
 split
 ·exact h
 ·split
  ·exact h
  ·rename_i h1 h2
   have h2:s ∉ v.1++v.2:=placeF_0.1 (by simpa using h2)
   have h3:∀ x∈v.1++v.2,x≠s:=fun x hx e=>h2 (e ▸ hx)
   have hs:0≤s∧s < 8:=by omega
   obtain ⟨hd,hr⟩:=h
   rw [List.nodup_append] at hd
   obtain ⟨d1,d2,d3⟩:=hd
   split
   ·constructor
    ·show (v.1++[s]++v.2).Nodup
     rw [List.append_assoc,List.nodup_append]
     refine ⟨d1,by rw [List.singleton_append,List.nodup_cons];exact ⟨fun hx=>h2 (by simp [hx]),d2⟩,fun a ha b hb=>?_⟩
     rw [List.singleton_append,List.mem_cons] at hb
     rcases hb with rfl | hb
     ·exact h3 a (by simp [ha])
     ·exact d3 a ha b hb
    ·intro x hx
     have hx:x∈v.1++[s]++v.2:=hx
     simp only [List.mem_append,List.mem_singleton] at hx
     rcases hx with (hx | rfl) | hx
     ·exact hr x (by simp [hx])
     ·exact hs
     ·exact hr x (by simp [hx])
   ·constructor
    ·show (v.1++(v.2++[s])).Nodup
     rw [List.nodup_append]
     refine ⟨d1,?_,fun a ha b hb=>?_⟩
     ·rw [List.nodup_append]
      exact ⟨d2,by simp,fun a ha b hb=>by simp at hb;rw [hb];exact h3 a (by simp [ha])⟩
     ·rw [List.mem_append,List.mem_singleton] at hb
      rcases hb with hb | rfl
      ·exact d3 a ha b hb
      ·exact h3 a (by simp [ha])
    ·intro x hx
     have hx:x∈v.1++(v.2++[s]):=hx
     simp only [List.mem_append,List.mem_singleton] at hx
     rcases hx with hx | hx | rfl
     ·exact hr x (by simp [hx])
     ·exact hr x (by simp [hx])
     ·exact hs
theorem okL.out {v:LV} (h:okL v) (s:Int):okL (outF v s):=by
 have e:(outF v s).1++(outF v s).2=(v.1++v.2).filter (fun x=>decide (x≠s)):=by rw [List.filter_append];rfl
 constructor
 ·rw [e];exact h.1.filter _
 ·rw [e];intro x hx;exact h.2 x (List.mem_filter.1 hx).1
theorem headF_mem {v:LV} (h:(headF v).2.2=true):(headF v).1∈v.1++v.2:=by
 obtain ⟨a,b⟩:=v
 cases a with
 | cons x a=>simp [headF]
 | nil=>cases b with
  | cons x b=>simp [headF]
  | nil=>simp [headF] at h
theorem out_nomem (v:LV) (s:Int):s ∉ (outF v s).1++(outF v s).2:=by simp [outF]
theorem okL.drop {v:LV} (h:okL v):okL (dropF v).2:=by
 unfold dropF;split
 ·exact h.out _
 ·exact h
theorem back_push {v:LV} (h:okL v) (hh:(headF v).2.2=true):pushF (outF v (headF v).1) (headF v).1 false=(0,(backF v).2):=by
 have hm:=h.2 _ (headF_mem hh)
 rw [pushF,if_neg (by omega),if_neg (by simpa using placeF_0.2 (out_nomem v _)),if_neg (by simp),backF,if_pos hh]
theorem okL.back {v:LV} (h:okL v):okL (backF v).2:=by
 by_cases hh:(headF v).2.2=true
 ·have:=(h.out (headF v).1).push (headF v).1 false
  rwa [back_push h hh] at this
 ·rw [backF,if_neg hh];exact h
theorem keep_at {p:Int→Bool} {xs:List Int} {j:Nat} {x:Int} (h:xs[j]?=some x):(xs.take (j+1)).filter p=(xs.take j).filter p++(if p x then [x] else []):=by
 rw [List.take_add_one,h,List.filter_append];congr 1;simp [List.filter_cons]
theorem del_tri (s:Sl) (f:Fv) (C:SP) [NoR C] (xs:List Int) (p:Int→Bool) (hl:xs.length≤4294967296) (hf:∀ x∈xs,TriV Tryz.prog f [.lf (.int .i64 x)] [.lf .bool] C (fun r=>pur (r=p x) C)) :
  Tri Tryz.prog N_slices_DeleteFunc_sintint [.lf (.sl s),.lf (.fn f)] [.lf .sl] (C^arr s KI xs) (fun r=>C^arr r KI (xs.filter (fun x=>!p x))) :=
 tri_0 (call_slices_DeleteFunc_sintint _ _) fun w S R h=>by
  unfold W_slices_DeleteFunc_sintint
  have hs:=(h.drop.rd (s:=s)).2
  refine w_callL (A:=C) (Q:=rarr s KI xs) (Ints.int_index_tri s f C xs p hl hf) h fun r w h=>?_
  obtain ⟨hr,h⟩:=h.purP
  refine w_ite (fun c=>?_) fun c=>?_
  ·have c:r=-1:=by simpa using c
   have e:xs.filter (fun x=>!p x)=xs:=by
    rw [List.filter_eq_self]
    intro x hx
    have:=fI_any p xs
    rw [← hr,c] at this
    have h2:xs.any p=false:=this.symm
    rw [List.any_eq_false] at h2
    simpa using h2 x hx
   rw [e];exact h
  ·have c:r≠-1:=by simpa using c
   have h0:0≤fI p xs:=by
    unfold fI at hr ⊢
    split at hr<;>simp_all
   have hfi:∃ k:Nat,fI p xs=(k:Int)∧k < xs.length∧(∀ j y,j < k→xs[j]?=some y→p y=false)∧∃ x,xs[k]?=some x∧p x=true:=by
    unfold fI at h0 ⊢
    cases hk:xs.findIdx? p with
    | none=>rw [hk] at h0;simp at h0
    | some k =>
     obtain ⟨hl,hp,hn⟩:=List.findIdx?_eq_some_iff_getElem.1 hk
     refine ⟨k,rfl,hl,fun j y hj hy=>?_,xs[k],by simp,hp⟩
     obtain ⟨hl2,rfl⟩:=List.getElem?_eq_some_iff.1 hy
     simpa using hn j hj
   obtain ⟨k,hk,hkl,hkn,x0,hx0,hp0⟩:=hfi
   rw [hk] at hr
   have hw0:IntKind.i64.wrap (r+1)=(k:Int)+1:=by rw [hr];exact wi (by omega) (by omega)
   rw [hw0,hr]
   have hpre:(xs.take k).filter (fun x=>!p x)=xs.take k:=by
    rw [List.filter_eq_self]
    intro x hx
    obtain ⟨j,hj,rfl⟩:=List.mem_iff_getElem.1 hx
    rw [List.length_take] at hj
    rw [List.getElem_take,hkn j _ (by omega) (at_some (by omega))];rfl
   have hin:xs.take ((k:Int)).toNat=(xs.take ((k:Int)+1).toNat).filter (fun x=>!p x):=by
    rw [show ((k:Int)+1).toNat=k+1 by omega,show ((k:Int)).toNat=k by omega,keep_at hx0,hpre,hp0];simp
   refine w_loop (fun (y:Int × Int)=>exq (fun ys:List Int=>ys.length=xs.length∧ys.take y.1.toNat=(xs.take y.2.toNat).filter (fun x=>!p x)∧ys.drop y.2.toNat=xs.drop y.2.toNat) (fun ys=>C^arr s KI ys))
    (fun (y:Int × Int)=>0≤y.1∧y.1 < y.2∧y.2≤xs.length) (fun (y:Int × Int)=>xs.length - y.2.toNat) (h.inq xs ⟨rfl,hin,rfl⟩).keep ⟨by show (0:Int)≤k;omega,by show (k:Int) < k+1;omega,by show (k:Int)+1≤_;omega⟩ ?_
   rintro (⟨i,j⟩:Int × Int) w ⟨i0,i1,i2⟩ h
   dsimp only at i0 i1 i2 h ⊢
   obtain ⟨ys,⟨y1,y2,y3⟩,h⟩:=h.outq1
   refine w_ite (fun c=>?_) fun c=>?_
   ·have hj:j.toNat < xs.length:=by simp at c;omega
    have hx:=at_some hj
    have hj1:(j+1).toNat=j.toNat+1:=by omega
    have hi1:(i+1).toNat=i.toNat+1:=by omega
    have hyj:ys[j.toNat]?=some xs[j.toNat]:=by
     have:=congrArg (fun z=>z[0]?) y3
     rw [← hx];simpa using this
    have hd:ys.drop (j.toNat+1)=xs.drop (j.toNat+1):=by
     have:=congrArg (fun z=>z.drop 1) y3
     simpa using this
    have hw1:IntKind.i64.wrap (j+1)=j+1:=wi (by omega) (by omega)
    have hw2:IntKind.i64.wrap (i+1)=i+1:=wi (by omega) (by omega)
    refine w_idx h (by show 0≤j;omega) (by show j.toNat < _;omega) ?_
    refine w_ldE h s j.toNat hyj rfl ?_
    refine w_callv (hf _ (List.getElem_mem hj)) h fun r w h=>?_
    obtain ⟨hr,h⟩:=h.purP
    rw [hw1,hw2]
    refine w_ite (fun c=>?_) fun c=>?_
    ·have hp:p xs[j.toNat]=false:=by rw [← hr];simpa using c
     refine w_idx h i0 (by show i.toNat < _;omega) ?_
     refine w_stA h s i.toNat 0 ys[i.toNat] xs[j.toNat] (at_some (by omega)) rfl (by simp) (by simp) rfl fun w h=>?_
     refine ⟨⟨⟨by show 0≤i+1;omega,by show i+1 < j+1;omega,by show j+1≤_;omega⟩,(h.inq (ys.set i.toNat xs[j.toNat]) ⟨by simp [y1],?_,?_⟩).keep⟩,by show _ - (j+1).toNat < _ - j.toNat;omega⟩
     ·show _=(xs.take (j+1).toNat).filter _
      show List.take (i+1).toNat _=_
      rw [hi1,hj1,keep_at hx,← y2,List.take_add_one,List.take_set_of_le (Nat.le_refl _),List.getElem?_set_self (by omega),hp]
      rfl
     ·show _=xs.drop (j+1).toNat
      show List.drop (j+1).toNat _=_
      rw [hj1,List.drop_set_of_lt (by omega),hd]
    ·have hp:p xs[j.toNat]=true:=by rw [← hr];simpa using c
     refine ⟨⟨⟨i0,by show i < j+1;omega,by show j+1≤_;omega⟩,(h.inq ys ⟨y1,?_,?_⟩).keep⟩,by show _ - (j+1).toNat < _ - j.toNat;omega⟩
     ·show _=(xs.take (j+1).toNat).filter _
      rw [hj1,keep_at hx,← y2,hp];simp
     ·show List.drop (j+1).toNat _=xs.drop (j+1).toNat
      rw [hj1,hd]
   ·have hj:j.toNat=xs.length:=by simp at c;omega
    have hys:ys.length=s.len:=by omega
    have hfil:xs.filter (fun x=>!p x)=ys.take i.toNat:=by rw [y2,hj,List.take_length]
    have hca:=own_cap (s:=s) h
    refine w_slcR (s:=s) h (h.nrm s) i.toNat ys.length s.cap rfl (by show i=_;omega) (by show ys.length=_;omega) rfl (by omega) (by omega) (by omega) (by omega) fun hl8 _=>?_
    refine w_clrTail (s:=s) (l:=i.toNat) (z:=(0:Int)) h rfl rfl (by omega) fun w h=>?_
    refine w_slc (s:=s) h 0 i.toNat s.cap rfl rfl (by show i=_;omega) rfl (by omega) (by simp;omega) (by omega) (by omega) fun s9 _ _ h=>?_
    have e:(List.take i.toNat (ys.take i.toNat++List.replicate (ys.length - i.toNat) 0)).drop 0=xs.filter (fun x=>!p x):=by
     rw [List.drop_zero,List.take_append_of_le_length (by simp;omega),List.take_take,Nat.min_self,hfil]
    have h:=h.arrEq (s:=s9) e
    exact h.fin
theorem grow_tri (n:Int) (h0:0≤n) (h1:n≤4294967296):Tri Tryz.prog N_slices_Grow_sintint [.lf (.sl ⟨none,0,0⟩),.lf (.int .i64 n)] [.lf .sl] emp (fun r=>arr r KI []) :=
 tri_0 (call_slices_Grow_sintint _ _) fun w S R h=>by
  unfold W_slices_Grow_sintint
  have h:=h.nil KI
  refine w_join h (fun _=>arr ⟨none,0,0⟩ KI []) (fun _=>True) (fun y w _ h=>?_) ?_
  ·have e1:IntKind.i64.wrap (((0:Nat):Int) - ((0:Nat):Int))=0:=rfl
   have e2:IntKind.i64.wrap (n - 0)=n:=by rw [Int.sub_zero];exact wi (by omega) (by omega)
   show ite' (decide (IntKind.i64.wrap (n - IntKind.i64.wrap (((0:Nat):Int) - ((0:Nat):Int))) > 0)) _ _ w
   refine w_ite (fun c=>?_) fun c=>?_
   ·refine w_slc (s:=⟨none,0,0⟩) h 0 0 0 rfl rfl rfl rfl (by omega) (by simp) (by omega) (by simp) fun s3 hl3 hc3 h=>?_
    show appz _ 1 s3 (IntKind.i64.wrap (n - IntKind.i64.wrap (((0:Nat):Int) - ((0:Nat):Int)))) _ w
    rw [e1,e2]
    refine w_appz (s:=s3) (z:=(0:Int)) h rfl rfl h0 (by simp;omega) fun s4 w hl4 h=>?_
    have hc:=own_cap (s:=s4) h
    refine w_slc (s:=s4) h 0 0 s4.cap rfl rfl rfl rfl (by omega) (by omega) (by omega) (by omega) fun s5 hl5 hc5 h=>?_
    have h:=h.arrEq (s:=s5) (ys:=[]) (by simp)
    exact h.keep
   ·exact h
  ·refine w_ite (fun c=>?_) fun c=>?_
   ·exfalso;simp at c;omega
   ·exact ⟨trivial,h.keep⟩
theorem concat_tri (n:Nat) (a b:Sl) (xs ys:List Int) (hl:xs.length+ys.length≤4294967296) :
  Tri Tryz.prog N_slices_Concat_sintint [.lf (.sl ⟨some ⟨n,0⟩,2,2⟩)] [.lf .sl] (arr ⟨some ⟨n,0⟩,2,2⟩ [.sl] [a,b]^rarr a KI xs^rarr b KI ys) (fun r=>arr r KI (xs++ys)) :=
 tri_0 (call_slices_Concat_sintint _) fun w S R h=>by
  unfold W_slices_Concat_sintint
  have ha:=(h.drop.rd (s:=a)).2
  have hb:=((h.drop.le (star_comm _ _)).rd (s:=b)).2
  refine w_loop (fun _=>arr ⟨some ⟨n,0⟩,2,2⟩ [.sl] [a,b]^rarr a KI xs^rarr b KI ys) (fun (y:Int × Int)=>(y.2=0∧y.1=0)∨(y.2=1∧y.1=xs.length)∨(y.2=2∧y.1=xs.length+ys.length)) (fun (y:Int × Int)=>(2 - y.2).toNat) h (.inl ⟨rfl,rfl⟩) ?_
  rintro (⟨z,i⟩:Int × Int) w hz h
  dsimp only at hz ⊢
  refine w_ite (fun c=>?_) fun c=>?_
  ·have hi:i=0∨i=1:=by simp at c;omega
   have hg:∃ q:Sl,[a,b][i.toNat]?=some q∧((i=0∧q.len=xs.length)∨(i=1∧q.len=ys.length)):=by
    rcases hi with rfl | rfl
    ·exact ⟨a,rfl,.inl ⟨rfl,ha⟩⟩
    ·exact ⟨b,rfl,.inr ⟨rfl,hb⟩⟩
   obtain ⟨q,hq,hql⟩:=hg
   refine w_idx h (by omega) (by simp;omega) ?_
   refine w_ldE h ⟨some ⟨n,0⟩,2,2⟩ i.toNat hq rfl ?_
   have hw:IntKind.i64.wrap (z+(q.len:Int))=z+q.len:=wi (by omega) (by omega)
   rw [hw,wi (n:=i+1) (by omega) (by omega)]
   refine w_ite (fun c=>by simp at c;omega) fun c=>?_
   refine ⟨⟨?_,h⟩,by show (2 - (i+1)).toNat < (2 - i).toNat;omega⟩
   show (i+1=0∧_)∨(i+1=1∧z+(q.len:Int)=_)∨(i+1=2∧z+(q.len:Int)=_)
   omega
  ·have hi:i=2:=by simp at c;omega
   have hz:z=xs.length+ys.length:=by omega
   refine w_call (grow_tri z (by omega) (by omega)) (h.le ((star_emp _).trans (star_comm _ _))) fun r w h=>?_
   obtain ⟨g,g0,g1,g2⟩:∃ g:Int→List Int,g 0=[]∧g 1=xs∧g 2=xs++ys:=⟨fun i=>if i=0 then [] else if i=1 then xs else xs++ys,by simp,by simp,by simp⟩
   have h:=h.arrEq (s:=r) (K:=KI) (ys:=g 0) g0.symm
   refine w_loop (fun (y:Sl × Int)=>arr y.1 KI (g y.2)^arr ⟨some ⟨n,0⟩,2,2⟩ [.sl] [a,b]^rarr a KI xs^rarr b KI ys) (fun (y:Sl × Int)=>0≤y.2∧y.2≤2) (fun (y:Sl × Int)=>(2 - y.2).toNat) h ⟨by simp,by simp⟩ ?_
   rintro (⟨s,i⟩:Sl × Int) w ⟨i0,i1⟩ h
   dsimp only at i0 i1 h ⊢
   refine w_ite (fun c=>?_) fun c=>?_
   ·have hi:i=0∨i=1:=by simp at c;omega
    have h':=h.le (star_swap _ _ _)
    rcases hi with rfl | rfl
    ·refine w_idx h' (by omega) (by simp) ?_
     refine w_ldE h' ⟨some ⟨n,0⟩,2,2⟩ 0 rfl rfl ?_
     refine w_app (x:=a) h rfl (by rw [g0];simp;omega) fun s10 w _ h=>?_
     have e:IntKind.i64.wrap (0+1)=1:=rfl
     rw [e]
     have h:=h.arrEq (s:=s10) (K:=KI) (ys:=g 1) (by rw [g0,g1,List.nil_append])
     exact ⟨⟨⟨by simp,by simp⟩,h⟩,by simp⟩
    ·refine w_idx h' (by omega) (by simp) ?_
     refine w_ldE h' ⟨some ⟨n,0⟩,2,2⟩ 1 rfl rfl ?_
     have hb2:Rd b (arr s KI (g 1)^arr ⟨some ⟨n,0⟩,2,2⟩ [.sl] [a,b]^rarr a KI xs^rarr b KI ys) KI ys:=⟨fun w S R h=>by
      obtain ⟨_,_,_,_,_,⟨_,_,_,_,_,⟨_,_,_,_,_,h,_⟩,_⟩,_⟩:=h
      exact h.1,fun w S R h hne q hq=>by
      obtain ⟨_,_,_,_,_,⟨_,_,_,_,_,⟨_,_,_,_,_,h,_,hR3,_⟩,_,hR2,_⟩,_,hR1,_⟩:=h
      exact .inr ((hR1 _).2 (.inr ((hR2 _).2 (.inr ((hR3 _).2 (.inr ((h.2.2 _).2 ⟨⟨q,hq,rfl⟩,hne⟩)))))))⟩
     refine w_app (x:=b) (r:=hb2) h rfl (by rw [g1];omega) fun s10 w _ h=>?_
     have e:IntKind.i64.wrap (1+1)=2:=rfl
     rw [e]
     have h:=h.arrEq (s:=s10) (K:=KI) (ys:=g 2) (by rw [g1,g2])
     exact ⟨⟨⟨by simp,by simp⟩,h⟩,by simp⟩
   ·have hi:i=2:=by simp at c;omega
    have h:=h.arrEq (s:=s) (K:=KI) (ys:=xs++ys) (by rw [hi,g2])
    exact h.fin
def mkAll (n:Nat):Fv:=.mk (.func N_lists_Lists_All_c1) [] [V1.enc (.lf (.ptr (some ⟨n,0⟩)))]
theorem all_tri (p:Option Pt):Tri Tryz.prog N_lists_Lists_All [.lf (.ptr p)] [.lf .fn] emp (fun f=>ex fun n=>pur (f=mkAll n) (blk n [.ptr p])) :=
 tri_0 (call_lists_Lists_All _) fun w S R h=>by
  unfold W_lists_Lists_All
  refine w_new h fun n1 w h=>?_
  exact Own.retE n1 (Own.retP rfl h.keep)
theorem allF_at {v:LV} {i:Nat} {x:Int} (h:(v.1++v.2)[i]?=some x):(allF v)[i]?=some (x,decide ((i:Int) < (v.1.length:Int))):=by
 unfold allF
 by_cases hi:i < v.1.length
 ·rw [List.getElem?_append_left hi] at h
  rw [List.getElem?_append_left (by simpa using hi),List.getElem?_map,h]
  simp [hi]
 ·rw [List.getElem?_append_right (by omega)] at h
  rw [List.getElem?_append_right (by simp;omega),List.getElem?_map,List.length_map,h]
  simp;omega
theorem allF_len (v:LV):(allF v).length=v.1.length+v.2.length:=by simp [allF]
theorem all_iter (n b:Nat) (v:LV) (hl:v.1.length+v.2.length≤4294967296):Iter Tryz.prog (mkAll n) (blk n [.ptr (some ⟨b,0⟩)]^lst b v) [.lf (.int .i64),.lf .bool] (allF v):=by
 intro y I D hy
 refine Tri.g (f:=N_lists_Lists_All_c1) (args:=[.lf (.fn y)]) (caps:=[.lf (.ptr (some ⟨n,0⟩))]) (tri_0 (call_lists_Lists_All_c1 y ⟨n,0⟩) fun w S R h=>?_)
 unfold W_lists_Lists_All_c1
 refine w_ld h rfl ?_
 refine w_ite (fun c=>(by cases c)) fun c=>?_
 refine w_ld h rfl ?_
 obtain ⟨s1,s2,h⟩:=h.lst b
 have hs1:=((h.take (arr s1 KI v.1)).rd (s:=s1)).2
 refine w_deref (w_ld h rfl ?_)
 refine w_drw h fun w h=>?_
 refine w_ld h rfl (w_ld h rfl (w_deref (w_deref (w_ld h rfl (w_ld h rfl ?_)))))
 refine w_new h fun n11 w h=>?_
 have h:=h.blkArr n11 [.sl] [s1,s2] rfl (by simp)
 have h:=(h.take (blk b [.sl s1,.sl s2]^arr s1 KI v.1^arr s2 KI v.2^arr ⟨some ⟨n11,0⟩,2,2⟩ [.sl] [s1,s2]^blk n [.ptr (some ⟨b,0⟩)]^I 0)).keep
 refine w_callL (A:=arr ⟨some ⟨n11,0⟩,2,2⟩ [.sl] [s1,s2]) (Q:=rarr s1 KI v.1^rarr s2 KI v.2) (concat_tri n11 s1 s2 v.1 v.2 hl) h fun r w h=>?_
 have hr:=(h.rd (s:=r)).2
 have h:=h.mkLst b s1 s2 v
 have h:Own _ _ _ _ (arr r KI (v.1++v.2)^lst b v^blk n [.ptr (some ⟨b,0⟩)]^I 0):=h.fin
 have hlen:(v.1++v.2).length=v.1.length+v.2.length:=List.length_append
 refine w_loop (fun (i:Int)=>arr r KI (v.1++v.2)^lst b v^blk n [.ptr (some ⟨b,0⟩)]^I i.toNat) (fun (i:Int)=>0≤i∧i.toNat≤(v.1++v.2).length) (fun (i:Int)=>(v.1++v.2).length - i.toNat) h ⟨Int.le_refl 0,by simp⟩ ?_
 rintro (i:Int) w ⟨h0,h1⟩ h
 refine w_ite (fun c=>?_) fun c=>?_
 ·have hi:i.toNat < (v.1++v.2).length:=by simp at c;omega
  refine w_idx h h0 hi ?_
  obtain ⟨x,hx⟩:∃ x,(v.1++v.2)[i.toNat]?=some x:=⟨_,at_some hi⟩
  refine w_ldE h r i.toNat hx rfl ?_
  have ha:=allF_at hx
  have hii:((i.toNat:Nat):Int)=i:=Int.toNat_of_nonneg h0
  rw [hii,← hs1] at ha
  have ht:TriV Tryz.prog y [.lf (.int .i64 x),.lf (.bool (decide (i < (s1.len:Int))))] [.lf .bool] (I i.toNat) (fun c=>cond c (I (i.toNat+1)) D):=hy i.toNat (x,decide (i < (s1.len:Int))) ha
  refine w_callv ht h fun c w h=>?_
  cases c with
  | false =>
   refine w_ite (fun c=>?_) fun c=>by cases c
   have h:Own _ _ _ _ (D^_):=h
   have h:=h.eitherR (I (allF v).length)
   exact h.fin
  | true =>
   refine w_ite (fun c=>by cases c) fun c=>?_
   have h:Own _ _ _ _ (I (i.toNat+1)^_):=h
   rw [wi (by omega) (by omega)]
   have e:(i+1).toNat=i.toNat+1:=by omega
   refine ⟨⟨⟨(by show (0:Int)≤i+1;omega),(by show (i+1).toNat≤_;omega)⟩,?_⟩,(by show _ - (i+1).toNat < _;omega)⟩
   show Own _ _ _ _ (arr r KI (v.1++v.2)^lst b v^blk n [.ptr (some ⟨b,0⟩)]^I (i+1).toNat)
   rw [e]
   exact h.fin
 ·have hi:i.toNat=(allF v).length:=by rw [allF_len];simp at c;omega
  rw [hi] at h
  have h:=h.take (I (allF v).length)
  have h:=h.eitherL D
  exact h.fin
theorem allF_fst {v:LV} {i:Nat} {x:Int × Bool} (h:(allF v)[i]?=some x):(i < v.1.length∧v.1[i]?=some x.1∧x.2=true)∨(v.1.length≤i∧v.2[i - v.1.length]?=some x.1∧x.2=false):=by
 unfold allF at h
 by_cases hi:i < v.1.length
 ·rw [List.getElem?_append_left (by simpa using hi),List.getElem?_map] at h
  obtain ⟨y,hy,rfl⟩:=Option.map_eq_some_iff.1 h
  exact .inl ⟨hi,hy,rfl⟩
 ·rw [List.getElem?_append_right (by simp;omega),List.getElem?_map,List.length_map] at h
  obtain ⟨y,hy,rfl⟩:=Option.map_eq_some_iff.1 h
  exact .inr ⟨by omega,hy,rfl⟩
theorem place_at {v:LV} {i:Nat} {x:Int × Bool} (h:(allF v)[i]?=some x) (hn:∀ j y,j < i→(allF v)[j]?=some y→y.1≠x.1):placeF v x.1=if x.2 then 1 else 2:=by
 rcases allF_fst h with ⟨hi,h1,h2⟩ | ⟨hi,h1,h2⟩
 ·rw [placeF,if_pos (List.mem_iff_getElem?.2 ⟨_,h1⟩),h2];rfl
 ·rw [placeF,if_neg,if_pos (List.mem_iff_getElem?.2 ⟨_,h1⟩),h2];rfl
  intro hm
  obtain ⟨j,hj⟩:=List.mem_iff_getElem?.1 hm
  have hjl:j < v.1.length:=(List.getElem?_eq_some_iff.1 hj).1
  refine hn j (x.1,true) (by omega) ?_ rfl
  unfold allF
  rw [List.getElem?_append_left (by simpa using hjl),List.getElem?_map,hj];rfl
theorem place_none {v:LV} {s:Int} (hn:∀ j y,j < (allF v).length→(allF v)[j]?=some y→y.1≠s):placeF v s=0:=by
 rw [placeF_0]
 intro hm
 obtain ⟨j,hj⟩:=List.mem_iff_getElem?.1 hm
 have hjl:j < (v.1++v.2).length:=(List.getElem?_eq_some_iff.1 hj).1
 exact hn j _ (by rw [allF_len];rw [List.length_append] at hjl;exact hjl) (allF_at hj) rfl
theorem place_tri (b:Nat) (v:LV) (s:Int) (hl:v.1.length+v.2.length≤4294967296):Tri Tryz.prog N_lists_Lists_Place [.lf (.ptr (some ⟨b,0⟩)),.lf (.int .i64 s)] [.lf (.int .i64)] (lst b v) (fun r=>pur (r=placeF v s) (lst b v)) :=
 tri_n (W:=fun n R=>W_lists_Lists_Place n (some ⟨b,0⟩) s R) (call_lists_Lists_Place _ _) fun w S R h=>by
  unfold W_lists_Lists_Place
  refine w_new h fun n1 w h=>?_
  refine w_new h fun n2 w h=>?_
  refine w_call (all_tri _) (h.le (star_emp _)) fun f w h=>?_
  obtain ⟨n,h⟩:=h.exP
  obtain ⟨hf,h⟩:=h.purP
  rw [hf]
  have h:=(h.take (blk n1 [.int .i64 s]^blk n2 [.int .i64 0])).toPur (p:=∀ j y,j < 0→(allF v)[j]?=some y→y.1≠s) (fun j y hj=>by omega)
  refine w_range (all_iter n b v hl) (fun i=>pur (∀ j y,j < i→(allF v)[j]?=some y→y.1≠s) (blk n1 [.int .i64 s]^blk n2 [.int .i64 0])) (fun j=>pur (j=1) (blk n1 [.int .i64 s]^blk n2 [.int .i64 (placeF v s)])) h ?_ ?_ ?_
  ·rintro i (x:Int × Bool) hx w S R mid next jump rdy bsy hmid hnext hjump h
   refine hmid h fun w h=>?_
   have h:=h.take (pur (∀ j y,j < i→(allF v)[j]?=some y→y.1≠s) (blk n1 [.int .i64 s]^blk n2 [.int .i64 0]))
   obtain ⟨hno,h⟩:=h.purP
   refine w_ld h rfl ?_
   refine w_ite (fun c=>?_) fun c=>?_
   ·have c:x.1≠s:=by simpa using c
    have h:=(h.take (blk n1 [.int .i64 s]^blk n2 [.int .i64 0])).toPur (p:=∀ j y,j < i+1→(allF v)[j]?=some y→y.1≠s) (fun j y hj hy=>by
     by_cases hji:j=i
     ·rw [hji,hx] at hy;cases hy;exact c
     ·exact hno j y (by omega) hy)
    exact hnext h
   ·have c:x.1=s:=by simpa using c
    have hp:=place_at hx (by rw [c];exact hno)
    rw [c] at hp
    refine w_ite (fun c2=>?_) fun c2=>?_
    ·refine w_set h rfl fun w h=>?_
     dsimp only [upd,over] at h
     rw [c2,if_pos rfl] at hp
     rw [← hp] at h
     have h:=(h.take (blk n1 [.int .i64 s]^blk n2 [.int .i64 (placeF v s)])).toPur (p:=1=1) rfl
     exact hjump 1 (by decide) h
    ·refine w_set h rfl fun w h=>?_
     dsimp only [upd,over] at h
     have c2:x.2=false:=c2
     rw [c2,if_neg (by simp)] at hp
     rw [← hp] at h
     have h:=(h.take (blk n1 [.int .i64 s]^blk n2 [.int .i64 (placeF v s)])).toPur (p:=1=1) rfl
     exact hjump 1 (by decide) h
  ·intro w h
   have h:=h.take (pur (∀ j y,j < (allF v).length→(allF v)[j]?=some y→y.1≠s) (blk n1 [.int .i64 s]^blk n2 [.int .i64 0]))
   obtain ⟨hno,h⟩:=h.purP
   refine w_set h rfl fun w h=>?_
   dsimp only [upd,over] at h
   refine w_ld h rfl ?_
   refine w_leave h fun w h=>?_
   exact Own.retP (place_none hno).symm h.fin
  ·intro j w hj h
   have h:=h.take (pur (j=1) (blk n1 [.int .i64 s]^blk n2 [.int .i64 (placeF v s)]))
   obtain ⟨hj1,h⟩:=h.purP
   rw [hj1]
   refine w_ld h rfl ?_
   refine w_leave h fun w h=>?_
   exact Own.retP rfl h.fin
theorem head_all (v:LV):headF v=match allF v with | x :: _=>(x.1,x.2,true) | []=>(0,false,false):=by
 obtain ⟨a,c⟩:=v
 cases a with
 | cons x a=>rfl
 | nil=>cases c with
  | cons x c=>rfl
  | nil=>rfl
theorem head_tri (b:Nat) (v:LV) (hl:v.1.length+v.2.length≤4294967296):Tri Tryz.prog N_lists_Lists_Head [.lf (.ptr (some ⟨b,0⟩))] [.lf (.int .i64),.lf .bool,.lf .bool] (lst b v) (fun r=>pur (r=headF v) (lst b v)) :=
 tri_n (W:=fun n R=>W_lists_Lists_Head n (some ⟨b,0⟩) R) (call_lists_Lists_Head _) fun w S R h=>by
  unfold W_lists_Lists_Head
  refine w_new h fun n1 w h=>?_
  refine w_new h fun n2 w h=>?_
  refine w_new h fun n3 w h=>?_
  refine w_join h (fun _=>blk n1 [.int .i64 0]^blk n2 [.bool false]^blk n3 [.bool false]^lst b v) (fun _=>headF v=(0,false,false)) (fun y w hv h=>?_) ?_
  ·refine w_set h rfl fun w h=>?_
   dsimp only [upd,over] at h
   refine w_set h rfl fun w h=>?_
   dsimp only [upd,over] at h
   refine w_set h rfl fun w h=>?_
   dsimp only [upd,over] at h
   refine w_ld h rfl (w_ld h rfl (w_ld h rfl ?_))
   refine w_leave h fun w h=>?_
   exact Own.retP hv.symm h.fin
  ·refine w_call (all_tri _) (h.le (star_emp _)) fun f w h=>?_
   obtain ⟨n,h⟩:=h.exP
   obtain ⟨hf,h⟩:=h.purP
   rw [hf]
   have h:=(h.take (blk n1 [.int .i64 0]^blk n2 [.bool false]^blk n3 [.bool false])).toPur (p:=(0:Nat)=0) rfl
   refine w_range (all_iter n b v hl) (fun i=>pur (i=0) (blk n1 [.int .i64 0]^blk n2 [.bool false]^blk n3 [.bool false])) (fun j=>pur (j=1) (blk n1 [.int .i64 (headF v).1]^blk n2 [.bool (headF v).2.1]^blk n3 [.bool (headF v).2.2])) h ?_ ?_ ?_
   ·rintro i (x:Int × Bool) hx w S R mid next jump rdy bsy hmid hnext hjump h
    refine hmid h fun w h=>?_
    have h:=h.take (pur (i=0) (blk n1 [.int .i64 0]^blk n2 [.bool false]^blk n3 [.bool false]))
    obtain ⟨hi,h⟩:=h.purP
    have hv:headF v=(x.1,x.2,true):=by
     rw [head_all]
     rw [hi] at hx
     cases ha:allF v with
     | nil=>rw [ha] at hx;cases hx
     | cons y l=>rw [ha] at hx;cases hx;rfl
    rw [hv] at hjump
    refine w_set h rfl fun w h=>?_
    dsimp only [upd,over] at h
    refine w_set h rfl fun w h=>?_
    dsimp only [upd,over] at h
    refine w_set h rfl fun w h=>?_
    dsimp only [upd,over] at h
    have h:=(h.take (blk n1 [.int .i64 x.1]^blk n2 [.bool x.2]^blk n3 [.bool true])).toPur (p:=1=1) rfl
    exact hjump 1 (by decide) h
   ·intro w h
    have h:=h.take (pur ((allF v).length=0) (blk n1 [.int .i64 0]^blk n2 [.bool false]^blk n3 [.bool false]))
    obtain ⟨hno,h⟩:=h.purP
    refine ⟨?_,h.fin⟩
    rw [head_all,List.eq_nil_of_length_eq_zero hno]
   ·intro j w hj h
    have h:=h.take (pur (j=1) (blk n1 [.int .i64 (headF v).1]^blk n2 [.bool (headF v).2.1]^blk n3 [.bool (headF v).2.2]))
    obtain ⟨hj1,h⟩:=h.purP
    rw [hj1]
    refine w_ld h rfl (w_ld h rfl (w_ld h rfl ?_))
    refine w_leave h fun w h=>?_
    exact Own.retP rfl h.fin
theorem new_tri:Tri Tryz.prog N_lists_New [] [.lf .ptr] emp (fun r=>ex fun b=>pur (r=some ⟨b,0⟩) (lst b ([],[]))) :=
 tri_0 call_lists_New fun w S R h=>by
  unfold W_lists_New
  refine w_new h fun n1 w h=>?_
  exact Own.retE n1 (Own.retP rfl (((h.nil KI).nil KI).mkLst n1 ⟨none,0,0⟩ ⟨none,0,0⟩ ([],[])).keep)
theorem push_tri (b:Nat) (v:LV) (s:Int) (f:Bool) (hl:v.1.length+v.2.length≤4294967295) :
  Tri Tryz.prog N_lists_Lists_Push [.lf (.ptr (some ⟨b,0⟩)),.lf (.int .i64 s),.lf (.bool f)] [.lf (.int .i64)] (lst b v) (fun r=>pur (r=(pushF v s f).1) (lst b (pushF v s f).2)) :=
 tri_0 (call_lists_Lists_Push _ _ _) fun w S R h=>by
  unfold W_lists_Lists_Push
  refine w_ite (fun c=>(by cases c)) fun c=>?_
  refine w_ite (fun c=>?_) fun c=>?_
  ·have c:s < 0∨8≤s:=by simpa using c
   rw [pushF,if_pos c]
   exact Own.retP rfl h
  ·have c:¬ (s < 0∨8≤s):=by simp at c;omega
   rw [pushF,if_neg c]
   refine w_call (place_tri b v s (by omega)) (h.le (star_emp _)) fun r w h=>?_
   obtain ⟨hr,h⟩:=h.purP
   refine w_ite (fun c2=>?_) fun c2=>?_
   ·rw [if_pos (by rw [← hr];simpa using c2)]
    exact Own.retP rfl h.keep
   ·rw [if_neg (by rw [← hr];simpa using c2)]
    obtain ⟨s1,s2,h⟩:=h.lst b
    refine w_ite (fun c3=>?_) fun c3=>?_
    ·rw [if_pos c3]
     refine w_deref (w_ld h rfl ?_)
     refine w_new h fun n w h=>?_
     have h:=h.blkArr n KI [s] rfl (by simp)
     refine w_app (s:=s1) (x:=⟨some ⟨n,0⟩,1,1⟩) h rfl (by simp;omega) fun s' w _ h=>?_
     refine w_deref (w_set h rfl fun w h=>?_)
     dsimp only [upd,over] at h
     exact Own.retP rfl (h.mkLst b s' s2 (v.1++[s],v.2)).keep
    ·have c3:f=false:=c3
     rw [c3,if_neg (by simp)]
     refine w_deref (w_ld h rfl ?_)
     refine w_new h fun n w h=>?_
     have h:=h.blkArr n KI [s] rfl (by simp)
     refine w_app (s:=s2) (x:=⟨some ⟨n,0⟩,1,1⟩) h rfl (by simp;omega) fun s' w _ h=>?_
     refine w_deref (w_set h rfl fun w h=>?_)
     dsimp only [upd,over] at h
     exact Own.retP rfl (h.mkLst b s1 s' (v.1,v.2++[s])).keep
theorem not_tri (n:Nat) (x s:Int):Tri Tryz.prog N_lists_Lists_Remove_c1 [.lf (.int .i64 x),.lf (.ptr (some ⟨n,0⟩))] [.lf .bool] (blk n [.int .i64 s]) (fun r=>pur (r=(x == s)) (blk n [.int .i64 s])) :=
 tri_0 (call_lists_Lists_Remove_c1 _ ⟨n,0⟩) fun w S R h=>by
  unfold W_lists_Lists_Remove_c1
  refine w_ld h rfl ?_
  exact Own.retP rfl h
theorem remove_tri (b:Nat) (v:LV) (s:Int) (hl:v.1.length+v.2.length≤4294967296) :
  Tri Tryz.prog N_lists_Lists_Remove [.lf (.ptr (some ⟨b,0⟩)),.lf (.int .i64 s)] [.lf .bool] (lst b v) (fun r=>pur (r=(removeF v s).1) (lst b (removeF v s).2)) :=
 tri_0 (call_lists_Lists_Remove _ _) fun w S R h=>by
  unfold W_lists_Lists_Remove
  refine w_new h fun n w h=>?_
  refine w_ld h rfl ?_
  refine w_call (place_tri b v s hl) h fun r w h=>?_
  obtain ⟨hr,h⟩:=h.purP
  refine w_ite (fun c=>?_) fun c=>?_
  ·have c:placeF v s=0:=by rw [← hr];simpa using c
   have hm:=placeF_0.1 c
   have e:(removeF v s).2=v:=by
    obtain ⟨a,d⟩:=v
    simp only [removeF,outF,List.mem_append,not_or] at hm ⊢
    congr 1
    ·rw [List.filter_eq_self];intro x hx;exact decide_eq_true fun e=>hm.1 (e ▸ hx)
    ·rw [List.filter_eq_self];intro x hx;exact decide_eq_true fun e=>hm.2 (e ▸ hx)
   rw [e,removeF,c]
   exact Own.retP (by simp) h.keep
  ·have c:placeF v s≠0:=by rw [← hr];simpa using c
   refine w_drw h fun w h=>?_
   obtain ⟨s1,s2,h⟩:=h.lst b
   refine w_deref (w_deref (w_ld h rfl (w_ld h rfl ?_)))
   have hf:∀ x:Int,TriV Tryz.prog (.mk (.func N_lists_Lists_Remove_c1) [] [V1.enc (.lf (.ptr (some ⟨n,0⟩)))]) [.lf (.int .i64 x)] [.lf .bool] (blk n [.int .i64 s]) (fun r=>pur (r=(x == s)) (blk n [.int .i64 s])):=fun x =>
    (Tri.g (f:=N_lists_Lists_Remove_c1) (args:=[.lf (.int .i64 x)]) (caps:=[.lf (.ptr (some ⟨n,0⟩))]) (not_tri n x s)).v
   have eq (l:List Int):l.filter (fun x=>!(x == s))=l.filter (fun x=>decide (x≠s)):=by
    congr 1;funext x;by_cases hx:x=s<;>simp [hx]
   refine w_call (del_tri s1 _ (blk n [.int .i64 s]) v.1 (fun x=>x == s) (by omega) (fun x _=>hf x)) h fun r1 w h=>?_
   refine w_chk h rfl ?_
   refine w_call (del_tri s2 _ (blk n [.int .i64 s]) v.2 (fun x=>x == s) (by omega) (fun x _=>hf x)) h fun r2 w h=>?_
   refine w_deref (w_set h rfl fun w h=>?_)
   dsimp only [upd,over] at h
   refine w_deref (w_set h rfl fun w h=>?_)
   dsimp only [upd,over] at h
   rw [eq,eq] at h
   exact Own.retP (by simp [removeF,c]) (h.mkLst b r1 r2 (v.1.filter (fun x=>decide (x≠s)),v.2.filter (fun x=>decide (x≠s)))).keep
theorem head_no {v:LV} (h:(headF v).2.2=false):v=([],[]):=by
 obtain ⟨a,c⟩:=v
 cases a with
 | cons x a=>cases h
 | nil=>cases c with
  | cons x c=>cases h
  | nil=>rfl
theorem remove_head {v:LV} (h:(headF v).2.2=true):removeF v (headF v).1=(true,outF v (headF v).1):=by
 have:=headF_mem h
 have h2:placeF v (headF v).1≠0:=fun e=>placeF_0.1 e this
 rw [removeF,decide_eq_true h2]
theorem drop_tri (b:Nat) (v:LV) (hl:v.1.length+v.2.length≤4294967296) :
  Tri Tryz.prog N_lists_Lists_Drop [.lf (.ptr (some ⟨b,0⟩))] [.lf .bool] (lst b v) (fun r=>pur (r=(dropF v).1) (lst b (dropF v).2)) :=
 tri_0 (call_lists_Lists_Drop _) fun w S R h=>by
  unfold W_lists_Lists_Drop
  refine w_call (head_tri b v hl) (h.le (star_emp _)) fun r w h=>?_
  obtain ⟨hr,h⟩:=h.purP
  rw [hr,dropF]
  refine w_ite (fun c=>?_) fun c=>?_
  ·rw [if_pos c]
   refine w_call (remove_tri b v _ hl) h fun r w h=>?_
   rw [remove_head c] at h
   obtain ⟨hr,h⟩:=h.purP
   exact Own.retP hr h.keep
  ·rw [if_neg (by rw [c];simp)]
   exact Own.retP rfl h.keep
theorem back_tri (b:Nat) (v:LV) (ho:okL v) :
  Tri Tryz.prog N_lists_Lists_Back [.lf (.ptr (some ⟨b,0⟩))] [.lf .bool] (lst b v) (fun r=>pur (r=(backF v).1) (lst b (backF v).2)) :=
 tri_0 (call_lists_Lists_Back _) fun w S R h=>by
  unfold W_lists_Lists_Back
  have hl:=ho.few
  refine w_call (head_tri b v (by omega)) (h.le (star_emp _)) fun r w h=>?_
  obtain ⟨hr,h⟩:=h.purP
  rw [hr]
  refine w_ite (fun c=>?_) fun c=>?_
  ·refine w_call (remove_tri b v _ (by omega)) h fun r w h=>?_
   rw [remove_head c] at h
   obtain ⟨hr,h⟩:=h.purP
   refine w_ite (fun _=>?_) fun c=>by rw [hr] at c;cases c
   have hl2:=(ho.out (headF v).1).few
   refine w_call (push_tri b (outF v (headF v).1) (headF v).1 false (by omega)) h fun r w h=>?_
   rw [back_push ho c] at h
   obtain ⟨hr,h⟩:=h.purP
   exact Own.retP (by rw [hr,backF,if_pos c];rfl) h.keep
  ·rw [backF,if_neg (by rw [c];simp)]
   exact Own.retP rfl h.keep
end Lists

namespace TreeA
open _root_.Go.X.Tree
abbrev KN:Ks:=[.int .u64,.int .u64,.int .i64,.int .i64,.int .i64]
theorem isnan_tri (x:Int):Tri Tryz.prog N_cmp_isNaN_uint64 [.lf (.int .u64 x)] [.lf .bool] emp (fun r=>pur (r=false) emp) :=
 tri_0 (call_cmp_isNaN_uint64 x) fun w0 S R h=>by
  unfold W_cmp_isNaN_uint64
  exact Own.retP (by simp) h
def c1 (x y:Int):Int:=if x < y then -1 else if x > y then 1 else 0
theorem cmp_tri (x y:Int):Tri Tryz.prog N_cmp_Compare_uint64 [.lf (.int .u64 x),.lf (.int .u64 y)] [.lf (.int .i64)] emp (fun r=>pur (r=c1 x y) emp) :=
 tri_0 (call_cmp_Compare_uint64 x y) fun w0 S R h=>by
  unfold W_cmp_Compare_uint64 c1
  refine w_call (isnan_tri x) h fun r w h=>?_
  obtain ⟨hr,h⟩:=h.purP;rw [hr]
  refine w_call (isnan_tri y) h fun r w h=>?_
  obtain ⟨hr,h⟩:=h.purP;rw [hr]
  refine w_ite (fun c=>(by cases c)) fun _=>w_ite (fun c=>(by cases c)) fun _=>?_
  refine w_ite (fun c=>?_) fun c=>?_
  ·rw [if_pos (of_decide_eq_true c)];exact Own.retP rfl h.emp'
  rw [if_neg (of_decide_eq_false c)]
  refine w_ite (fun c=>?_) fun c=>?_
  ·rw [if_pos (of_decide_eq_true c)];exact Own.retP rfl h.emp'
  ·rw [if_neg (of_decide_eq_false c)];exact Own.retP rfl h.emp'
theorem or_tri (n:Nat) (a b:Int):Tri Tryz.prog N_cmp_Or_int [.lf (.sl ⟨some ⟨n,0⟩,2,2⟩)] [.lf (.int .i64)] (arr ⟨some ⟨n,0⟩,2,2⟩ KI [a,b]) (fun r=>pur (r=if a≠0 then a else b) (arr ⟨some ⟨n,0⟩,2,2⟩ KI [a,b])) :=
 tri_0 (call_cmp_Or_int _) fun w0 S R h=>by
  unfold W_cmp_Or_int
  refine w_loop (fun _:Int=>arr ⟨some ⟨n,0⟩,2,2⟩ KI [a,b]) (fun i:Int=>i=0∨(i=1∧a=0)∨(i=2∧a=0∧b=0)) (fun i:Int=>(2 - i).toNat) h (.inl rfl) ?_
  rintro (i:Int) w hi h
  refine w_ite (fun c=>?_) fun c=>?_
  ·have c:i < 2:=by simpa using c
   rcases hi with rfl | ⟨rfl,ha⟩ | ⟨rfl,_⟩
   ·refine w_idx h (by omega) (by simp) (w_ldE h ⟨some ⟨n,0⟩,2,2⟩ 0 rfl rfl ?_)
    refine w_ite (fun c=>?_) fun c=>?_
    ·have c:a≠0:=by simpa using c
     exact Own.retP (by rw [if_pos c]) h
    ·have c:a=0:=by simpa using c
     exact ⟨⟨.inr (.inl ⟨rfl,c⟩),h⟩,by decide⟩
   ·refine w_idx h (by omega) (by simp) (w_ldE h ⟨some ⟨n,0⟩,2,2⟩ 1 rfl rfl ?_)
    refine w_ite (fun c=>?_) fun c=>?_
    ·exact Own.retP (by rw [if_neg (by simp [ha])]) h
    ·have c:b=0:=by simpa using c
     exact ⟨⟨.inr (.inr ⟨rfl,ha,c⟩),h⟩,by decide⟩
   ·omega
  ·have c:¬ i < 2:=by simpa using c
   rcases hi with rfl | ⟨rfl,ha⟩ | ⟨rfl,ha,hb⟩
   ·omega
   ·omega
   ·exact Own.retP (by rw [if_neg (by simp [ha]),hb]) h
def kc (a b:Key):Int:=if klt a b then -1 else if a=b then 0 else 1
theorem kc_lt {a b:Key}:kc a b < 0↔klt a b=true:=by
 unfold kc;split
 ·rename_i h;simp [h]
 ·rename_i h;split<;>simp [h]
theorem kc_gt {a b:Key}:kc a b > 0↔klt a b=false∧a≠b:=by
 unfold kc;split
 ·rename_i h;simp [h]
 ·rename_i h;split<;>rename_i h2<;>simp [h,h2]
theorem comp_tri (a b:Key):Tri Tryz.prog N_rbtree_compare [.agg (Ks.mk [.int .u64,.int .u64] a),.agg (Ks.mk [.int .u64,.int .u64] b)] [.lf (.int .i64)] emp (fun r=>pur (r=kc a b) emp) :=
 tri_0 (call_rbtree_compare a b) fun w0 S R h=>by
  unfold W_rbtree_compare
  refine w_new h fun n1 w h=>?_
  refine w_new h fun n2 w h=>?_
  repeat' (first
   | (refine w_drw h fun w h=>?_)
   | (refine w_deref ?_)
   | (refine w_ldAll h rfl ?_)
   | (refine w_ld h rfl ?_)
   | (refine w_chkAll h ?_)
   | (refine w_chk h rfl ?_)
   | (refine w_setAll h (by rfl) fun w h=>?_)
   | (refine w_new h fun n w h=>?_)
   | (refine w_leave h fun w h=>?_)
   | (refine w_set h rfl fun w h=>?_;dsimp only [upd,over] at h)
   | (refine w_call (cmp_tri _ _) h fun r w h=>?_;obtain ⟨hr,h⟩:=h.purP;(try dsimp only at hr h);try rw [hr]))
  have h:=h.blkArr n KI [c1 a.1 b.1,c1 a.2 b.2] rfl (by simp)
  refine w_call (or_tri n (c1 a.1 b.1) (c1 a.2 b.2)) h fun r w h=>?_
  obtain ⟨hr,h⟩:=h.purP
  refine Own.retP ?_ h.emp'
  rw [hr]
  obtain ⟨a1,a2⟩:=a
  obtain ⟨b1,b2⟩:=b
  unfold c1 kc
  by_cases h1:a1 < b1
  ·simp [klt,h1]
  ·by_cases h2:a1=b1
   ·by_cases h3:a2 < b2
    ·simp [klt,h2,h3]
    ·by_cases h4:a2=b2
     ·simp [klt,h2,h4]
     ·have h5:a2 > b2:=by omega
      simp [klt,h2,h3,h4,h5]
   ·have h5:a1 > b1:=by omega
    simp [klt,h1,h2,h5]
def In (l:List Nd) (i:Int):Prop:=0≤i∧i.toNat < l.length
theorem In.len {l l':List Nd} {i:Int} (h:In l i) (e:l'.length=l.length):In l' i:=⟨h.1,by rw [e];exact h.2⟩
theorem nth_at {l:List Nd} {i:Int} (h:In l i):l[i.toNat]?=some (nth l i):=by
 rw [nth,List.getD_eq_getElem?_getD,List.getElem?_eq_getElem h.2];rfl
abbrev hh (l:List Nd) (i:Int):Int:=(nth l i).2.2.2.2
section
variable {w0 w : World} {S0 R0 : Nat → Prop} {F G : SP} {l : List Nd} {s : Sl} {i : Int}
theorem w_ix {n:Nat} {k:Pt→WP} (h:Own w0 S0 R0 w F) [t:Rd s F KN l] (hi:In l i) (hk:k (s.ix i.toNat n) w):idx s i n k w:=w_idx (s:=s) h hi.1 hi.2 hk
theorem rdL {k:Int→WP} (h:Own w0 S0 R0 w F) [t:Rd s F KN l] (hi:In l i) (hk:k (lt l i) w):ld [.int .i64] ⟨(s.ix i.toNat 5).b,(s.ix i.toNat 5).o+2⟩ k w:=w_ldA h s i.toNat 2 (nth l i) (nth_at hi) rfl (by decide) rfl hk
theorem rdR {k:Int→WP} (h:Own w0 S0 R0 w F) [t:Rd s F KN l] (hi:In l i) (hk:k (rtt l i) w):ld [.int .i64] ⟨(s.ix i.toNat 5).b,(s.ix i.toNat 5).o+3⟩ k w:=w_ldA h s i.toNat 3 (nth l i) (nth_at hi) rfl (by decide) rfl hk
theorem rdH {k:Int→WP} (h:Own w0 S0 R0 w F) [t:Rd s F KN l] (hi:In l i) (hk:k (hh l i) w):ld [.int .i64] ⟨(s.ix i.toNat 5).b,(s.ix i.toNat 5).o+4⟩ k w:=w_ldA h s i.toNat 4 (nth l i) (nth_at hi) rfl (by decide) rfl hk
theorem rdK {k:Int × Int→WP} (h:Own w0 S0 R0 w F) [t:Rd s F KN l] (hi:In l i) (hk:k (keyL l i) w):ld [.int .u64,.int .u64] (s.ix i.toNat 5) k w:=w_ldA h s i.toNat 0 (nth l i) (nth_at hi) rfl (by decide) rfl hk
theorem ckR {A:WP} (h:Own w0 S0 R0 w F) [t:Rd s F KN l] (hi:In l i) (hk:A w):chk ⟨(s.ix i.toNat 5).b,(s.ix i.toNat 5).o+3⟩ (Ks.mk [.int .i64] (rtt l i)) A w:=w_chkA h s i.toNat 3 (nth l i) (nth_at hi) rfl (by decide) rfl hk
theorem wrL {v:Int} {A:WP} (h:Own w0 S0 R0 w F) [t:TakeA s F KN l G] (hi:In l i) (hk:∀ w',Own w0 S0 R0 w' (arr s KN (setLt l i v)^G)→A w'):st ⟨(s.ix i.toNat 5).b,(s.ix i.toNat 5).o+2⟩ [.int .i64 v] A w:=w_stA h s i.toNat 2 (nth l i) ((nth l i).1,(nth l i).2.1,v,(nth l i).2.2.2.1,(nth l i).2.2.2.2) (nth_at hi) rfl (by simp) (by simp) rfl hk
theorem wrR {v:Int} {A:WP} (h:Own w0 S0 R0 w F) [t:TakeA s F KN l G] (hi:In l i) (hk:∀ w',Own w0 S0 R0 w' (arr s KN (setRt l i v)^G)→A w'):st ⟨(s.ix i.toNat 5).b,(s.ix i.toNat 5).o+3⟩ [.int .i64 v] A w:=w_stA h s i.toNat 3 (nth l i) ((nth l i).1,(nth l i).2.1,(nth l i).2.2.1,v,(nth l i).2.2.2.2) (nth_at hi) rfl (by simp) (by simp) rfl hk
end
def Lk (l:List Nd) (B:Int):Prop:=∀ i,In l i→(lt l i=-1∨In l (lt l i))∧(rtt l i=-1∨In l (rtt l i))∧0≤hh l i∧hh l i≤B
theorem Lk.mono {l:List Nd} {B C:Int} (h:Lk l B) (hb:B≤C):Lk l C:=fun i hi=>⟨(h i hi).1,(h i hi).2.1,(h i hi).2.2.1,Int.le_trans (h i hi).2.2.2 hb⟩
theorem nth_set {l:List Nd} {i j:Int} {x:Nd} (hi:In l i):nth (l.set i.toNat x) j=if j.toNat=i.toNat then x else nth l j:=by
 have hl:=hi.2
 by_cases e:i.toNat=j.toNat
 ·simp [nth,List.getD_eq_getElem?_getD,List.getElem?_set,e,show j.toNat < l.length by omega]
 ·simp [nth,List.getD_eq_getElem?_getD,List.getElem?_set,e,Ne.symm e]
theorem Lk.set {l:List Nd} {B C:Int} (h:Lk l B) (hb:B≤C) {i:Int} (hi:In l i) {x:Nd} (h1:x.2.2.1=-1∨In l x.2.2.1) (h2:x.2.2.2.1=-1∨In l x.2.2.2.1) (h3:0≤x.2.2.2.2∧x.2.2.2.2≤C):Lk (l.set i.toNat x) C:=by
 have hlen:(l.set i.toNat x).length=l.length:=List.length_set
 intro j hj
 have hj:In l j:=hj.len hlen.symm
 simp only [Tree.lt,rtt,hh,nth_set hi]
 split
 ·exact ⟨h1.imp id (·.len hlen),h2.imp id (·.len hlen),h3⟩
 ·have:=h j hj
  exact ⟨this.1.imp id (·.len hlen),this.2.1.imp id (·.len hlen),this.2.2.1,Int.le_trans this.2.2.2 hb⟩
theorem hi_rng {l:List Nd} {B:Int} (h:Lk l B) {i:Int} (hi:i=-1∨In l i) (hB:0≤B):0≤hiL l i∧hiL l i≤B:=by
 unfold hiL;split
 ·omega
 ·exact (h i (hi.resolve_left (by assumption))).2.2
theorem Lk.lt {l:List Nd} {B:Int} (h:Lk l B) {i v:Int} (hi:In l i) (hv:v=-1∨In l v):Lk (setLt l i v) B:=h.set (Int.le_refl _) hi hv (h i hi).2.1 (h i hi).2.2
theorem Lk.rt {l:List Nd} {B:Int} (h:Lk l B) {i v:Int} (hi:In l i) (hv:v=-1∨In l v):Lk (setRt l i v) B:=h.set (Int.le_refl _) hi (h i hi).1 hv (h i hi).2.2
theorem Lk.mend {l:List Nd} {B:Int} (h:Lk l B) (hB:0≤B) {i:Int} (hi:In l i):Lk (mendL l i) (B+1):=by
 have h1:=hi_rng h (h i hi).1 hB
 have h2:=hi_rng h (h i hi).2.1 hB
 exact h.set (by omega) hi (h i hi).1 (h i hi).2.1 ⟨by show 0≤max _ _+1;omega,by show max _ _+1≤_;omega⟩
theorem Lk.turnL {l:List Nd} {B:Int} (h:Lk l B) (hB:0≤B) {i:Int} (hi:In l i) (hr:In l (rtt l i)):Lk (turnLL l i).1 (B+2):=by
 have a:=(h.rt hi (h _ hr).1)
 have b:=a.lt (hr.len (setRt_len _ _ _)) (.inr (hi.len (setRt_len _ _ _)))
 have c:=b.mend hB (hi.len (by rw [setLt_len,setRt_len]))
 have d:=c.mend (by omega) (hr.len (by rw [mend_len,setLt_len,setRt_len]))
 exact d.mono (by omega)
theorem Lk.turnR {l:List Nd} {B:Int} (h:Lk l B) (hB:0≤B) {i:Int} (hi:In l i) (hr:In l (Tree.lt l i)):Lk (turnRL l i).1 (B+2):=by
 have a:=(h.lt hi (h _ hr).2.1)
 have b:=a.rt (hr.len (setLt_len _ _ _)) (.inr (hi.len (setLt_len _ _ _)))
 have c:=b.mend hB (hi.len (by rw [setRt_len,setLt_len]))
 have d:=c.mend (by omega) (hr.len (by rw [mend_len,setRt_len,setLt_len]))
 exact d.mono (by omega)
theorem lean_l {l:List Nd} {B:Int} (h:Lk l B) (hB:0≤B) {i:Int} (hi:In l i) (hl:leanL l i > 0):In l (Tree.lt l i):=by
 refine (h i hi).1.resolve_left fun e=>?_
 have:=hi_rng h (h i hi).2.1 hB
 rw [leanL,e,hiL,if_pos rfl] at hl
 omega
theorem lean_r {l:List Nd} {B:Int} (h:Lk l B) (hB:0≤B) {i:Int} (hi:In l i) (hl:leanL l i < 0):In l (rtt l i):=by
 refine (h i hi).2.1.resolve_left fun e=>?_
 have:=hi_rng h (h i hi).1 hB
 have e2:hiL l (rtt l i)=0:=by rw [e];rfl
 rw [leanL,e2] at hl
 omega
theorem Lk.even {l:List Nd} {B:Int} (h:Lk l B) (hB:0≤B) {i:Int} (hi:In l i):Lk (evenL l i).1 (B+5)∧In l (evenL l i).2:=by
 have m:=h.mend hB hi
 have hi1:In (mendL l i) i:=hi.len (mend_len _ _)
 unfold evenL
 split
 ·rename_i c
  have hl:=lean_l m (by omega) hi1 (by omega)
  split
  ·rename_i c2
   have hlr:=lean_r m (by omega) hl c2
   have t:=m.turnL (by omega) hl hlr
   have hlt:=turnL_len (mendL l i) (Tree.lt (mendL l i) i)
   have s1:=t.lt (v:=(turnLL (mendL l i) (Tree.lt (mendL l i) i)).2) (hi1.len hlt) (.inr (hlr.len hlt))
   have hl2:In (setLt (turnLL (mendL l i) (Tree.lt (mendL l i) i)).1 i (turnLL (mendL l i) (Tree.lt (mendL l i) i)).2) i:=hi1.len (by rw [setLt_len,hlt])
   have hl3:Tree.lt (setLt (turnLL (mendL l i) (Tree.lt (mendL l i) i)).1 i (turnLL (mendL l i) (Tree.lt (mendL l i) i)).2) i=rtt (mendL l i) (Tree.lt (mendL l i) i):=by
    simp only [Tree.lt,setLt,nth_set (hi1.len hlt),if_true];rfl
   have hl4:In (setLt (turnLL (mendL l i) (Tree.lt (mendL l i) i)).1 i (turnLL (mendL l i) (Tree.lt (mendL l i) i)).2) (Tree.lt (setLt (turnLL (mendL l i) (Tree.lt (mendL l i) i)).1 i (turnLL (mendL l i) (Tree.lt (mendL l i) i)).2) i):=by
    rw [hl3];exact hlr.len (by rw [setLt_len,hlt])
   refine ⟨(s1.turnR (by omega) hl2 hl4).mono (by omega),?_⟩
   exact hl4.len (by rw [setLt_len,hlt,mend_len])
  ·exact ⟨(m.turnR (by omega) hi1 hl).mono (by omega),hl.len (mend_len _ _).symm⟩
 ·split
  ·rename_i c
   have hl:=lean_r m (by omega) hi1 (by omega)
   split
   ·rename_i c2
    have hlr:=lean_l m (by omega) hl c2
    have t:=m.turnR (by omega) hl hlr
    have hlt:=turnR_len (mendL l i) (rtt (mendL l i) i)
    have s1:=t.rt (v:=(turnRL (mendL l i) (rtt (mendL l i) i)).2) (hi1.len hlt) (.inr (hlr.len hlt))
    have hl2:In (setRt (turnRL (mendL l i) (rtt (mendL l i) i)).1 i (turnRL (mendL l i) (rtt (mendL l i) i)).2) i:=hi1.len (by rw [setRt_len,hlt])
    have hl3:rtt (setRt (turnRL (mendL l i) (rtt (mendL l i) i)).1 i (turnRL (mendL l i) (rtt (mendL l i) i)).2) i=Tree.lt (mendL l i) (rtt (mendL l i) i):=by
     simp only [rtt,setRt,nth_set (hi1.len hlt),if_true];rfl
    have hl4:In (setRt (turnRL (mendL l i) (rtt (mendL l i) i)).1 i (turnRL (mendL l i) (rtt (mendL l i) i)).2) (rtt (setRt (turnRL (mendL l i) (rtt (mendL l i) i)).1 i (turnRL (mendL l i) (rtt (mendL l i) i)).2) i):=by
     rw [hl3];exact hlr.len (by rw [setRt_len,hlt])
    refine ⟨(s1.turnL (by omega) hl2 hl4).mono (by omega),?_⟩
    exact hl4.len (by rw [setRt_len,hlt,mend_len])
   ·exact ⟨(m.turnL (by omega) hi1 hl).mono (by omega),hl.len (mend_len _ _).symm⟩
  ·exact ⟨m.mono (by omega),hi⟩
section
variable (t : Nat) (ap : Option Pt) (s : Sl) (tp sz rm : Int) (l : List Nd)
theorem high_tri (i:Int) (hi:i=-1∨In l i):Tri Tryz.prog N_rbtree_Tree_high [.lf (.ptr (some ⟨t,0⟩)),.lf (.int .i64 i)] [.lf (.int .i64)] (blk t [.ptr ap,.sl s,.int .i64 tp,.int .i64 sz,.int .i64 rm]^arr s KN l) (fun r=>pur (r=hiL l i) (blk t [.ptr ap,.sl s,.int .i64 tp,.int .i64 sz,.int .i64 rm]^arr s KN l)) :=
 tri_0 (call_rbtree_Tree_high _ i) fun w0 S R h=>by
  unfold W_rbtree_Tree_high
  refine w_ite (fun c=>?_) fun c=>?_
  ·have c:i=-1:=by simpa using c
   exact Own.retP (by rw [c];rfl) h
  ·have c:i≠-1:=by simpa using c
   have hi:=hi.resolve_left c
   refine w_deref (w_ld h rfl (w_ix h hi (rdH h hi ?_)))
   exact Own.retP (by rw [hiL,if_neg c]) h
theorem mend_tri (i:Int) (hi:In l i) (B:Int) (hk:Lk l B) (hB:0≤B) (hB2:B < 4611686018427387904):Tri Tryz.prog N_rbtree_Tree_mend [.lf (.ptr (some ⟨t,0⟩)),.lf (.int .i64 i)] [] (blk t [.ptr ap,.sl s,.int .i64 tp,.int .i64 sz,.int .i64 rm]^arr s KN l) (fun _=>blk t [.ptr ap,.sl s,.int .i64 tp,.int .i64 sz,.int .i64 rm]^arr s KN (mendL l i)) :=
 tri_0 (call_rbtree_Tree_mend _ i) fun w0 S R h=>by
  unfold W_rbtree_Tree_mend
  have h1:=hi_rng hk (hk i hi).1 hB
  have h2:=hi_rng hk (hk i hi).2.1 hB
  refine w_deref (w_ld h rfl (w_ix h hi (w_drw h fun w h=>w_deref (w_deref (rdL h hi (rdR h hi ?_))))))
  refine w_call (high_tri t ap s tp sz rm l _ (hk i hi).1) h fun r w h=>?_
  obtain ⟨hr,h⟩:=h.purP;rw [hr]
  refine ckR h hi ?_
  refine w_call (high_tri t ap s tp sz rm l _ (hk i hi).2.1) h fun r w h=>?_
  obtain ⟨hr,h⟩:=h.purP;rw [hr]
  have e:IntKind.i64.wrap ((if hiL l (rtt l i) > hiL l (Tree.lt l i) then hiL l (rtt l i) else hiL l (Tree.lt l i))+(1:Int))=max (hiL l (Tree.lt l i)) (hiL l (rtt l i))+1:=by
   rw [wi (by split<;>omega) (by split<;>omega)];split<;>omega
  rw [e]
  refine w_deref ?_
  refine w_stA h s i.toNat 4 (nth l i) ((nth l i).1,(nth l i).2.1,(nth l i).2.2.1,(nth l i).2.2.2.1,max (hiL l (Tree.lt l i)) (hiL l (rtt l i))+1) (nth_at hi) rfl (by simp) (by simp) rfl fun w h=>?_
  have h:=h.arrEq (s:=s) (K:=KN) (ys:=mendL l i) rfl
  exact h.fin
theorem lean_tri (i:Int) (hi:In l i) (B:Int) (hk:Lk l B) (hB:0≤B) (hB2:B < 4611686018427387904):Tri Tryz.prog N_rbtree_Tree_lean [.lf (.ptr (some ⟨t,0⟩)),.lf (.int .i64 i)] [.lf (.int .i64)] (blk t [.ptr ap,.sl s,.int .i64 tp,.int .i64 sz,.int .i64 rm]^arr s KN l) (fun r=>pur (r=leanL l i) (blk t [.ptr ap,.sl s,.int .i64 tp,.int .i64 sz,.int .i64 rm]^arr s KN l)) :=
 tri_0 (call_rbtree_Tree_lean _ i) fun w0 S R h=>by
  unfold W_rbtree_Tree_lean
  have h1:=hi_rng hk (hk i hi).1 hB
  have h2:=hi_rng hk (hk i hi).2.1 hB
  refine w_drw h fun w h=>w_deref (w_deref (w_ld h rfl (w_ld h rfl (w_ix h hi (w_ix h hi (rdL h hi (rdR h hi ?_)))))))
  refine w_call (high_tri t ap s tp sz rm l _ (hk i hi).1) h fun r w h=>?_
  obtain ⟨hr,h⟩:=h.purP;rw [hr]
  refine ckR h hi (w_chk h rfl ?_)
  refine w_call (high_tri t ap s tp sz rm l _ (hk i hi).2.1) h fun r w h=>?_
  obtain ⟨hr,h⟩:=h.purP;rw [hr]
  rw [wi (by omega) (by omega)]
  exact Own.retP rfl h.fin
theorem turnL_tri (i:Int) (hi:In l i) (hr:In l (rtt l i)) (B:Int) (hk:Lk l B) (hB:0≤B) (hB2:B+1 < 4611686018427387904):Tri Tryz.prog N_rbtree_Tree_turnLeft [.lf (.ptr (some ⟨t,0⟩)),.lf (.int .i64 i)] [.lf (.int .i64)] (blk t [.ptr ap,.sl s,.int .i64 tp,.int .i64 sz,.int .i64 rm]^arr s KN l) (fun r=>pur (r=(turnLL l i).2) (blk t [.ptr ap,.sl s,.int .i64 tp,.int .i64 sz,.int .i64 rm]^arr s KN ((turnLL l i).1))) :=
 tri_0 (call_rbtree_Tree_turnLeft _ i) fun w0 S R h=>by
  unfold W_rbtree_Tree_turnLeft
  refine w_deref (w_ld h rfl (w_ix h hi (rdR h hi ?_)))
  refine w_drw h fun w h=>w_deref (w_deref (w_deref (w_ld h rfl (w_ld h rfl (w_ld h rfl (w_ix h hr (rdL h hr ?_)))))))
  refine w_ix h hi (wrR h hi fun w h=>?_)
  have a:=(hk.rt hi (hk _ hr).1)
  have hr1:=hr.len (setRt_len l i (Tree.lt l (rtt l i)))
  refine w_ix h hr1 (wrL h hr1 fun w h=>?_)
  have b:=a.lt hr1 (.inr (hi.len (setRt_len l i (Tree.lt l (rtt l i)))))
  have hi2:In (setLt (setRt l i (Tree.lt l (rtt l i))) (rtt l i) i) i:=hi.len (by rw [setLt_len,setRt_len])
  refine w_call (mend_tri t ap s tp sz rm _ i hi2 B b hB (by omega)) h fun _ w h=>?_
  have c:=b.mend hB hi2
  refine w_call (mend_tri t ap s tp sz rm _ (rtt l i) (hr.len (by rw [mend_len,setLt_len,setRt_len])) (B+1) c (by omega) (by omega)) h fun _ w h=>?_
  have h:=h.arrEq (s:=s) (K:=KN) (ys:=(turnLL l i).1) rfl
  exact Own.retP rfl h.fin
theorem turnR_tri (i:Int) (hi:In l i) (hr:In l (Tree.lt l i)) (B:Int) (hk:Lk l B) (hB:0≤B) (hB2:B+1 < 4611686018427387904):Tri Tryz.prog N_rbtree_Tree_turnRight [.lf (.ptr (some ⟨t,0⟩)),.lf (.int .i64 i)] [.lf (.int .i64)] (blk t [.ptr ap,.sl s,.int .i64 tp,.int .i64 sz,.int .i64 rm]^arr s KN l) (fun r=>pur (r=(turnRL l i).2) (blk t [.ptr ap,.sl s,.int .i64 tp,.int .i64 sz,.int .i64 rm]^arr s KN ((turnRL l i).1))) :=
 tri_0 (call_rbtree_Tree_turnRight _ i) fun w0 S R h=>by
  unfold W_rbtree_Tree_turnRight
  refine w_deref (w_ld h rfl (w_ix h hi (rdL h hi ?_)))
  refine w_drw h fun w h=>w_deref (w_deref (w_deref (w_ld h rfl (w_ld h rfl (w_ld h rfl (w_ix h hr (rdR h hr ?_)))))))
  refine w_ix h hi (wrL h hi fun w h=>?_)
  have a:=(hk.lt hi (hk _ hr).2.1)
  have hr1:=hr.len (setLt_len l i (rtt l (Tree.lt l i)))
  refine w_ix h hr1 (wrR h hr1 fun w h=>?_)
  have b:=a.rt hr1 (.inr (hi.len (setLt_len l i (rtt l (Tree.lt l i)))))
  have hi2:In (setRt (setLt l i (rtt l (Tree.lt l i))) (Tree.lt l i) i) i:=hi.len (by rw [setRt_len,setLt_len])
  refine w_call (mend_tri t ap s tp sz rm _ i hi2 B b hB (by omega)) h fun _ w h=>?_
  have c:=b.mend hB hi2
  refine w_call (mend_tri t ap s tp sz rm _ (Tree.lt l i) (hr.len (by rw [mend_len,setRt_len,setLt_len])) (B+1) c (by omega) (by omega)) h fun _ w h=>?_
  have h:=h.arrEq (s:=s) (K:=KN) (ys:=(turnRL l i).1) rfl
  exact Own.retP rfl h.fin
theorem even_tri (i:Int) (hi:In l i) (B:Int) (hk:Lk l B) (hB:0≤B) (hB2:B+5 < 4611686018427387904):Tri Tryz.prog N_rbtree_Tree_even [.lf (.ptr (some ⟨t,0⟩)),.lf (.int .i64 i)] [.lf (.int .i64)] (blk t [.ptr ap,.sl s,.int .i64 tp,.int .i64 sz,.int .i64 rm]^arr s KN l) (fun r=>pur (r=(evenL l i).2) (blk t [.ptr ap,.sl s,.int .i64 tp,.int .i64 sz,.int .i64 rm]^arr s KN ((evenL l i).1))) :=
 tri_0 (call_rbtree_Tree_even _ i) fun w0 S R h=>by
  unfold W_rbtree_Tree_even
  refine w_call (mend_tri t ap s tp sz rm l i hi B hk hB (by omega)) h fun _ w h=>?_
  have m:=hk.mend hB hi
  have hi1:In (mendL l i) i:=hi.len (mend_len _ _)
  refine w_call (lean_tri t ap s tp sz rm (mendL l i) i hi1 (B+1) m (by omega) (by omega)) h fun r w h=>?_
  obtain ⟨hr,h⟩:=h.purP;rw [hr]
  have hdef:evenL l i=if leanL (mendL l i) i > 1 then
    turnRL (if leanL (mendL l i) (Tree.lt (mendL l i) i) < 0 then setLt (turnLL (mendL l i) (Tree.lt (mendL l i) i)).1 i (turnLL (mendL l i) (Tree.lt (mendL l i) i)).2 else mendL l i) i
   else if leanL (mendL l i) i < -1 then
    turnLL (if leanL (mendL l i) (rtt (mendL l i) i) > 0 then setRt (turnRL (mendL l i) (rtt (mendL l i) i)).1 i (turnRL (mendL l i) (rtt (mendL l i) i)).2 else mendL l i) i
   else (mendL l i,i):=rfl
  rw [hdef]
  clear hdef
  generalize mendL l i=l at *
  refine w_ite (fun c=>?_) fun c=>?_
  ·have c:leanL l i > 1:=of_decide_eq_true c
   rw [if_pos c]
   have hl:=lean_l m (by omega) hi1 (by omega)
   refine w_deref (w_ld h rfl (w_ix h hi1 (rdL h hi1 ?_)))
   refine w_call (lean_tri t ap s tp sz rm l _ hl (B+1) m (by omega) (by omega)) h fun r w h=>?_
   obtain ⟨hr,h⟩:=h.purP;rw [hr]
   refine w_ite (fun c2=>?_) fun c2=>?_
   ·have c2:leanL l (Tree.lt l i) < 0:=of_decide_eq_true c2
    rw [if_pos c2]
    have hlr:=lean_r m (by omega) hl c2
    have tt:=m.turnL (by omega) hl hlr
    have hlt:=turnL_len l (Tree.lt l i)
    refine w_drw h fun w h=>w_deref (w_deref (w_ld h rfl (w_ld h rfl (w_ix h hi1 (rdL h hi1 ?_)))))
    refine w_call (turnL_tri t ap s tp sz rm l _ hl hlr (B+1) m (by omega) (by omega)) h fun r w h=>?_
    obtain ⟨hr,h⟩:=h.purP;rw [hr]
    have hr2:(turnLL l (Tree.lt l i)).2=rtt l (Tree.lt l i):=rfl
    have hi2:In (turnLL l (Tree.lt l i)).1 i:=hi1.len hlt
    refine w_chk h rfl (w_ix h hi2 (wrL h hi2 fun w h=>?_))
    have s1:=tt.lt (v:=(turnLL l (Tree.lt l i)).2) hi2 (.inr (hlr.len hlt))
    have hi3:In (setLt (turnLL l (Tree.lt l i)).1 i (turnLL l (Tree.lt l i)).2) i:=hi2.len (setLt_len _ _ _)
    have hl3:Tree.lt (setLt (turnLL l (Tree.lt l i)).1 i (turnLL l (Tree.lt l i)).2) i=rtt l (Tree.lt l i):=by
     simp only [Tree.lt,setLt,nth_set hi2,if_true];rfl
    have hl4:In (setLt (turnLL l (Tree.lt l i)).1 i (turnLL l (Tree.lt l i)).2) (Tree.lt (setLt (turnLL l (Tree.lt l i)).1 i (turnLL l (Tree.lt l i)).2) i):=by
     rw [hl3];exact hlr.len (by rw [setLt_len,hlt])
    generalize setLt (turnLL l (Tree.lt l i)).1 i (turnLL l (Tree.lt l i)).2=l2 at *
    refine w_call (turnR_tri t ap s tp sz rm l2 i hi3 hl4 _ s1 (by omega) (by omega)) h fun r w h=>?_
    obtain ⟨hr,h⟩:=h.purP;rw [hr]
    exact Own.retP rfl h.fin
   ·have c2:¬ leanL l (Tree.lt l i) < 0:=of_decide_eq_false c2
    rw [if_neg c2]
    refine w_call (turnR_tri t ap s tp sz rm l i hi1 hl _ m (by omega) (by omega)) h fun r w h=>?_
    obtain ⟨hr,h⟩:=h.purP;rw [hr]
    exact Own.retP rfl h.fin
  have c:¬ leanL l i > 1:=of_decide_eq_false c
  rw [if_neg c]
  refine w_ite (fun c=>?_) fun c=>?_
  ·have c:leanL l i < -1:=of_decide_eq_true c
   rw [if_pos c]
   have hl:=lean_r m (by omega) hi1 (by omega)
   refine w_deref (w_ld h rfl (w_ix h hi1 (rdR h hi1 ?_)))
   refine w_call (lean_tri t ap s tp sz rm l _ hl (B+1) m (by omega) (by omega)) h fun r w h=>?_
   obtain ⟨hr,h⟩:=h.purP;rw [hr]
   refine w_ite (fun c2=>?_) fun c2=>?_
   ·have c2:leanL l (rtt l i) > 0:=of_decide_eq_true c2
    rw [if_pos c2]
    have hlr:=lean_l m (by omega) hl c2
    have tt:=m.turnR (by omega) hl hlr
    have hlt:=turnR_len l (rtt l i)
    refine w_drw h fun w h=>w_deref (w_deref (w_ld h rfl (w_ld h rfl (w_ix h hi1 (rdR h hi1 ?_)))))
    refine w_call (turnR_tri t ap s tp sz rm l _ hl hlr (B+1) m (by omega) (by omega)) h fun r w h=>?_
    obtain ⟨hr,h⟩:=h.purP;rw [hr]
    have hi2:In (turnRL l (rtt l i)).1 i:=hi1.len hlt
    refine w_chk h rfl (w_ix h hi2 (wrR h hi2 fun w h=>?_))
    have s1:=tt.rt (v:=(turnRL l (rtt l i)).2) hi2 (.inr (hlr.len hlt))
    have hi3:In (setRt (turnRL l (rtt l i)).1 i (turnRL l (rtt l i)).2) i:=hi2.len (setRt_len _ _ _)
    have hl3:rtt (setRt (turnRL l (rtt l i)).1 i (turnRL l (rtt l i)).2) i=Tree.lt l (rtt l i):=by
     simp only [rtt,setRt,nth_set hi2,if_true];rfl
    have hl4:In (setRt (turnRL l (rtt l i)).1 i (turnRL l (rtt l i)).2) (rtt (setRt (turnRL l (rtt l i)).1 i (turnRL l (rtt l i)).2) i):=by
     rw [hl3];exact hlr.len (by rw [setRt_len,hlt])
    generalize setRt (turnRL l (rtt l i)).1 i (turnRL l (rtt l i)).2=l2 at *
    refine w_call (turnL_tri t ap s tp sz rm l2 i hi3 hl4 _ s1 (by omega) (by omega)) h fun r w h=>?_
    obtain ⟨hr,h⟩:=h.purP;rw [hr]
    exact Own.retP rfl h.fin
   ·have c2:¬ leanL l (rtt l i) > 0:=of_decide_eq_false c2
    rw [if_neg c2]
    refine w_call (turnL_tri t ap s tp sz rm l i hi1 hl _ m (by omega) (by omega)) h fun r w h=>?_
    obtain ⟨hr,h⟩:=h.purP;rw [hr]
    exact Own.retP rfl h.fin
  have c:¬ leanL l i < -1:=of_decide_eq_false c
  rw [if_neg c]
  exact Own.retP rfl h.fin
end
theorem take_rev {ws:List Int} {n:Nat} {x:Int} (h:ws[n]?=some x):(ws.take (n+1)).reverse=x :: (ws.take n).reverse:=by
 rw [List.take_add_one,h];simp
theorem hang_tri (t:Nat) (ap:Option Pt) (s:Sl) (tp sz rm:Int) (l:List Nd) (o:Sl) (ws:List Int) (was i:Int) (hw:∀ x∈ws,In l x) (hi:In l i) (B:Int) (hk:Lk l B) (hB:0≤B) (hB2:B+5 * ws.length < 4611686018427387904) (hll:l.length < 4611686018427387904) :
  Tri Tryz.prog N_rbtree_Tree_hang [.lf (.ptr (some ⟨t,0⟩)),.lf (.sl o),.lf (.int .i64 was),.lf (.int .i64 i)] [] ((blk t [.ptr ap,.sl s,.int .i64 tp,.int .i64 sz,.int .i64 rm]^arr s KN l)^rarr o KI ws)
   (fun _=>blk t [.ptr ap,.sl s,.int .i64 ((hangL l was i ws.reverse).2+1),.int .i64 sz,.int .i64 rm]^arr s KN (hangL l was i ws.reverse).1) :=
 tri_0 (call_rbtree_Tree_hang _ o was i) fun w0 S R h=>by
  unfold W_rbtree_Tree_hang
  have h:Own w0 S R w0 (rarr o KI ws^(blk t [.ptr ap,.sl s,.int .i64 tp,.int .i64 sz,.int .i64 rm]^arr s KN l)):=h.le (star_comm _ _)
  have hlen:=(h.rd (s:=o)).2
  have e0:IntKind.i64.wrap (((o.len:Nat):Int) - 1)=(ws.length:Int) - 1:=by rw [hlen];exact wi (by omega) (by omega)
  rw [e0]
  refine w_loopE (fun (_:T_i3) (x:List Nd)=>rarr o KI ws^(blk t [.ptr ap,.sl s,.int .i64 tp,.int .i64 sz,.int .i64 rm]^arr s KN x)) (fun (y:T_i3) (x:List Nd)=>(-1≤y.2.2∧y.2.2 < (ws.length:Int))∧x.length=l.length∧In x y.2.1∧Lk x (B+5 * ((ws.length:Int) - 1 - y.2.2))∧hangL l was i ws.reverse=hangL x y.1 y.2.1 (ws.take (y.2.2+1).toNat).reverse) (fun (y:T_i3) _=>(y.2.2+1).toNat) l h ?_ ?_
  ·refine ⟨⟨by show -1≤(ws.length:Int) - 1;omega,by show (ws.length:Int) - 1 < _;omega⟩,rfl,hi,?_,?_⟩
   ·exact hk.mono (by show B≤B+5 * ((ws.length:Int) - 1 - ((ws.length:Int) - 1));omega)
   ·show hangL l was i ws.reverse=hangL l was i (ws.take (((ws.length:Int) - 1)+1).toNat).reverse
    rw [List.take_of_length_le (by omega)]
  rintro K (⟨wa,j,n⟩:T_i3) x w ⟨⟨n0,n1⟩,hx,hj,hkx,he⟩ h hK
  dsimp only at n0 n1 hx hj hkx he hK ⊢
  refine w_ite (fun c=>?_) fun c=>?_
  ·have c:n ≥ 0:=of_decide_eq_true c
   have hn:n.toNat < ws.length:=by omega
   obtain ⟨up,hup⟩:∃ p,ws[n.toNat]?=some p:=⟨_,at_some hn⟩
   have hu:In x up:=(hw up (List.mem_of_getElem? hup)).len hx
   have en:(n+1).toNat=n.toNat+1:=by omega
   rw [en,take_rev hup,hangL] at he
   refine w_idx (s:=o) h c hn (w_ldE h o n.toNat hup rfl ?_)
   have en1:IntKind.i64.wrap (n - 1)=n - 1:=wi (by omega) (by omega)
   have en2:(n - 1+1).toNat=n.toNat:=by omega
   refine w_join h (fun _=>rarr o KI ws^(blk t [.ptr ap,.sl s,.int .i64 tp,.int .i64 sz,.int .i64 rm]^arr s KN x)) (fun y:Bool=>y=decide (Tree.lt x up=wa∧(wa≠-1∨klt (keyL x j) (keyL x up)=true))) (fun (y:Bool) w hy h=>?_) ?_
   ·rw [hy]
    refine w_ite (fun c2=>?_) fun c2=>?_
    ·have c2:=of_decide_eq_true c2
     rw [if_pos c2] at he
     refine w_deref (w_ld h rfl (w_ix (s:=s) h hu (wrL h hu fun w h=>?_)))
     have k1:=hkx.lt hu (.inr hj)
     have hu1:In (setLt x up j) up:=hu.len (setLt_len _ _ _)
     have k2:=k1.even (by omega) hu1
     refine w_call (even_tri t ap s tp sz rm (setLt x up j) up hu1 _ k1 (by omega) (by omega)) h fun r w h=>?_
     obtain ⟨hr,h⟩:=h.purP
     have hle:=even_len (setLt x up j) up
     rw [setLt_len] at hle
     generalize evenL (setLt x up j) up=q at *
     rw [hr,en1]
     refine hK (up,q.2,n - 1) q.1 w ⟨⟨by show -1≤n - 1;omega,by show n - 1 < (ws.length:Int);omega⟩,hle.trans hx,k2.2.len (by rw [hle,setLt_len]),k2.1.mono (by show _≤B+5 * ((ws.length:Int) - 1 - (n - 1));omega),?_⟩ h.fin (by show (n - 1+1).toNat < _;omega)
     show _=hangL q.1 up q.2 (ws.take (n - 1+1).toNat).reverse
     rw [en2];exact he
    ·have c2:=of_decide_eq_false c2
     rw [if_neg c2] at he
     refine w_deref (w_ld h rfl (w_ix (s:=s) h hu (wrR h hu fun w h=>?_)))
     have k1:=hkx.rt hu (.inr hj)
     have hu1:In (setRt x up j) up:=hu.len (setRt_len _ _ _)
     have k2:=k1.even (by omega) hu1
     refine w_call (even_tri t ap s tp sz rm (setRt x up j) up hu1 _ k1 (by omega) (by omega)) h fun r w h=>?_
     obtain ⟨hr,h⟩:=h.purP
     have hle:=even_len (setRt x up j) up
     rw [setRt_len] at hle
     generalize evenL (setRt x up j) up=q at *
     rw [hr,en1]
     refine hK (up,q.2,n - 1) q.1 w ⟨⟨by show -1≤n - 1;omega,by show n - 1 < (ws.length:Int);omega⟩,hle.trans hx,k2.2.len (by rw [hle,setRt_len]),k2.1.mono (by show _≤B+5 * ((ws.length:Int) - 1 - (n - 1));omega),?_⟩ h.fin (by show (n - 1+1).toNat < _;omega)
     show _=hangL q.1 up q.2 (ws.take (n - 1+1).toNat).reverse
     rw [en2];exact he
   ·refine w_drw h fun w h=>w_deref (w_ld h rfl (w_ix (s:=s) h hu (rdL h hu ?_)))
    refine w_ite (fun c2=>?_) fun c2=>?_
    ·have c2:Tree.lt x up=wa:=by simpa using c2
     refine w_ite (fun c3=>?_) fun c3=>?_
     ·have c3:wa≠-1:=by simpa using c3
      exact ⟨by rw [Bool.eq_iff_iff];simp [c2,c3],h⟩
     ·have c3:wa=-1:=by simpa using c3
      refine w_deref (w_deref (w_ld h rfl (w_ld h rfl (w_ix (s:=s) h hj (w_ix (s:=s) h hu (rdK h hj (rdK h hu ?_)))))))
      refine w_call (comp_tri (keyL x j) (keyL x up)) h fun r w h=>?_
      obtain ⟨hr,h⟩:=h.purP
      refine ⟨?_,h.fin⟩
      rw [Bool.eq_iff_iff,decide_eq_true_eq,decide_eq_true_eq,hr,kc_lt]
      simp [c2,c3]
    ·have c2:Tree.lt x up≠wa:=by simpa using c2
     exact ⟨by rw [Bool.eq_iff_iff];simp [c2],h⟩
  ·have c:¬ n ≥ 0:=of_decide_eq_false c
   have en:(n+1).toNat=0:=by omega
   rw [en,List.take_zero,List.reverse_nil,hangL] at he
   rw [he]
   have hr1:IntKind.i64.wrap (j+1)=j+1:=wi (by have:=hj.1;omega) (by have:=hj.2;omega)
   rw [hr1]
   refine w_deref (w_set h rfl fun w h=>?_)
   dsimp only [upd,over] at h
   exact h.fin
theorem drop_tri (t:Nat) (ap:Option Pt) (s:Sl) (tp sz rm:Int) (l:List Nd) (o:Sl) (ws:List Int) (was i:Int) (hw:∀ x∈ws,In l x) (hi:i=-1∨In l i) (B:Int) (hk:Lk l B) (hB:0≤B) (hB2:B+5 * ws.length < 4611686018427387904) (hll:l.length < 4611686018427387904) :
  Tri Tryz.prog N_rbtree_Tree_drop [.lf (.ptr (some ⟨t,0⟩)),.lf (.sl o),.lf (.int .i64 was),.lf (.int .i64 i)] [] ((blk t [.ptr ap,.sl s,.int .i64 tp,.int .i64 sz,.int .i64 rm]^arr s KN l)^rarr o KI ws)
   (fun _=>blk t [.ptr ap,.sl s,.int .i64 ((dropL l was i ws.reverse).2+1),.int .i64 sz,.int .i64 rm]^arr s KN (dropL l was i ws.reverse).1) :=
 tri_0 (call_rbtree_Tree_drop _ o was i) fun w0 S R h=>by
  unfold W_rbtree_Tree_drop
  have h:Own w0 S R w0 (rarr o KI ws^(blk t [.ptr ap,.sl s,.int .i64 tp,.int .i64 sz,.int .i64 rm]^arr s KN l)):=h.le (star_comm _ _)
  have hlen:=(h.rd (s:=o)).2
  have e0:IntKind.i64.wrap (((o.len:Nat):Int) - 1)=(ws.length:Int) - 1:=by rw [hlen];exact wi (by omega) (by omega)
  rw [e0]
  refine w_loopE (fun (_:T_i3) (x:List Nd)=>rarr o KI ws^(blk t [.ptr ap,.sl s,.int .i64 tp,.int .i64 sz,.int .i64 rm]^arr s KN x)) (fun (y:T_i3) (x:List Nd)=>(-1≤y.2.2∧y.2.2 < (ws.length:Int))∧x.length=l.length∧(y.2.1=-1∨In x y.2.1)∧Lk x (B+5 * ((ws.length:Int) - 1 - y.2.2))∧dropL l was i ws.reverse=dropL x y.1 y.2.1 (ws.take (y.2.2+1).toNat).reverse) (fun (y:T_i3) _=>(y.2.2+1).toNat) l h ?_ ?_
  ·refine ⟨⟨by show -1≤(ws.length:Int) - 1;omega,by show (ws.length:Int) - 1 < _;omega⟩,rfl,hi,?_,?_⟩
   ·exact hk.mono (by show B≤B+5 * ((ws.length:Int) - 1 - ((ws.length:Int) - 1));omega)
   ·show dropL l was i ws.reverse=dropL l was i (ws.take (((ws.length:Int) - 1)+1).toNat).reverse
    rw [List.take_of_length_le (by omega)]
  rintro K (⟨wa,j,n⟩:T_i3) x w ⟨⟨n0,n1⟩,hx,hj,hkx,he⟩ h hK
  dsimp only at n0 n1 hx hj hkx he hK ⊢
  refine w_ite (fun c=>?_) fun c=>?_
  ·have c:n ≥ 0:=of_decide_eq_true c
   have hn:n.toNat < ws.length:=by omega
   obtain ⟨up,hup⟩:∃ p,ws[n.toNat]?=some p:=⟨_,at_some hn⟩
   have hu:In x up:=(hw up (List.mem_of_getElem? hup)).len hx
   have en:(n+1).toNat=n.toNat+1:=by omega
   rw [en,take_rev hup,dropL] at he
   refine w_idx (s:=o) h c hn (w_ldE h o n.toNat hup rfl ?_)
   have en1:IntKind.i64.wrap (n - 1)=n - 1:=wi (by omega) (by omega)
   have en2:(n - 1+1).toNat=n.toNat:=by omega
   refine w_deref (w_ld h rfl (w_ix (s:=s) h hu (rdL h hu ?_)))
   refine w_ite (fun c2=>?_) fun c2=>?_
   ·have c2:Tree.lt x up=wa:=by simpa using c2
    rw [if_pos c2] at he
    refine w_deref (w_ld h rfl (w_ix (s:=s) h hu (wrL h hu fun w h=>?_)))
    have k1:=hkx.lt hu hj
    have hu1:In (setLt x up j) up:=hu.len (setLt_len _ _ _)
    have k2:=k1.even (by omega) hu1
    refine w_call (even_tri t ap s tp sz rm (setLt x up j) up hu1 _ k1 (by omega) (by omega)) h fun r w h=>?_
    obtain ⟨hr,h⟩:=h.purP
    have hle:=even_len (setLt x up j) up
    rw [setLt_len] at hle
    generalize evenL (setLt x up j) up=q at *
    rw [hr,en1]
    refine hK (up,q.2,n - 1) q.1 w ⟨⟨by show -1≤n - 1;omega,by show n - 1 < (ws.length:Int);omega⟩,hle.trans hx,.inr (k2.2.len (by rw [hle,setLt_len])),k2.1.mono (by show _≤B+5 * ((ws.length:Int) - 1 - (n - 1));omega),?_⟩ h.fin (by show (n - 1+1).toNat < _;omega)
    show _=dropL q.1 up q.2 (ws.take (n - 1+1).toNat).reverse
    rw [en2];exact he
   ·have c2:Tree.lt x up≠wa:=by simpa using c2
    rw [if_neg c2] at he
    refine w_deref (w_ld h rfl (w_ix (s:=s) h hu (wrR h hu fun w h=>?_)))
    have k1:=hkx.rt hu hj
    have hu1:In (setRt x up j) up:=hu.len (setRt_len _ _ _)
    have k2:=k1.even (by omega) hu1
    refine w_call (even_tri t ap s tp sz rm (setRt x up j) up hu1 _ k1 (by omega) (by omega)) h fun r w h=>?_
    obtain ⟨hr,h⟩:=h.purP
    have hle:=even_len (setRt x up j) up
    rw [setRt_len] at hle
    generalize evenL (setRt x up j) up=q at *
    rw [hr,en1]
    refine hK (up,q.2,n - 1) q.1 w ⟨⟨by show -1≤n - 1;omega,by show n - 1 < (ws.length:Int);omega⟩,hle.trans hx,.inr (k2.2.len (by rw [hle,setRt_len])),k2.1.mono (by show _≤B+5 * ((ws.length:Int) - 1 - (n - 1));omega),?_⟩ h.fin (by show (n - 1+1).toNat < _;omega)
    show _=dropL q.1 up q.2 (ws.take (n - 1+1).toNat).reverse
    rw [en2];exact he
  ·have c:¬ n ≥ 0:=of_decide_eq_false c
   have en:(n+1).toNat=0:=by omega
   rw [en,List.take_zero,List.reverse_nil,dropL] at he
   rw [he]
   have hr1:IntKind.i64.wrap (j+1)=j+1:=by
    rcases hj with hj | hj
    ·exact wi (by omega) (by omega)
    ·exact wi (by have:=hj.1;omega) (by have:=hj.2;omega)
   rw [hr1]
   refine w_deref (w_set h rfl fun w h=>?_)
   dsimp only [upd,over] at h
   exact h.fin
end TreeA

end Go.X
