/- Contracts and plain facts: ArithC Conf Delays Board BoardLaws RefBoard. -/
import Derived.Test.YtkideobegadadaaGreatB0
import Derived.Test.YtkideobegadadaaGreatK
import Derived.Test.YtkideobegadadaaGreatF0
import Derived.Test.YtkideobegadadaaGreatF1
import Derived.Test.YtkideobegadadaaGreatF2
set_option linter.unusedVariables false
set_option linter.unusedSimpArgs false
set_option linter.unusedSectionVars false
namespace Go.X
open Go.Proofs
namespace ArithC
open Arith
theorem add64_tri (a b:Int) (ha:U a) (hb:U b):Tri Tryz.prog N_math_bits_Add64 [.lf (.int .u64 a),.lf (.int .u64 b),.lf (.int .u64 (0:Int))] [.lf (.int .u64),.lf (.int .u64)] emp (fun r=>pur (r=((a+b) % 18446744073709551616,(a+b) / 18446744073709551616)) emp) :=
 tri_0 (call_math_bits_Add64 a b 0) fun w0 S R h=>by
  unfold W_math_bits_Add64
  refine ⟨⟨⟨ha.1,hb.1⟩,by omega,by omega⟩,?_⟩
  rw [show a+b+(0:Int)=a+b by omega]
  exact Own.retP rfl h.fin
theorem satadd_tri (a b:Int) (ha:U a) (hb:U b):Tri Tryz.prog N_sat_Add [.lf (.int .u64 a),.lf (.int .u64 b)] [.lf (.int .u64)] emp (fun r=>pur (r=addI a b) emp) :=
 tri_0 (call_sat_Add a b) fun w0 S R h=>by
  unfold W_sat_Add
  refine w_call (add64_tri a b ha hb) h fun r w h=>?_
  obtain ⟨hr,h⟩:=h.purP
  rw [hr]
  unfold U at ha hb
  refine w_ite (fun c=>?_) fun c=>?_
  ·have c:(a+b) / 18446744073709551616 > 0:=by simpa using c
   exact Own.retP (by unfold addI;rw [if_neg (by omega)]) h.fin
  ·have c:¬ (a+b) / 18446744073709551616 > 0:=by simpa using c
   exact Own.retP (by unfold addI;rw [if_pos (by omega)];show (a+b) % 18446744073709551616=_;omega) h.fin
theorem rsub_eq {a b:Int} (ha:U a) (hb:U b):IntKind.u64.wrap (a - (if b < a then b else a))=subI a b:=by
 unfold U subI at *
 split
 ·rw [if_neg (by omega),wu (by omega) (by omega)]
 ·rw [wu (by omega) (by omega)];split<;>omega
theorem satsub_tri (a b:Int) (ha:U a) (hb:U b):Tri Tryz.prog N_sat_Sub [.lf (.int .u64 a),.lf (.int .u64 b)] [.lf (.int .u64)] emp (fun r=>pur (r=subI a b) emp) :=
 tri_0 (call_sat_Sub a b) fun w0 S R h=>by
  unfold W_sat_Sub
  exact Own.retP (rsub_eq ha hb) h.fin
theorem radd_tri (a b:Int) (ha:U a) (hb:U b):Tri Tryz.prog N_canterref01_Add [.lf (.int .u64 a),.lf (.int .u64 b)] [.lf (.int .u64)] emp (fun r=>pur (r=addI a b) emp) :=
 tri_0 (call_canterref01_Add a b) fun w0 S R h=>by
  unfold W_canterref01_Add
  unfold U at ha hb
  rw [wu (n:=18446744073709551615 - b) (by omega) (by omega)]
  refine w_ite (fun c=>?_) fun c=>?_
  ·have c:a > 18446744073709551615 - b:=by simpa using c
   exact Own.retP (by unfold addI;rw [if_neg (by omega)]) h.fin
  ·have c:¬ a > 18446744073709551615 - b:=by simpa using c
   exact Own.retP (by unfold addI;rw [if_pos (by omega),wu (by omega) (by omega)]) h.fin
theorem rsub_tri (a b:Int) (ha:U a) (hb:U b):Tri Tryz.prog N_canterref01_Sub [.lf (.int .u64 a),.lf (.int .u64 b)] [.lf (.int .u64)] emp (fun r=>pur (r=subI a b) emp) :=
 tri_0 (call_canterref01_Sub a b) fun w0 S R h=>by
  unfold W_canterref01_Sub
  unfold U at ha hb
  refine w_ite (fun c=>?_) fun c=>?_
  ·have c:a < b:=by simpa using c
   exact Own.retP (by unfold subI;rw [if_pos (by omega)]) h.fin
  ·have c:¬ a < b:=by simpa using c
   exact Own.retP (by unfold subI;rw [if_neg (by omega),wu (by omega) (by omega)]) h.fin
theorem rmul_tri (a b : Int) (ha : U a) (hb : U b) : Tri Tryz.prog N_canterref01_Mul [.lf (.int .u64 a), .lf (.int .u64 b)] [.lf (.int .u64)] emp (fun r => pur (r = mulI a b) emp) :=
  tri_0 (call_canterref01_Mul a b) fun w0 S R h => by
    unfold W_canterref01_Mul
    have hn := Int.mul_nonneg ha.1 hb.1
    unfold U at ha hb
    refine w_ite (fun c => ?_) fun c => ?_
    · have c : b > 0 := by simpa using c
      refine ⟨by show b ≠ 0; omega, ?_⟩
      have e : IntKind.u64.wrap ((18446744073709551615 : Int).tdiv b) = 18446744073709551615 / b := by
        rw [Int.tdiv_eq_ediv_of_nonneg (by decide)]
        have h1 : 18446744073709551615 / b ≤ 18446744073709551615 := Int.ediv_le_self _ (by decide)
        exact wu (Int.ediv_nonneg (by decide) (by omega)) (by omega)
      rw [e]
      have key : a ≤ 18446744073709551615 / b ↔ a * b ≤ 18446744073709551615 := Int.le_ediv_iff_mul_le c
      refine w_ite (fun c => ?_) fun c => ?_
      · have c : a > 18446744073709551615 / b := by simpa using c
        exact Own.retP (by unfold mulI; rw [if_neg (by have : ¬ a ≤ 18446744073709551615 / b := by omega
                                                       rw [key] at this; omega)]) h.fin
      · have c : ¬ a > 18446744073709551615 / b := by simpa using c
        have := key.1 (by omega)
        exact Own.retP (by unfold mulI; rw [if_pos (by omega), wu hn (by omega)]) h.fin
    · have c : ¬ b > 0 := by simpa using c
      have : b = 0 := by omega
      subst this
      exact Own.retP (by unfold mulI; simp [wm]) h.fin
theorem mm (x:Int):x % 4294967296 % 18446744073709551616=x % 4294967296:=by omega
theorem mul_hi {x1 x0 y1 y0:Int} (h1:0≤x1∧x1 < 4294967296) (h0:0≤x0∧x0 < 4294967296) (g1:0≤y1∧y1 < 4294967296) (g0:0≤y0∧y0 < 4294967296) :
  (0≤x1 * y1∧x1 * y1≤18446744065119617025)∧(0≤x1 * y0∧x1 * y0≤18446744065119617025)∧(0≤x0 * y1∧x0 * y1≤18446744065119617025)∧(0≤x0 * y0∧x0 * y0≤18446744065119617025):=by
 have k:∀ {a b:Int},(0≤a∧a < 4294967296)→(0≤b∧b < 4294967296)→0≤a * b∧a * b≤18446744065119617025:=fun {a b} ha hb =>
  ⟨Int.mul_nonneg ha.1 hb.1,by
   have:=Int.mul_le_mul (show a≤4294967295 by omega) (show b≤4294967295 by omega) hb.1 (by omega)
   omega⟩
 exact ⟨k h1 g1,k h1 g0,k h0 g1,k h0 g0⟩
theorem mul_split (x y:Int):x * y=(x / 4294967296 * (y / 4294967296)) * 18446744073709551616+(x / 4294967296 * (y % 4294967296)+x % 4294967296 * (y / 4294967296)) * 4294967296+x % 4294967296 * (y % 4294967296):=by
 have hx:x=x / 4294967296 * 4294967296+x % 4294967296:=by omega
 have hy:y=y / 4294967296 * 4294967296+y % 4294967296:=by omega
 obtain ⟨a,ha⟩:∃ a,x / 4294967296=a:=⟨_,rfl⟩
 obtain ⟨b,hb⟩:∃ a,x % 4294967296=a:=⟨_,rfl⟩
 obtain ⟨c,hc⟩:∃ a,y / 4294967296=a:=⟨_,rfl⟩
 obtain ⟨d,hd⟩:∃ a,y % 4294967296=a:=⟨_,rfl⟩
 rw [ha,hb] at hx
 rw [hc,hd] at hy
 rw [ha,hb,hc,hd,hx,hy]
 simp only [Int.add_mul,Int.mul_add]
 have e1:a * 4294967296 * (c * 4294967296)=a * c * 18446744073709551616:=by
  rw [Int.mul_assoc,Int.mul_left_comm 4294967296,← Int.mul_assoc];rfl
 have e2:a * 4294967296 * d=a * d * 4294967296:=by rw [Int.mul_assoc,Int.mul_comm 4294967296,← Int.mul_assoc]
 have e3:b * (c * 4294967296)=b * c * 4294967296:=by rw [← Int.mul_assoc]
 omega
theorem mul64_tri (a b:Int) (ha:U a) (hb:U b):Tri Tryz.prog N_math_bits_Mul64 [.lf (.int .u64 a),.lf (.int .u64 b)] [.lf (.int .u64),.lf (.int .u64)] emp (fun r=>pur (r=(a * b / 18446744073709551616,a * b % 18446744073709551616)) emp) :=
 tri_0 (call_math_bits_Mul64 a b) fun w0 S R h=>by
  unfold W_math_bits_Mul64
  refine ⟨by decide,by decide,by decide,by decide,by decide,?_⟩
  refine Own.retP ?_ h.fin
  have k:=mul_hi (x1:=a / 4294967296) (x0:=a % 4294967296) (y1:=b / 4294967296) (y0:=b % 4294967296) (by unfold U at ha;omega) (by omega) (by unfold U at hb;omega) (by omega)
  have hs:=mul_split a b
  simp only [fdiv32,andm,wm,mm]
  generalize a * b=z at *
  generalize a / 4294967296 * (b / 4294967296)=p11 at *
  generalize a / 4294967296 * (b % 4294967296)=p10 at *
  generalize a % 4294967296 * (b / 4294967296)=p01 at *
  generalize a % 4294967296 * (b % 4294967296)=p00 at *
  refine Prod.ext ?_ rfl
  show _=z / 18446744073709551616
  omega
theorem wide_tri (a b:Int) (ha:U a) (hb:U b):Tri Tryz.prog N_canterref01_Wide [.lf (.int .u64 a),.lf (.int .u64 b)] [.lf (.int .u64),.lf (.int .u64)] emp (fun r=>pur (r=(a * b / 18446744073709551616,a * b % 18446744073709551616)) emp) :=
 tri_0 (call_canterref01_Wide a b) fun w0 S R h=>by
  unfold W_canterref01_Wide
  refine ⟨by decide,by decide,by decide,by decide,by decide,by decide,by decide,?_⟩
  refine Own.retP ?_ h.fin
  have k:=mul_hi (x1:=a / 4294967296) (x0:=a % 4294967296) (y1:=b / 4294967296) (y0:=b % 4294967296) (by unfold U at ha;omega) (by omega) (by unfold U at hb;omega) (by omega)
  have hs:=mul_split a b
  have sh:∀ q:Int,q * 2^min (32:Int).toNat IntKind.u64.bits=q * 4294967296:=fun q=>rfl
  simp only [fdiv32,andm,sh]
  generalize a * b=z at *
  simp only [wm,mm]
  generalize a / 4294967296 * (b / 4294967296)=p11 at *
  generalize a / 4294967296 * (b % 4294967296)=p10 at *
  generalize a % 4294967296 * (b / 4294967296)=p01 at *
  generalize a % 4294967296 * (b % 4294967296)=p00 at *
  refine Prod.ext ?_ ?_
  ·show _=z / 18446744073709551616
   omega
  ·show _=z % 18446744073709551616
   obtain ⟨mid,hmid⟩:∃ mid,(p00 % 18446744073709551616 / 4294967296+p10 % 18446744073709551616 % 4294967296) % 18446744073709551616+p01 % 18446744073709551616 % 4294967296=mid:=⟨_,rfl⟩
   rw [hmid]
   have em:mid % 18446744073709551616 * 4294967296 % 18446744073709551616=mid % 4294967296 * (2^32:Nat):=by
    show _=_ * (4294967296:Int)
    omega
   rw [or1 32 (mid % 4294967296) (by omega) em (by unfold U;omega) (by omega) (by show _ < (4294967296:Int);omega) (by unfold U;omega)]
   omega
def divI (h l c:Int):Int × Int:=if c=0 then (0,1) else if h ≥ c then (0,3) else ((h * 18446744073709551616+l) / c,0)
theorem p63 {q:Int} {i:Nat} (hi:i < 64) (h:q < 2^i):q < 9223372036854775808:=by
 have k:∀ i:Nat,i < 64→(2:Int)^i≤9223372036854775808:=by decide +kernel
 have:=k i hi
 omega
theorem div_tri (h l c:Int) (hh:U h) (hl:U l) (hc:U c):Tri Tryz.prog N_wide_Div [.lf (.int .u64 h),.lf (.int .u64 l),.lf (.int .u64 c)] [.lf (.int .u64),.lf (.int .i64)] emp (fun r=>pur (r=divI h l c) emp) :=
 tri_0 (call_wide_Div h l c) fun w0 S R hO=>by
  unfold W_wide_Div
  refine w_ite (fun c1=>?_) fun c1=>?_
  ·have c1:c=0:=by simpa using c1
   exact Own.retP (by unfold divI;rw [if_pos c1]) hO.fin
  have c1:¬ c=0:=by simpa using c1
  refine w_ite (fun c2=>?_) fun c2=>?_
  ·have c2:h ≥ c:=by simpa using c2
   exact Own.retP (by unfold divI;rw [if_neg c1,if_pos c2]) hO.fin
  have c2:¬ h ≥ c:=by simpa using c2
  have e0:divI h l c=((h * 18446744073709551616+l) / c,0):=by unfold divI;rw [if_neg c1,if_neg c2]
  rw [e0]
  refine w_loop (fun (_:T_u3i)=>emp) (fun (y:T_u3i)=>(0≤(y.2.2.2:Int))∧Dv (h * 18446744073709551616+l) c y.2.2.1 y.1 y.2.1 y.2.2.2.toNat) (fun (y:T_u3i)=>64 - y.2.2.2.toNat) hO ⟨Int.le_refl _,Dv.start hl hh.1 (by omega)⟩ ?_
  rintro (⟨r,l,q,i⟩:Int × Int × Int × Int) w ⟨h0,d⟩ hO
  dsimp only at h0 d hO ⊢
  refine w_ite (fun c3=>?_) fun c3=>?_
  ·have c3:i=64:=by simpa using c3
   rw [c3] at d
   exact Own.retP (by rw [d.last (by unfold U at hc;omega)]) hO.fin
  have c3:¬ i=64:=by simpa using c3
  have il:=d.il
  have hi:i.toNat < 64:=by omega
  obtain ⟨n1,n2⟩:=d.next hi
  have q1:=p63 hi d.ql
  have q0:=d.q0
  have r0:=d.r0
  have rc:=d.rc
  have ul:=d.ul
  have ei:(i+1).toNat=i.toNat+1:=by omega
  refine ⟨by decide,by decide,by decide,by decide,by decide,?_⟩
  rw [or_bit ul,or_one,shl1,shl1,fdiv63,wi (n:=i+1) (by omega) (by omega)]
  unfold U at hc ul
  refine w_ite (fun c4=>?_) fun c4=>?_
  ·have c4:r / 9223372036854775808=0∧2 * r % 18446744073709551616+l / 9223372036854775808 < c:=by simpa using c4
   have n:=n1 (by omega)
   refine ⟨⟨⟨by show 0≤i+1;omega,?_⟩,hO⟩,by show 64 - (i+1).toNat < 64 - i.toNat;omega⟩
   show Dv _ c (2 * q % 18446744073709551616) (2 * r % 18446744073709551616+l / 9223372036854775808) (2 * l % 18446744073709551616) (i+1).toNat
   rw [ei,show 2 * q % 18446744073709551616=2 * q by omega,show 2 * r % 18446744073709551616=2 * r by omega]
   exact n
  ·have c4:¬ (r / 9223372036854775808=0∧2 * r % 18446744073709551616+l / 9223372036854775808 < c):=fun hh=>by simp [hh] at c4
   have n:=n2 (by omega)
   refine ⟨⟨⟨by show 0≤i+1;omega,?_⟩,hO⟩,by show 64 - (i+1).toNat < 64 - i.toNat;omega⟩
   show Dv _ c (2 * q % 18446744073709551616+1) (IntKind.u64.wrap (2 * r % 18446744073709551616+l / 9223372036854775808 - c)) (2 * l % 18446744073709551616) (i+1).toNat
   rw [ei,wm,show 2 * q % 18446744073709551616=2 * q by omega,show (2 * r % 18446744073709551616+l / 9223372036854775808 - c) % 18446744073709551616=2 * r+l / 9223372036854775808 - c by omega]
   exact n
theorem rdiv_tri (h l c:Int) (hh:U h) (hl:U l) (hc:U c):Tri Tryz.prog N_canterref01_Div [.lf (.int .u64 h),.lf (.int .u64 l),.lf (.int .u64 c)] [.lf (.int .u64),.lf (.int .i64)] emp (fun r=>pur (r=divI h l c) emp) :=
 tri_0 (call_canterref01_Div h l c) fun w0 S R hO=>by
  unfold W_canterref01_Div
  refine w_ite (fun c1=>?_) fun c1=>?_
  ·have c1:c=0:=by simpa using c1
   exact Own.retP (by unfold divI;rw [if_pos c1]) hO.fin
  have c1:¬ c=0:=by simpa using c1
  refine w_ite (fun c2=>?_) fun c2=>?_
  ·have c2:h ≥ c:=by simpa using c2
   exact Own.retP (by unfold divI;rw [if_neg c1,if_pos c2]) hO.fin
  have c2:¬ h ≥ c:=by simpa using c2
  have e0:divI h l c=((h * 18446744073709551616+l) / c,0):=by unfold divI;rw [if_neg c1,if_neg c2]
  rw [e0]
  refine w_loop (fun (_:T_u3i)=>emp) (fun (y:T_u3i)=>(0≤(y.2.2.2:Int))∧Dv (h * 18446744073709551616+l) c y.2.1 y.2.2.1 y.1 y.2.2.2.toNat) (fun (y:T_u3i)=>64 - y.2.2.2.toNat) hO ⟨Int.le_refl _,Dv.start hl hh.1 (by omega)⟩ ?_
  rintro (⟨l,q,r,i⟩:Int × Int × Int × Int) w ⟨h0,d⟩ hO
  dsimp only at h0 d hO ⊢
  have il:=d.il
  refine w_ite (fun c3=>?_) fun c3=>?_
  ·have c3:i < 64:=by simpa using c3
   have hi:i.toNat < 64:=by omega
   obtain ⟨n1,n2⟩:=d.next hi
   have q1:=p63 hi d.ql
   have q0:=d.q0
   have r0:=d.r0
   have rc:=d.rc
   have ul:=d.ul
   have ei:(i+1).toNat=i.toNat+1:=by omega
   refine ⟨by decide,by decide,by decide,by decide,by decide,?_⟩
   rw [or_bit ul,or_one,shl1,shl1,fdiv63,wi (n:=i+1) (by omega) (by omega)]
   unfold U at hc ul
   refine w_ite (fun c4=>?_) fun c4=>?_
   ·have c4:r / 9223372036854775808=1∨2 * r % 18446744073709551616+l / 9223372036854775808 ≥ c:=by simpa using c4
    have n:=n2 (by omega)
    refine ⟨⟨⟨by show 0≤i+1;omega,?_⟩,hO⟩,by show 64 - (i+1).toNat < 64 - i.toNat;omega⟩
    show Dv _ c (2 * q % 18446744073709551616+1) (IntKind.u64.wrap (2 * r % 18446744073709551616+l / 9223372036854775808 - c)) (2 * l % 18446744073709551616) (i+1).toNat
    rw [ei,wm,show 2 * q % 18446744073709551616=2 * q by omega,show (2 * r % 18446744073709551616+l / 9223372036854775808 - c) % 18446744073709551616=2 * r+l / 9223372036854775808 - c by omega]
    exact n
   ·have c4:¬ (r / 9223372036854775808=1∨2 * r % 18446744073709551616+l / 9223372036854775808 ≥ c):=fun hh=>by
     rcases hh with hh | hh<;>simp [hh] at c4
    have n:=n1 (by omega)
    refine ⟨⟨⟨by show 0≤i+1;omega,?_⟩,hO⟩,by show 64 - (i+1).toNat < 64 - i.toNat;omega⟩
    show Dv _ c (2 * q % 18446744073709551616) (2 * r % 18446744073709551616+l / 9223372036854775808) (2 * l % 18446744073709551616) (i+1).toNat
    rw [ei,show 2 * q % 18446744073709551616=2 * q by omega,show 2 * r % 18446744073709551616=2 * r by omega]
    exact n
  ·have c3:¬ i < 64:=by simpa using c3
   rw [show i.toNat=64 by omega] at d
   exact Own.retP (by rw [d.last (by unfold U at hc;omega)]) hO.fin
theorem md_eq {a b c:Int} (ha:U a) (hb:U b) (hc:U c) (h:a * b≠0):mdI a b c=if (divI (a * b / 18446744073709551616) (a * b % 18446744073709551616) c).2≠0 then 18446744073709551615 else (divI (a * b / 18446744073709551616) (a * b % 18446744073709551616) c).1:=by
 have hn:=Int.mul_nonneg ha.1 hb.1
 unfold mdI divI
 rw [if_neg h]
 unfold U at hc
 generalize a * b=z at *
 by_cases c1:c=0
 ·rw [if_pos c1,if_neg (by omega)];rfl
 ·rw [if_neg c1]
  by_cases c2:z / 18446744073709551616 ≥ c
  ·rw [if_pos c2,if_neg (by omega)];rfl
  ·rw [if_neg c2,if_pos (by omega),show z / 18446744073709551616 * 18446744073709551616+z % 18446744073709551616=z by omega];rfl
theorem U_hi {a b:Int} (ha:U a) (hb:U b):U (a * b / 18446744073709551616):=by
 have hn:=Int.mul_nonneg ha.1 hb.1
 refine ⟨by omega,Int.ediv_lt_of_lt_mul (by decide) ?_⟩
 unfold U at ha hb
 have:=Int.mul_le_mul (show a≤18446744073709551615 by omega) (show b≤18446744073709551615 by omega) hb.1 (by omega)
 omega
theorem U_lo (a:Int):U (a % 18446744073709551616):=by unfold U;omega
theorem wmul_tri (a b:Int) (ha:U a) (hb:U b):Tri Tryz.prog N_wide_Mul [.lf (.int .u64 a),.lf (.int .u64 b)] [.lf (.int .u64),.lf (.int .u64)] emp (fun r=>pur (r=(a * b / 18446744073709551616,a * b % 18446744073709551616)) emp) :=
 tri_0 (call_wide_Mul a b) fun w0 S R h=>by
  unfold W_wide_Mul
  refine w_call (mul64_tri a b ha hb) h fun r w h=>?_
  obtain ⟨hr,h⟩:=h.purP
  rw [hr]
  exact Own.retP rfl h.fin
theorem zero_of {z:Int} (h:((z / 18446744073709551616 == (0:Int)) && (z % 18446744073709551616 == (0:Int)))=true):z=0:=by
 simp at h;omega
theorem zero_not {z:Int} (h:((z / 18446744073709551616 == (0:Int)) && (z % 18446744073709551616 == (0:Int)))=false):z≠0:=by
 rintro rfl;simp at h
theorem md_tri (a b c:Int) (ha:U a) (hb:U b) (hc:U c):Tri Tryz.prog N_wide_MulDiv [.lf (.int .u64 a),.lf (.int .u64 b),.lf (.int .u64 c)] [.lf (.int .u64)] emp (fun r=>pur (r=mdI a b c) emp) :=
 tri_0 (call_wide_MulDiv a b c) fun w0 S R h=>by
  unfold W_wide_MulDiv
  refine w_call (wmul_tri a b ha hb) h fun r w h=>?_
  obtain ⟨hr,h⟩:=h.purP
  rw [hr]
  refine w_ite (fun c1=>?_) fun c1=>?_
  ·exact Own.retP (by unfold mdI;rw [if_pos (zero_of c1)]) h.fin
  have hz:=zero_not c1
  refine w_call (div_tri _ _ c (U_hi ha hb) (U_lo _) hc) h fun r w h=>?_
  obtain ⟨hr,h⟩:=h.purP
  rw [hr]
  have hm:=md_eq ha hb hc hz
  refine w_ite (fun c2=>?_) fun c2=>?_
  ·exact Own.retP (by rw [hm,if_pos (by simpa using c2)]) h.fin
  ·exact Own.retP (by rw [hm,if_neg (by simpa using c2)]) h.fin
theorem rmd_tri (a b c:Int) (ha:U a) (hb:U b) (hc:U c):Tri Tryz.prog N_canterref01_MulDiv [.lf (.int .u64 a),.lf (.int .u64 b),.lf (.int .u64 c)] [.lf (.int .u64)] emp (fun r=>pur (r=mdI a b c) emp) :=
 tri_0 (call_canterref01_MulDiv a b c) fun w0 S R h=>by
  unfold W_canterref01_MulDiv
  refine w_call (wide_tri a b ha hb) h fun r w h=>?_
  obtain ⟨hr,h⟩:=h.purP
  rw [hr]
  refine w_ite (fun c1=>?_) fun c1=>?_
  ·exact Own.retP (by unfold mdI;rw [if_pos (zero_of c1)]) h.fin
  have hz:=zero_not c1
  refine w_call (rdiv_tri _ _ c (U_hi ha hb) (U_lo _) hc) h fun r w h=>?_
  obtain ⟨hr,h⟩:=h.purP
  rw [hr]
  have hm:=md_eq ha hb hc hz
  refine w_ite (fun c2=>?_) fun c2=>?_
  ·exact Own.retP (by rw [hm,if_pos (by simpa using c2)]) h.fin
  ·exact Own.retP (by rw [hm,if_neg (by simpa using c2)]) h.fin
theorem satmul_tri (a b:Int) (ha:U a) (hb:U b):Tri Tryz.prog N_sat_Mul [.lf (.int .u64 a),.lf (.int .u64 b)] [.lf (.int .u64)] emp (fun r=>pur (r=mulI a b) emp) :=
 tri_0 (call_sat_Mul a b) fun w0 S R h=>by
  unfold W_sat_Mul
  refine w_call (mul64_tri a b ha hb) h fun r w h=>?_
  obtain ⟨hr,h⟩:=h.purP
  rw [hr]
  have hn:=Int.mul_nonneg ha.1 hb.1
  refine w_ite (fun c=>?_) fun c=>?_
  ·have c:a * b / 18446744073709551616 > 0:=by simpa using c
   exact Own.retP (by unfold mulI;rw [if_neg (by omega)]) h.fin
  ·have c:¬ a * b / 18446744073709551616 > 0:=by simpa using c
   exact Own.retP (by unfold mulI;rw [if_pos (by omega)];show a * b % 18446744073709551616=_;omega) h.fin
end ArithC

namespace Conf
open Arith
abbrev Cf:=Int × Int × Int × Int × Int × Int × Bool × Int × Int
abbrev KC:Ks:=[.int .i64,.int .i64,.int .i64,.int .i64,.int .u64,.int .u64,.bool,.int .i64,.int .i64]
abbrev cQ (c:Cf):Int:=c.1
abbrev cF (c:Cf):Int:=c.2.1
abbrev cL (c:Cf):Int:=c.2.2.1
abbrev cW (c:Cf):Int:=c.2.2.2.1
abbrev cH (c:Cf):Int:=c.2.2.2.2.1
abbrev cR (c:Cf):Int:=c.2.2.2.2.2.1
abbrev cD (c:Cf):Bool:=c.2.2.2.2.2.2.1
abbrev cCap (c:Cf):Int:=c.2.2.2.2.2.2.2.1
abbrev cMss (c:Cf):Int:=c.2.2.2.2.2.2.2.2
def may (c:Cf):Bool:=decide (100≤cQ c∧cQ c≤65536) && (decide (100≤cF c∧cF c≤65536) && (decide (1≤cL c∧cL c≤512) && (decide (1≤cW c∧cW c≤512) && (decide (cH c≤4611686018427387904) && (decide (1≤cCap c∧cCap c≤1073741824) && decide (100≤cMss c∧cMss c≤9000))))))
structure OkC (c:Cf):Prop where
 q:100≤cQ c∧cQ c≤65536
 f:100≤cF c∧cF c≤65536
 l:1≤cL c∧cL c≤512
 w:1≤cW c∧cW c≤512
 h:0≤cH c∧cH c≤4611686018427387904
 r:U (cR c)
 cap:1≤cCap c∧cCap c≤1073741824
 mss:100≤cMss c∧cMss c≤9000
theorem may_ok {c:Cf} (h:may c=true) (h0:0≤cH c) (hr:U (cR c)):OkC c:=by
 simp only [may,Bool.and_eq_true,decide_eq_true_eq] at h
 exact ⟨h.1,h.2.1,h.2.2.1,h.2.2.2.1,⟨h0,h.2.2.2.2.1⟩,hr,h.2.2.2.2.2.1,h.2.2.2.2.2.2⟩
abbrev plainC:Cf:=(3000,15000,100,50,10000000000,0,false,100000,1000)
theorem plain_tri:Tri Tryz.prog N_canterref20_Plain [] [.agg KC] emp (fun r=>pur (r=plainC) emp) :=
 tri_0 call_canterref20_Plain fun w0 S R h=>by
  unfold W_canterref20_Plain
  refine w_new h fun n1 w h=>w_setAll h (by rfl) fun w h=>w_ldAll (b:=n1) (x:=plainC) h rfl ?_
  exact Own.retP rfl h.emp'
def configF (d:Cf):Cf:=((if 100≤cQ d∧cQ d≤65536 then cQ d else 3000),(if 100≤cF d∧cF d≤65536 then cF d else 15000),(if 1≤cL d∧cL d≤512 then cL d else 100),(if 1≤cW d∧cW d≤512 then cW d else 50),(if cH d≤4611686018427387904 then cH d else 10000000000),(cR d),(cD d),(if 1≤cCap d∧cCap d≤1073741824 then cCap d else 100000),(if 100≤cMss d∧cMss d≤9000 then cMss d else 1000))
abbrev zC:List Lf:=[.int .i64 0,.int .i64 0,.int .i64 0,.int .i64 0,.int .u64 0,.int .u64 0,.bool false,.int .i64 0,.int .i64 0]
theorem config_tri (d:Cf):Tri Tryz.prog N_canterplay_Config [.agg (Ks.mk KC d)] [.agg KC] emp (fun r=>pur (r=configF d) emp) :=
 tri_0 (call_canterplay_Config d) fun w0 S R h=>by
  unfold W_canterplay_Config
  refine w_new h fun n1 w h=>w_new h fun n2 w h=>w_call plain_tri h fun r w h=>?_
  obtain ⟨hr,h⟩:=h.purP;rw [hr]
  refine w_new h fun n4 w h=>w_setAll h (by rfl) fun w h=>?_
  have h:=h.blkEq (b:=n4) (L':=[.int .i64 3000,.int .i64 15000,.int .i64 100,.int .i64 50,.int .u64 10000000000,.int .u64 0,.bool false,.int .i64 100000,.int .i64 1000]) rfl
  have h:=h.blkEq (b:=n4) (L':=[.int .i64 3000,.int .i64 15000,.int .i64 100,.int .i64 50,.int .u64 10000000000,.int .u64 0,.bool false,.int .i64 100000,.int .i64 1000]) rfl
  have h:Own w0 S R w (blk n1 (Ks.mk KC d)^blk n2 zC^blk n4 [.int .i64 3000,.int .i64 15000,.int .i64 100,.int .i64 50,.int .u64 10000000000,.int .u64 0,.bool false,.int .i64 100000,.int .i64 1000]):=h.fin
  refine w_join h (fun _:Unit=>blk n1 (Ks.mk KC d)^blk n2 zC^blk n4 [.int .i64 (if 100≤cQ d∧cQ d≤65536 then cQ d else 3000),.int .i64 15000,.int .i64 100,.int .i64 50,.int .u64 10000000000,.int .u64 0,.bool false,.int .i64 100000,.int .i64 1000]) (fun _=>True) ?_ ?_
  rotate_left
  ·refine w_join h (fun _:Bool=>blk n1 (Ks.mk KC d)^blk n2 zC^blk n4 [.int .i64 3000,.int .i64 15000,.int .i64 100,.int .i64 50,.int .u64 10000000000,.int .u64 0,.bool false,.int .i64 100000,.int .i64 1000]) (fun y:Bool=>y=decide (100≤cQ d∧cQ d≤65536)) (fun y w hy h=>?_) ?_
   ·rw [hy]
    refine w_ite (fun c=>?_) fun c=>?_
    ·have c:=of_decide_eq_true c
     refine w_ld h rfl (w_setTo h n4 [.int .i64 (if 100≤cQ d∧cQ d≤65536 then cQ d else 3000),.int .i64 15000,.int .i64 100,.int .i64 50,.int .u64 10000000000,.int .u64 0,.bool false,.int .i64 100000,.int .i64 1000] rfl rfl (by rw [if_pos c];rfl) fun w h=>⟨trivial,h.fin⟩)
    ·have c:=of_decide_eq_false c
     have h:=h.blkEq (b:=n4) (L':=[.int .i64 (if 100≤cQ d∧cQ d≤65536 then cQ d else 3000),.int .i64 15000,.int .i64 100,.int .i64 50,.int .u64 10000000000,.int .u64 0,.bool false,.int .i64 100000,.int .i64 1000]) (by rw [if_neg c])
     exact ⟨trivial,h.fin⟩
   ·refine w_ld h rfl (w_ite (fun c=>w_ld h rfl ⟨?_,h.fin⟩) fun c=>⟨?_,h.fin⟩)
    ·have c:cQ d ≥ 100:=by simpa using c
     show decide (cQ d≤65536)=_
     rw [decide_eq_decide];exact ⟨fun x=>⟨c,x⟩,fun x=>x.2⟩
    ·have c:¬ cQ d ≥ 100:=by simpa using c
     exact (decide_eq_false fun x=>c x.1).symm
  rintro - w - h
  refine w_join h (fun _:Unit=>blk n1 (Ks.mk KC d)^blk n2 zC^blk n4 [.int .i64 (if 100≤cQ d∧cQ d≤65536 then cQ d else 3000),.int .i64 (if 100≤cF d∧cF d≤65536 then cF d else 15000),.int .i64 100,.int .i64 50,.int .u64 10000000000,.int .u64 0,.bool false,.int .i64 100000,.int .i64 1000]) (fun _=>True) ?_ ?_
  rotate_left
  ·refine w_join h (fun _:Bool=>blk n1 (Ks.mk KC d)^blk n2 zC^blk n4 [.int .i64 (if 100≤cQ d∧cQ d≤65536 then cQ d else 3000),.int .i64 15000,.int .i64 100,.int .i64 50,.int .u64 10000000000,.int .u64 0,.bool false,.int .i64 100000,.int .i64 1000]) (fun y:Bool=>y=decide (100≤cF d∧cF d≤65536)) (fun y w hy h=>?_) ?_
   ·rw [hy]
    refine w_ite (fun c=>?_) fun c=>?_
    ·have c:=of_decide_eq_true c
     refine w_ld h rfl (w_setTo h n4 [.int .i64 (if 100≤cQ d∧cQ d≤65536 then cQ d else 3000),.int .i64 (if 100≤cF d∧cF d≤65536 then cF d else 15000),.int .i64 100,.int .i64 50,.int .u64 10000000000,.int .u64 0,.bool false,.int .i64 100000,.int .i64 1000] rfl rfl (by rw [if_pos c];rfl) fun w h=>⟨trivial,h.fin⟩)
    ·have c:=of_decide_eq_false c
     have h:=h.blkEq (b:=n4) (L':=[.int .i64 (if 100≤cQ d∧cQ d≤65536 then cQ d else 3000),.int .i64 (if 100≤cF d∧cF d≤65536 then cF d else 15000),.int .i64 100,.int .i64 50,.int .u64 10000000000,.int .u64 0,.bool false,.int .i64 100000,.int .i64 1000]) (by rw [if_neg c])
     exact ⟨trivial,h.fin⟩
   ·refine w_ld h rfl (w_ite (fun c=>w_ld h rfl ⟨?_,h.fin⟩) fun c=>⟨?_,h.fin⟩)
    ·have c:cF d ≥ 100:=by simpa using c
     show decide (cF d≤65536)=_
     rw [decide_eq_decide];exact ⟨fun x=>⟨c,x⟩,fun x=>x.2⟩
    ·have c:¬ cF d ≥ 100:=by simpa using c
     exact (decide_eq_false fun x=>c x.1).symm
  rintro - w - h
  refine w_join h (fun _:Unit=>blk n1 (Ks.mk KC d)^blk n2 zC^blk n4 [.int .i64 (if 100≤cQ d∧cQ d≤65536 then cQ d else 3000),.int .i64 (if 100≤cF d∧cF d≤65536 then cF d else 15000),.int .i64 (if 1≤cL d∧cL d≤512 then cL d else 100),.int .i64 50,.int .u64 10000000000,.int .u64 0,.bool false,.int .i64 100000,.int .i64 1000]) (fun _=>True) ?_ ?_
  rotate_left
  ·refine w_join h (fun _:Bool=>blk n1 (Ks.mk KC d)^blk n2 zC^blk n4 [.int .i64 (if 100≤cQ d∧cQ d≤65536 then cQ d else 3000),.int .i64 (if 100≤cF d∧cF d≤65536 then cF d else 15000),.int .i64 100,.int .i64 50,.int .u64 10000000000,.int .u64 0,.bool false,.int .i64 100000,.int .i64 1000]) (fun y:Bool=>y=decide (1≤cL d∧cL d≤512)) (fun y w hy h=>?_) ?_
   ·rw [hy]
    refine w_ite (fun c=>?_) fun c=>?_
    ·have c:=of_decide_eq_true c
     refine w_ld h rfl (w_setTo h n4 [.int .i64 (if 100≤cQ d∧cQ d≤65536 then cQ d else 3000),.int .i64 (if 100≤cF d∧cF d≤65536 then cF d else 15000),.int .i64 (if 1≤cL d∧cL d≤512 then cL d else 100),.int .i64 50,.int .u64 10000000000,.int .u64 0,.bool false,.int .i64 100000,.int .i64 1000] rfl rfl (by rw [if_pos c];rfl) fun w h=>⟨trivial,h.fin⟩)
    ·have c:=of_decide_eq_false c
     have h:=h.blkEq (b:=n4) (L':=[.int .i64 (if 100≤cQ d∧cQ d≤65536 then cQ d else 3000),.int .i64 (if 100≤cF d∧cF d≤65536 then cF d else 15000),.int .i64 (if 1≤cL d∧cL d≤512 then cL d else 100),.int .i64 50,.int .u64 10000000000,.int .u64 0,.bool false,.int .i64 100000,.int .i64 1000]) (by rw [if_neg c])
     exact ⟨trivial,h.fin⟩
   ·refine w_ld h rfl (w_ite (fun c=>w_ld h rfl ⟨?_,h.fin⟩) fun c=>⟨?_,h.fin⟩)
    ·have c:cL d ≥ 1:=by simpa using c
     show decide (cL d≤512)=_
     rw [decide_eq_decide];exact ⟨fun x=>⟨c,x⟩,fun x=>x.2⟩
    ·have c:¬ cL d ≥ 1:=by simpa using c
     exact (decide_eq_false fun x=>c x.1).symm
  rintro - w - h
  refine w_join h (fun _:Unit=>blk n1 (Ks.mk KC d)^blk n2 zC^blk n4 [.int .i64 (if 100≤cQ d∧cQ d≤65536 then cQ d else 3000),.int .i64 (if 100≤cF d∧cF d≤65536 then cF d else 15000),.int .i64 (if 1≤cL d∧cL d≤512 then cL d else 100),.int .i64 (if 1≤cW d∧cW d≤512 then cW d else 50),.int .u64 10000000000,.int .u64 0,.bool false,.int .i64 100000,.int .i64 1000]) (fun _=>True) ?_ ?_
  rotate_left
  ·refine w_join h (fun _:Bool=>blk n1 (Ks.mk KC d)^blk n2 zC^blk n4 [.int .i64 (if 100≤cQ d∧cQ d≤65536 then cQ d else 3000),.int .i64 (if 100≤cF d∧cF d≤65536 then cF d else 15000),.int .i64 (if 1≤cL d∧cL d≤512 then cL d else 100),.int .i64 50,.int .u64 10000000000,.int .u64 0,.bool false,.int .i64 100000,.int .i64 1000]) (fun y:Bool=>y=decide (1≤cW d∧cW d≤512)) (fun y w hy h=>?_) ?_
   ·rw [hy]
    refine w_ite (fun c=>?_) fun c=>?_
    ·have c:=of_decide_eq_true c
     refine w_ld h rfl (w_setTo h n4 [.int .i64 (if 100≤cQ d∧cQ d≤65536 then cQ d else 3000),.int .i64 (if 100≤cF d∧cF d≤65536 then cF d else 15000),.int .i64 (if 1≤cL d∧cL d≤512 then cL d else 100),.int .i64 (if 1≤cW d∧cW d≤512 then cW d else 50),.int .u64 10000000000,.int .u64 0,.bool false,.int .i64 100000,.int .i64 1000] rfl rfl (by rw [if_pos c];rfl) fun w h=>⟨trivial,h.fin⟩)
    ·have c:=of_decide_eq_false c
     have h:=h.blkEq (b:=n4) (L':=[.int .i64 (if 100≤cQ d∧cQ d≤65536 then cQ d else 3000),.int .i64 (if 100≤cF d∧cF d≤65536 then cF d else 15000),.int .i64 (if 1≤cL d∧cL d≤512 then cL d else 100),.int .i64 (if 1≤cW d∧cW d≤512 then cW d else 50),.int .u64 10000000000,.int .u64 0,.bool false,.int .i64 100000,.int .i64 1000]) (by rw [if_neg c])
     exact ⟨trivial,h.fin⟩
   ·refine w_ld h rfl (w_ite (fun c=>w_ld h rfl ⟨?_,h.fin⟩) fun c=>⟨?_,h.fin⟩)
    ·have c:cW d ≥ 1:=by simpa using c
     show decide (cW d≤512)=_
     rw [decide_eq_decide];exact ⟨fun x=>⟨c,x⟩,fun x=>x.2⟩
    ·have c:¬ cW d ≥ 1:=by simpa using c
     exact (decide_eq_false fun x=>c x.1).symm
  rintro - w - h
  refine w_join h (fun _:Unit=>blk n1 (Ks.mk KC d)^blk n2 zC^blk n4 [.int .i64 (if 100≤cQ d∧cQ d≤65536 then cQ d else 3000),.int .i64 (if 100≤cF d∧cF d≤65536 then cF d else 15000),.int .i64 (if 1≤cL d∧cL d≤512 then cL d else 100),.int .i64 (if 1≤cW d∧cW d≤512 then cW d else 50),.int .u64 (if cH d≤4611686018427387904 then cH d else 10000000000),.int .u64 0,.bool false,.int .i64 100000,.int .i64 1000]) (fun _=>True) ?_ ?_
  rotate_left
  ·refine w_ld h rfl (w_ite (fun c=>?_) fun c=>?_)
   ·have c:cH d≤4611686018427387904:=by simpa using c
    refine w_ld h rfl (w_setTo h n4 [.int .i64 (if 100≤cQ d∧cQ d≤65536 then cQ d else 3000),.int .i64 (if 100≤cF d∧cF d≤65536 then cF d else 15000),.int .i64 (if 1≤cL d∧cL d≤512 then cL d else 100),.int .i64 (if 1≤cW d∧cW d≤512 then cW d else 50),.int .u64 (if cH d≤4611686018427387904 then cH d else 10000000000),.int .u64 0,.bool false,.int .i64 100000,.int .i64 1000] rfl rfl (by rw [if_pos c];rfl) fun w h=>⟨trivial,h.fin⟩)
   ·have c:¬ cH d≤4611686018427387904:=by simpa using c
    have h:=h.blkEq (b:=n4) (L':=[.int .i64 (if 100≤cQ d∧cQ d≤65536 then cQ d else 3000),.int .i64 (if 100≤cF d∧cF d≤65536 then cF d else 15000),.int .i64 (if 1≤cL d∧cL d≤512 then cL d else 100),.int .i64 (if 1≤cW d∧cW d≤512 then cW d else 50),.int .u64 (if cH d≤4611686018427387904 then cH d else 10000000000),.int .u64 0,.bool false,.int .i64 100000,.int .i64 1000]) (by rw [if_neg c])
    exact ⟨trivial,h.fin⟩
  rintro - w - h
  refine w_join h (fun _:Unit=>blk n1 (Ks.mk KC d)^blk n2 zC^blk n4 [.int .i64 (if 100≤cQ d∧cQ d≤65536 then cQ d else 3000),.int .i64 (if 100≤cF d∧cF d≤65536 then cF d else 15000),.int .i64 (if 1≤cL d∧cL d≤512 then cL d else 100),.int .i64 (if 1≤cW d∧cW d≤512 then cW d else 50),.int .u64 (if cH d≤4611686018427387904 then cH d else 10000000000),.int .u64 0,.bool false,.int .i64 (if 1≤cCap d∧cCap d≤1073741824 then cCap d else 100000),.int .i64 1000]) (fun _=>True) ?_ ?_
  rotate_left
  ·refine w_join h (fun _:Bool=>blk n1 (Ks.mk KC d)^blk n2 zC^blk n4 [.int .i64 (if 100≤cQ d∧cQ d≤65536 then cQ d else 3000),.int .i64 (if 100≤cF d∧cF d≤65536 then cF d else 15000),.int .i64 (if 1≤cL d∧cL d≤512 then cL d else 100),.int .i64 (if 1≤cW d∧cW d≤512 then cW d else 50),.int .u64 (if cH d≤4611686018427387904 then cH d else 10000000000),.int .u64 0,.bool false,.int .i64 100000,.int .i64 1000]) (fun y:Bool=>y=decide (1≤cCap d∧cCap d≤1073741824)) (fun y w hy h=>?_) ?_
   ·rw [hy]
    refine w_ite (fun c=>?_) fun c=>?_
    ·have c:=of_decide_eq_true c
     refine w_ld h rfl (w_setTo h n4 [.int .i64 (if 100≤cQ d∧cQ d≤65536 then cQ d else 3000),.int .i64 (if 100≤cF d∧cF d≤65536 then cF d else 15000),.int .i64 (if 1≤cL d∧cL d≤512 then cL d else 100),.int .i64 (if 1≤cW d∧cW d≤512 then cW d else 50),.int .u64 (if cH d≤4611686018427387904 then cH d else 10000000000),.int .u64 0,.bool false,.int .i64 (if 1≤cCap d∧cCap d≤1073741824 then cCap d else 100000),.int .i64 1000] rfl rfl (by rw [if_pos c];rfl) fun w h=>⟨trivial,h.fin⟩)
    ·have c:=of_decide_eq_false c
     have h:=h.blkEq (b:=n4) (L':=[.int .i64 (if 100≤cQ d∧cQ d≤65536 then cQ d else 3000),.int .i64 (if 100≤cF d∧cF d≤65536 then cF d else 15000),.int .i64 (if 1≤cL d∧cL d≤512 then cL d else 100),.int .i64 (if 1≤cW d∧cW d≤512 then cW d else 50),.int .u64 (if cH d≤4611686018427387904 then cH d else 10000000000),.int .u64 0,.bool false,.int .i64 (if 1≤cCap d∧cCap d≤1073741824 then cCap d else 100000),.int .i64 1000]) (by rw [if_neg c])
     exact ⟨trivial,h.fin⟩
   ·refine w_ld h rfl (w_ite (fun c=>w_ld h rfl ⟨?_,h.fin⟩) fun c=>⟨?_,h.fin⟩)
    ·have c:cCap d ≥ 1:=by simpa using c
     show decide (cCap d≤1073741824)=_
     rw [decide_eq_decide];exact ⟨fun x=>⟨c,x⟩,fun x=>x.2⟩
    ·have c:¬ cCap d ≥ 1:=by simpa using c
     exact (decide_eq_false fun x=>c x.1).symm
  rintro - w - h
  refine w_join h (fun _:Unit=>blk n1 (Ks.mk KC d)^blk n2 zC^blk n4 [.int .i64 (if 100≤cQ d∧cQ d≤65536 then cQ d else 3000),.int .i64 (if 100≤cF d∧cF d≤65536 then cF d else 15000),.int .i64 (if 1≤cL d∧cL d≤512 then cL d else 100),.int .i64 (if 1≤cW d∧cW d≤512 then cW d else 50),.int .u64 (if cH d≤4611686018427387904 then cH d else 10000000000),.int .u64 0,.bool false,.int .i64 (if 1≤cCap d∧cCap d≤1073741824 then cCap d else 100000),.int .i64 (if 100≤cMss d∧cMss d≤9000 then cMss d else 1000)]) (fun _=>True) ?_ ?_
  rotate_left
  ·refine w_join h (fun _:Bool=>blk n1 (Ks.mk KC d)^blk n2 zC^blk n4 [.int .i64 (if 100≤cQ d∧cQ d≤65536 then cQ d else 3000),.int .i64 (if 100≤cF d∧cF d≤65536 then cF d else 15000),.int .i64 (if 1≤cL d∧cL d≤512 then cL d else 100),.int .i64 (if 1≤cW d∧cW d≤512 then cW d else 50),.int .u64 (if cH d≤4611686018427387904 then cH d else 10000000000),.int .u64 0,.bool false,.int .i64 (if 1≤cCap d∧cCap d≤1073741824 then cCap d else 100000),.int .i64 1000]) (fun y:Bool=>y=decide (100≤cMss d∧cMss d≤9000)) (fun y w hy h=>?_) ?_
   ·rw [hy]
    refine w_ite (fun c=>?_) fun c=>?_
    ·have c:=of_decide_eq_true c
     refine w_ld h rfl (w_setTo h n4 [.int .i64 (if 100≤cQ d∧cQ d≤65536 then cQ d else 3000),.int .i64 (if 100≤cF d∧cF d≤65536 then cF d else 15000),.int .i64 (if 1≤cL d∧cL d≤512 then cL d else 100),.int .i64 (if 1≤cW d∧cW d≤512 then cW d else 50),.int .u64 (if cH d≤4611686018427387904 then cH d else 10000000000),.int .u64 0,.bool false,.int .i64 (if 1≤cCap d∧cCap d≤1073741824 then cCap d else 100000),.int .i64 (if 100≤cMss d∧cMss d≤9000 then cMss d else 1000)] rfl rfl (by rw [if_pos c];rfl) fun w h=>⟨trivial,h.fin⟩)
    ·have c:=of_decide_eq_false c
     have h:=h.blkEq (b:=n4) (L':=[.int .i64 (if 100≤cQ d∧cQ d≤65536 then cQ d else 3000),.int .i64 (if 100≤cF d∧cF d≤65536 then cF d else 15000),.int .i64 (if 1≤cL d∧cL d≤512 then cL d else 100),.int .i64 (if 1≤cW d∧cW d≤512 then cW d else 50),.int .u64 (if cH d≤4611686018427387904 then cH d else 10000000000),.int .u64 0,.bool false,.int .i64 (if 1≤cCap d∧cCap d≤1073741824 then cCap d else 100000),.int .i64 (if 100≤cMss d∧cMss d≤9000 then cMss d else 1000)]) (by rw [if_neg c])
     exact ⟨trivial,h.fin⟩
   ·refine w_ld h rfl (w_ite (fun c=>w_ld h rfl ⟨?_,h.fin⟩) fun c=>⟨?_,h.fin⟩)
    ·have c:cMss d ≥ 100:=by simpa using c
     show decide (cMss d≤9000)=_
     rw [decide_eq_decide];exact ⟨fun x=>⟨c,x⟩,fun x=>x.2⟩
    ·have c:¬ cMss d ≥ 100:=by simpa using c
     exact (decide_eq_false fun x=>c x.1).symm
  rintro - w - h
  refine w_drw h fun w h=>w_ld h rfl (w_ld h rfl (w_setTo h n4 [.int .i64 (if 100≤cQ d∧cQ d≤65536 then cQ d else 3000),.int .i64 (if 100≤cF d∧cF d≤65536 then cF d else 15000),.int .i64 (if 1≤cL d∧cL d≤512 then cL d else 100),.int .i64 (if 1≤cW d∧cW d≤512 then cW d else 50),.int .u64 (if cH d≤4611686018427387904 then cH d else 10000000000),.int .u64 (cR d),.bool false,.int .i64 (if 1≤cCap d∧cCap d≤1073741824 then cCap d else 100000),.int .i64 (if 100≤cMss d∧cMss d≤9000 then cMss d else 1000)] rfl rfl rfl fun w h=>w_chk h rfl (w_setTo h n4 [.int .i64 (if 100≤cQ d∧cQ d≤65536 then cQ d else 3000),.int .i64 (if 100≤cF d∧cF d≤65536 then cF d else 15000),.int .i64 (if 1≤cL d∧cL d≤512 then cL d else 100),.int .i64 (if 1≤cW d∧cW d≤512 then cW d else 50),.int .u64 (if cH d≤4611686018427387904 then cH d else 10000000000),.int .u64 (cR d),.bool (cD d),.int .i64 (if 1≤cCap d∧cCap d≤1073741824 then cCap d else 100000),.int .i64 (if 100≤cMss d∧cMss d≤9000 then cMss d else 1000)] rfl rfl rfl fun w h=>?_)))
  refine w_ldAll (b:=n4) (x:=configF d) h rfl (w_setAll h (by rfl) fun w h=>w_ldAll (b:=n2) (x:=configF d) h rfl ?_)
  exact Own.retP rfl h.emp'
theorem config_may (d:Cf):may (configF d)=true:=by
 unfold may configF
 simp only [Bool.and_eq_true,decide_eq_true_eq]
 refine ⟨?_,?_,?_,?_,?_,?_,?_⟩<;>dsimp only [cQ,cF,cL,cW,cH,cCap,cMss]<;>split<;>omega
theorem config_ok {d:Cf} (h0:0≤cH d) (hr:U (cR d)):OkC (configF d):=may_ok (config_may d) (by unfold configF;dsimp only [cH];split<;>(try assumption);omega) hr
theorem okC_of {d:Cf} (h:∀ k n,Lf.int k n∈Ks.mk KC d→(Lit.int k n).wf=true):0≤cH d∧U (cR d) :=
 ⟨(Wf.u (h .u64 (cH d) (List.mem_of_getElem? (i:=4) rfl))).1,Wf.u (h .u64 (cR d) (List.mem_of_getElem? (i:=5) rfl))⟩
end Conf

namespace Delays
open Arith ArithC
def delayI (size rate:Int):Int:=if size < 1∨rate=18446744073709551615 then 0 else if 1000000000 < mdI size 1000000000 rate then 1000000000 else mdI size 1000000000 rate
theorem delay_tri (n r:Int) (hn:n < 9223372036854775808) (hr:U r):Tri Tryz.prog N_delay_Of [.lf (.int .i64 n),.lf (.int .u64 r)] [.lf (.int .u64)] emp (fun x=>pur (x=delayI n r) emp) :=
 tri_0 (call_delay_Of n r) fun w0 S R h=>by
  unfold W_delay_Of delayI
  refine w_ite (fun c=>?_) fun c=>?_
  ·have c:n < 1∨r=18446744073709551615:=by simpa using c
   rw [if_pos c];exact Own.retP rfl h
  have c:¬ (n < 1∨r=18446744073709551615):=by simpa using c
  rw [if_neg c,wu (n:=n) (by omega) (by omega)]
  refine w_call (md_tri n 1000000000 r ⟨by omega,by omega⟩ (U_lit _) hr) h fun x w h=>?_
  obtain ⟨hx,h⟩:=h.purP;rw [hx]
  exact Own.retP rfl h.emp'
theorem rdelay_tri (n r:Int) (hn:n < 9223372036854775808) (hr:U r):Tri Tryz.prog N_canterref01_Delay [.lf (.int .i64 n),.lf (.int .u64 r)] [.lf (.int .u64)] emp (fun x=>pur (x=delayI n r) emp) :=
 tri_0 (call_canterref01_Delay n r) fun w0 S R h=>by
  unfold W_canterref01_Delay delayI
  refine w_ite (fun c=>?_) fun c=>?_
  ·have c:n < 1∨r=18446744073709551615:=by simpa using c
   rw [if_pos c];exact Own.retP rfl h
  have c:¬ (n < 1∨r=18446744073709551615):=by simpa using c
  rw [if_neg c,wu (n:=n) (by omega) (by omega)]
  refine w_call (rmd_tri n 1000000000 r ⟨by omega,by omega⟩ (U_lit _) hr) h fun x w h=>?_
  obtain ⟨hx,h⟩:=h.purP;rw [hx]
  exact Own.retP rfl h.emp'
theorem U_delay {n r:Int} (hn:n < 9223372036854775808) (hr:U r):U (delayI n r):=by
 unfold delayI
 split
 ·exact U_lit 0
 ·rename_i c
  have h:=U_md (a:=n) (b:=1000000000) (c:=r) ⟨by omega,by omega⟩ (U_lit _) hr
  split
  ·exact U_lit _
  ·exact h
end Delays

namespace Board
abbrev Pc:=Ks.T K_u6b3
def brd (b:Nat) (v:List Pc × Int):SP:=ex fun s=>blk b [.sl s,.int .u64 v.2]^arr s K_u6b3 v.1
abbrev Snt:=Ks.T K_u4b
def mkPc (f t:Int) (s:Snt):Pc:=(f,t,s.1,s.2.1,s.2.2.1,s.2.2.2.1,s.2.2.2.2,false,false)
def sentF (v:List Pc × Int) (f t:Int) (s:Snt):Int × (List Pc × Int) :=
 if f≠v.2∨t≤f then (1,v) else if 4096≤v.1.length then (5,v) else (0,(v.1++[mkPc f t s],t))
instance (b:Nat) (v:List Pc × Int):NoR (brd b v):=by unfold brd;infer_instance
theorem _root_.Go.X.Own.brd {w0 w:World} {S0 R0:Nat→Prop} {F G:SP} {v:List Pc × Int} (h:Own w0 S0 R0 w F) (b:Nat) [t:TakeK Board.brd b F v G]:∃ s,Own w0 S0 R0 w (blk b [.sl s,.int .u64 v.2]^arr s K_u6b3 v.1^G):=by
 obtain ⟨s,h⟩:=(h.le t.le).exP
 exact ⟨s,h.le (star_assoc _ _ _)⟩
theorem _root_.Go.X.Own.mkBrd {w0 w:World} {S0 R0:Nat→Prop} {F G:SP} (h:Own w0 S0 R0 w F) (b:Nat) (s:Sl) (l:List Pc) (e:Int) [t:Take (blk b [.sl s,.int .u64 e]^arr s K_u6b3 l) F G]:Own w0 S0 R0 w (Board.brd b (l,e)^G) :=
 (h.le t.le).toEx (f:=fun s=>blk b [.sl s,.int .u64 e]^arr s K_u6b3 l) s
theorem new_tri:Tri Tryz.prog N_board_New [] [.lf .ptr] emp (fun r=>ex fun b=>pur (r=some ⟨b,0⟩) (brd b ([],0))) :=
 tri_0 call_board_New fun w S R h=>by
  unfold W_board_New
  refine w_new h fun n1 w h=>?_
  exact Own.retE n1 (Own.retP rfl ((h.nil K_u6b3).mkBrd n1 ⟨none,0,0⟩ [] 0).keep)
theorem sent_tri (b:Nat) (f t:Int) (s:Snt) (v:List Pc × Int) :
  Tri Tryz.prog N_board_Board_Sent [.lf (.ptr (some ⟨b,0⟩)),.lf (.int .u64 f),.lf (.int .u64 t),.agg (Ks.mk K_u4b s)] [.lf (.int .i64)] (brd b v)
   (fun r=>pur (r=(sentF v f t s).1) (brd b (sentF v f t s).2)) :=
 tri_0 (call_board_Board_Sent _ _ _ _) fun w S R h=>by
  unfold W_board_Board_Sent
  refine w_new h fun n1 w h=>?_
  refine w_ite (by simp) fun _=>?_
  obtain ⟨sl,h⟩:=h.brd b
  have hlen:=(h.rd (s:=sl)).2
  refine w_deref (w_ld h rfl ?_)
  refine w_ite (fun hc=>?_) fun hc=>?_
  ·have e1:sentF v f t s=(1,v):=by simp at hc;simp [sentF,hc]
   rw [e1]
   exact Own.retP rfl (h.mkBrd b sl v.1 v.2).keep
  ·refine w_deref (w_ld h rfl ?_)
   refine w_ite (fun hc2=>?_) fun hc2=>?_
   ·have e1:sentF v f t s=(5,v):=by
     simp at hc hc2
     rw [sentF,if_neg (by omega),if_pos (by omega)]
    rw [e1]
    exact Own.retP rfl (h.mkBrd b sl v.1 v.2).keep
   ·have e1:sentF v f t s=(0,(v.1++[mkPc f t s],t)):=by
     simp at hc hc2
     rw [sentF,if_neg (by omega),if_neg (by omega)]
    rw [e1]
    refine w_drw h fun w h=>?_
    refine w_ld h rfl ?_
    refine w_deref (w_ld h rfl ?_)
    refine w_new h fun n9 w h=>?_
    refine w_chk h rfl ?_
    have h:=h.blkArr n9 K_u6b3 [mkPc f t s] rfl (by simp)
    refine w_app h rfl (by simp at hc2 ⊢;omega) fun s10 w hl h=>?_
    refine w_deref (w_set h rfl fun w h=>?_)
    dsimp only [upd,over] at h
    refine w_deref (w_set h rfl fun w h=>?_)
    dsimp only [upd,over] at h
    exact Own.retP rfl (h.mkBrd b s10 (v.1++[mkPc f t s]) t).keep
theorem rg_index_tri (s:Sl) (f:Fv) (C:SP) (xs:List (Ks.T KR)) (p:Ks.T KR→Bool) (hl:xs.length≤4294967296) (hf:∀ x∈xs,TriV Tryz.prog f [.agg (Ks.mk KR x)] [.lf .bool] C (fun r=>pur (r=p x) C)) :
  Tri Tryz.prog N_slices_IndexFunc_sapiRangeapiRange [.lf (.sl s),.lf (.fn f)] [.lf (.int .i64)] (C^rarr s KR xs) (fun r=>pur (r=fI p xs) C) :=
 tri_0 (call_slices_IndexFunc_sapiRangeapiRange _ _) fun w S R h=>by
  unfold W_slices_IndexFunc_sapiRangeapiRange
  have hsl:=(h.rd (s:=s)).2
  refine w_loop (fun _=>C^rarr s KR xs) (fun (y:Int)=>0≤y∧y.toNat≤xs.length∧∀ j y',j < y.toNat→xs[j]?=some y'→p y'=false) (fun (y:Int)=>xs.length - y.toNat) h ⟨Int.le_refl 0,by simp,fun j _ hj=>by simp at hj⟩ ?_
  rintro (y:Int) w ⟨h0,h1,h2⟩ h
  refine w_ite (fun c=>?_) fun c=>?_
  ·have hy:y.toNat < xs.length:=by simp at c;omega
   refine w_idx h h0 hy ?_
   refine w_ldA h s y.toNat 0 _ (at_some hy) rfl (by decide) (un_mk (ks:=KR)) ?_
   refine w_callv (hf _ (List.getElem_mem hy)) h fun r w h=>?_
   obtain ⟨hr,h⟩:=h.purP
   have hw:IntKind.i64.wrap (y+1)=y+1:=wi (by omega) (by omega)
   refine w_ite (fun c=>?_) fun c=>?_
   ·refine Own.retP ?_ h.fin
    rw [fI_at (at_some hy) (by rw [← hr];exact c) h2];exact (Int.toNat_of_nonneg h0).symm
   ·rw [hw]
    refine ⟨⟨⟨(by show (0:Int)≤y+1;omega),(by show (y+1).toNat≤_;omega),fun j y' hj hy'=>?_⟩,h⟩,(by show _ - (y+1).toNat < _;omega)⟩
    have hj:j < (y+1).toNat:=hj
    by_cases hjy:j=y.toNat
    ·subst hjy
     rw [at_some hy] at hy'
     cases hy'
     rw [← hr];exact c
    ·exact h2 j y' (by omega) hy'
  ·refine Own.retP ?_ h.fin
   rw [fI_none]
   intro x hx
   obtain ⟨j,hj,rfl⟩:=List.mem_iff_getElem.1 hx
   refine h2 j _ ?_ (at_some hj)
   simp at c;omega
theorem rg_contains_tri (s:Sl) (f:Fv) (C:SP) (xs:List (Ks.T KR)) (p:Ks.T KR→Bool) (hl:xs.length≤4294967296) (hf:∀ x∈xs,TriV Tryz.prog f [.agg (Ks.mk KR x)] [.lf .bool] C (fun r=>pur (r=p x) C)) :
  Tri Tryz.prog N_slices_ContainsFunc_sapiRangeapiRange [.lf (.sl s),.lf (.fn f)] [.lf .bool] (C^rarr s KR xs) (fun r=>pur (r=xs.any p) C) :=
 tri_0 (call_slices_ContainsFunc_sapiRangeapiRange _ _) fun w S R h=>by
  unfold W_slices_ContainsFunc_sapiRangeapiRange
  refine w_call (rg_index_tri s f C xs p hl hf) h fun r w h=>?_
  obtain ⟨hr,h⟩:=h.purP
  rw [hr]
  exact Own.retP (fI_any p xs) h.keep
def mkAll (n:Nat):Fv:=.mk (.func N_board_Board_All_c1) [] [V1.enc (.lf (.ptr (some ⟨n,0⟩)))]
theorem all_tri (b:Nat):Tri Tryz.prog N_board_Board_All [.lf (.ptr (some ⟨b,0⟩))] [.lf .fn] emp (fun f=>ex fun n=>pur (f=mkAll n) (blk n [.ptr (some ⟨b,0⟩)])) :=
 tri_0 (call_board_Board_All _) fun w S R h=>by
  unfold W_board_Board_All
  refine w_new h fun n1 w h=>?_
  exact Own.retE n1 (Own.retP rfl h.keep)
theorem all_iter (n b:Nat) (v:List Pc × Int) (hl:v.1.length≤4294967296):Iter Tryz.prog (mkAll n) (blk n [.ptr (some ⟨b,0⟩)]^brd b v) [.agg K_u6b3] v.1:=by
 intro y I D hy
 refine Tri.g (f:=N_board_Board_All_c1) (args:=[.lf (.fn y)]) (caps:=[.lf (.ptr (some ⟨n,0⟩))]) (tri_0 (call_board_Board_All_c1 y ⟨n,0⟩) fun w S R h=>?_)
 unfold W_board_Board_All_c1
 refine w_ld h rfl ?_
 refine w_ite (fun c=>(by cases c)) fun c=>?_
 refine w_ld h rfl ?_
 obtain ⟨s,h⟩:=h.brd b
 have hs:=(h.rd (s:=s)).2
 refine w_deref (w_ld h rfl ?_)
 have h:Own _ _ _ _ (blk b [.sl s,.int .u64 v.2]^arr s K_u6b3 v.1^blk n [.ptr (some ⟨b,0⟩)]^I 0):=h.fin
 refine w_loop (fun (y:Int)=>blk b [.sl s,.int .u64 v.2]^arr s K_u6b3 v.1^blk n [.ptr (some ⟨b,0⟩)]^I y.toNat) (fun (y:Int)=>0≤y∧y.toNat≤v.1.length) (fun (y:Int)=>v.1.length - y.toNat) h ⟨Int.le_refl 0,by simp⟩ ?_
 rintro (i:Int) w ⟨h0,h1⟩ h
 refine w_ite (fun c=>?_) fun c=>?_
 ·have hi:i.toNat < v.1.length:=by simp at c;omega
  refine w_idx h h0 hi ?_
  refine w_ldE h s i.toNat (at_some hi) rfl ?_
  refine w_new h fun n9 w h=>?_
  refine w_setAll h (by rfl) fun w h=>?_
  refine w_ldAll h rfl ?_
  refine w_callv (hy i.toNat _ (at_some hi)) h fun r w h=>?_
  refine w_ite (fun c=>?_) fun c=>?_
  ·have hr:r=false:=by simpa using c
   rw [hr] at h
   have h:Own _ _ _ _ (D^_):=h
   have h:=(h.eitherR (I v.1.length)).mkBrd b s v.1 v.2
   exact h.fin
  ·have hr:r=true:=by simpa using c
   rw [hr] at h
   have h:Own _ _ _ _ (I (i.toNat+1)^_):=h
   rw [wi (by omega) (by omega)]
   have e:(i+1).toNat=i.toNat+1:=by omega
   refine ⟨⟨⟨(by show (0:Int)≤i+1;omega),(by show (i+1).toNat≤_;omega)⟩,?_⟩,(by show _ - (i+1).toNat < _;omega)⟩
   show Own _ _ _ _ (blk b [.sl s,.int .u64 v.2]^arr s K_u6b3 v.1^blk n [.ptr (some ⟨b,0⟩)]^I (i+1).toNat)
   rw [e]
   exact h.fin
 ·have hi:i.toNat=v.1.length:=by simp at c;omega
  rw [hi] at h
  have h:=h.take (I v.1.length)
  have h:=(h.eitherL D).mkBrd b s v.1 v.2
  exact h.fin
abbrev pFrom (p:Pc):Int:=p.1
abbrev pTo (p:Pc):Int:=p.2.1
abbrev pSk (p:Pc):Bool:=p.2.2.2.2.2.2.2.1
abbrev pLo (p:Pc):Bool:=p.2.2.2.2.2.2.2.2
def flyP (p:Pc):Bool:=!pSk p && !pLo p
theorem flying_tri (p:Pc):Tri Tryz.prog N_board_flying [.agg (Ks.mk K_u6b3 p)] [.lf .bool] emp (fun r=>pur (r=flyP p) emp) :=
 tri_0 (call_board_flying p) fun w S R h=>by
  unfold W_board_flying
  refine w_new h fun n1 w h=>?_
  refine w_ld h rfl ?_
  refine w_ite (fun c=>?_) fun c=>?_
  ·refine w_ld h rfl ?_
   refine Own.retP ?_ h.fin
   show (!pLo p)=flyP p
   have c:(!pSk p)=true:=c
   simp [flyP,c]
  ·refine Own.retP ?_ h.fin
   have c:(!pSk p)=false:=c
   simp [flyP,c]
def addF (n:Int) (p:Pc):Int:=if flyP p then IntKind.u64.wrap (n+IntKind.u64.wrap (pTo p - pFrom p)) else n
def flightF (l:List Pc):Int:=l.foldl addF 0
theorem flight_take {l:List Pc} {i:Nat} {x:Pc} (h:l[i]?=some x):flightF (l.take (i+1))=addF (flightF (l.take i)) x:=by
 rw [List.take_add_one,h];simp [flightF]
theorem flight_tri (b:Nat) (v:List Pc × Int) (hl:v.1.length≤4294967296):Tri Tryz.prog N_board_Board_Flight [.lf (.ptr (some ⟨b,0⟩))] [.lf (.int .u64)] (brd b v) (fun r=>pur (r=flightF v.1) (brd b v)) :=
 tri_n (W:=fun n R=>W_board_Board_Flight n (some ⟨b,0⟩) R) (call_board_Board_Flight _) fun w S R h=>by
  unfold W_board_Board_Flight
  refine w_new h fun n1 w h=>?_
  refine w_set h rfl fun w h=>?_
  dsimp only [upd,over] at h
  refine w_call (all_tri b) (h.le (star_emp _)) fun f w h=>?_
  obtain ⟨n,h⟩:=h.exP
  obtain ⟨hf,h⟩:=h.purP
  rw [hf]
  have h:=h.take (blk n1 [.int .u64 0])
  have h:Own _ _ _ _ (blk n1 [.int .u64 (flightF (v.1.take 0))]^_):=h
  refine w_range (all_iter n b v hl) (fun i=>blk n1 [.int .u64 (flightF (v.1.take i))]) (fun _=>pur False emp) h ?_ ?_ ?_
  ·intro i x hx w S R mid next jump rdy bsy hmid hnext hjump h
   refine w_new h fun n7 w h=>?_
   refine w_setAll h (by rfl) fun w h=>?_
   refine hmid h fun w h=>?_
   refine w_ldAll h rfl ?_
   refine w_call (flying_tri x) h fun r w h=>?_
   obtain ⟨hr,h⟩:=h.purP
   refine w_ite (fun c=>?_) fun c=>?_
   ·refine w_ld h rfl ?_
    refine w_ld h rfl ?_
    refine w_ld h rfl ?_
    refine w_set h rfl fun w h=>?_
    dsimp only [upd,over] at h
    have e:flightF (v.1.take (i+1))=IntKind.u64.wrap (flightF (v.1.take i)+IntKind.u64.wrap (pTo x - pFrom x)):=by
     rw [flight_take hx,addF,if_pos (by rw [← hr];exact c)]
    rw [← e] at h
    exact hnext h
   ·have e:flightF (v.1.take (i+1))=flightF (v.1.take i):=by
     rw [flight_take hx,addF,if_neg (by rw [← hr,c];simp)]
    rw [← e] at h
    exact hnext h
  ·intro w h
   have h:=h.take (blk n1 [.int .u64 (flightF (v.1.take v.1.length))])
   refine w_ld h rfl ?_
   refine w_leave h fun w h=>?_
   rw [List.take_length]
   exact Own.retP rfl h.fin
  ·intro j w hj h
   exact (h.take (pur False emp)).purP.1.elim
def outF (e:Int) (r:Int × Int):Bool:=decide (r.2 > e) || decide (r.1 ≥ r.2)
theorem mayc_tri (r:Int × Int) (n b:Nat) (v:List Pc × Int):Tri Tryz.prog N_board_Board_may_c1 [.agg (Ks.mk KR r),.lf (.ptr (some ⟨n,0⟩))] [.lf .bool] (blk n [.ptr (some ⟨b,0⟩)]^brd b v) (fun x=>pur (x=outF v.2 r) (blk n [.ptr (some ⟨b,0⟩)]^brd b v)) :=
 tri_0 (call_board_Board_may_c1 r ⟨n,0⟩) fun w S R h=>by
  unfold W_board_Board_may_c1
  refine w_new h fun n1 w h=>?_
  refine w_drw h fun w h=>?_
  refine w_ld h rfl ?_
  refine w_ld h rfl ?_
  obtain ⟨s,h⟩:=h.brd b
  refine w_deref (w_ld h rfl ?_)
  have h:=h.mkBrd b s v.1 v.2
  refine w_ite (fun c=>?_) fun c=>?_
  ·refine Own.retP ?_ h.fin
   simp at c;simp [outF,c]
  ·refine w_ld h rfl ?_
   refine w_ld h rfl ?_
   refine Own.retP ?_ h.fin
   simp at c;simp [outF];intro;omega
def mayF (v:List Pc × Int) (upto:Int) (xs:List (Int × Int)):Bool:=decide (upto≤v.2) && !xs.any (outF v.2)
theorem may_tri (b:Nat) (v:List Pc × Int) (upto:Int) (s:Sl) (xs:List (Ks.T KR)) (hl:xs.length≤4294967296) :
  Tri Tryz.prog N_board_Board_may [.lf (.ptr (some ⟨b,0⟩)),.lf (.int .u64 upto),.lf (.sl s)] [.lf .bool] (brd b v^rarr s KR xs) (fun x=>pur (x=mayF v upto xs) (brd b v)) :=
 tri_0 (call_board_Board_may _ _ _) fun w S R h=>by
  unfold W_board_Board_may
  refine w_new h fun n1 w h=>?_
  refine w_ld h rfl ?_
  obtain ⟨s',h⟩:=h.brd b
  refine w_deref (w_ld h rfl ?_)
  have h:=h.mkBrd b s' v.1 v.2
  refine w_ite (fun c=>?_) fun c=>?_
  ·refine w_call (rg_contains_tri s _ (blk n1 [.ptr (some ⟨b,0⟩)]^brd b v) xs (outF v.2) hl (fun x _=>(Tri.g (f:=N_board_Board_may_c1) (args:=[.agg (Ks.mk KR x)]) (caps:=[.lf (.ptr (some ⟨n1,0⟩))]) (mayc_tri x n1 b v)).v)) h fun r w h=>?_
   obtain ⟨hr,h⟩:=h.purP
   refine Own.retP ?_ h.fin
   simp at c;simp [mayF,c,hr]
  ·refine Own.retP ?_ h.fin
   simp at c;simp [mayF];intro;omega
def inF (p:Pc) (r:Int × Int):Bool:=decide (r.1≤p.1) && decide (r.2 ≥ p.2.1)
theorem holdsc_tri (r:Int × Int) (n:Nat) (p:Pc):Tri Tryz.prog N_board_holds_c1 [.agg (Ks.mk KR r),.lf (.ptr (some ⟨n,0⟩))] [.lf .bool] (blk n (Ks.mk K_u6b3 p)) (fun x=>pur (x=inF p r) (blk n (Ks.mk K_u6b3 p))) :=
 tri_0 (call_board_holds_c1 r ⟨n,0⟩) fun w S R h=>by
  unfold W_board_holds_c1
  refine w_new h fun n1 w h=>?_
  refine w_ld h rfl ?_
  refine w_ld h rfl ?_
  refine w_ite (fun c=>?_) fun c=>?_
  ·refine w_ld h rfl ?_
   refine w_ld h rfl ?_
   refine Own.retP ?_ h.fin
   simp at c;simp [inF,c]
  ·refine Own.retP ?_ h.fin
   simp at c;simp [inF];intro;omega
theorem holds_tri (p:Pc) (s:Sl) (xs:List (Ks.T KR)) (hl:xs.length≤4294967296) :
  Tri Tryz.prog N_board_holds [.lf (.sl s),.agg (Ks.mk K_u6b3 p)] [.lf .bool] (emp^rarr s KR xs) (fun x=>pur (x=xs.any (inF p)) emp) :=
 tri_0 (call_board_holds _ _) fun w S R h=>by
  unfold W_board_holds
  refine w_new h fun n1 w h=>?_
  refine w_call (rg_contains_tri s _ (blk n1 (Ks.mk K_u6b3 p)) xs (inF p) hl (fun x _=>(Tri.g (f:=N_board_holds_c1) (args:=[.agg (Ks.mk KR x)]) (caps:=[.lf (.ptr (some ⟨n1,0⟩))]) (holdsc_tri x n1 p)).v)) h fun r w h=>?_
  obtain ⟨hr,h⟩:=h.purP
  exact Own.retP hr h.fin
def setLo (p:Pc) (x:Bool):Pc:=(p.1,p.2.1,p.2.2.1,p.2.2.2.1,p.2.2.2.2.1,p.2.2.2.2.2.1,p.2.2.2.2.2.2.1,p.2.2.2.2.2.2.2.1,x)
def abvF (p:Pc) (a:Int):Int:=if pSk p then IntKind.i64.wrap (a+1) else a
def hitF (p:Pc) (a:Int):Bool:=flyP p && decide (abvF p a ≥ 3)
def passF:List Pc→List Pc × Int × Int
 | []=>([],0,0)
 | p :: l=>let r:=passF l
  (if hitF p r.2.2 then setLo p true :: r.1 else p :: r.1,if hitF p r.2.2 then IntKind.u64.wrap (r.2.1+IntKind.u64.wrap (p.2.1 - p.1)) else r.2.1,abvF p r.2.2)
theorem pass_len:∀ l:List Pc,(passF l).1.length=l.length
 | []=>rfl
 | p :: l=>by simp only [passF];split<;>simp [pass_len l]
theorem passed_tri (b:Nat) (v:List Pc × Int) (hl:v.1.length≤4294967296) :
  Tri Tryz.prog N_board_Board_passed [.lf (.ptr (some ⟨b,0⟩))] [.lf (.int .u64)] (brd b v) (fun x=>pur (x=(passF v.1).2.1) (brd b ((passF v.1).1,v.2))) :=
 tri_0 (call_board_Board_passed _) fun w S R h=>by
  unfold W_board_Board_passed
  obtain ⟨s,h⟩:=(h.le (star_emp _)).brd b
  have hs:=(h.rd (s:=s)).2
  refine w_deref (w_ld h rfl ?_)
  rw [wi (n:=((s.len:Nat):Int) - 1) (by omega) (by omega)]
  have e0:v.1.take (((s.len:Nat):Int) - 1+1).toNat++(passF (v.1.drop (((s.len:Nat):Int) - 1+1).toNat)).1=v.1:=by
   have e:(((s.len:Nat):Int) - 1+1).toNat=v.1.length:=by omega
   rw [e];simp [passF]
  have e1:passF (v.1.drop (((s.len:Nat):Int) - 1+1).toNat)=([],0,0):=by
   have e:(((s.len:Nat):Int) - 1+1).toNat=v.1.length:=by omega
   rw [e];simp [passF]
  have h:=h.take (blk b [.sl s,.int .u64 v.2]^arr s K_u6b3 v.1)
  have h:=h.keep
  refine w_loop (fun (y:Int × Int × Int)=>blk b [.sl s,.int .u64 v.2]^arr s K_u6b3 (v.1.take (y.2.2+1).toNat++(passF (v.1.drop (y.2.2+1).toNat)).1))
   (fun (y:Int × Int × Int)=>(-1≤y.2.2∧y.2.2 < v.1.length)∧y.1=(passF (v.1.drop (y.2.2+1).toNat)).2.1∧y.2.1=(passF (v.1.drop (y.2.2+1).toNat)).2.2) (fun (y:Int × Int × Int)=>(y.2.2+1).toNat) (by rw [e0];exact h) ⟨⟨by show (-1:Int)≤_ - 1;omega,by show ((s.len:Nat):Int) - 1 < _;omega⟩,by rw [e1],by rw [e1]⟩ ?_
  rintro (⟨lost,above,i⟩:Int × Int × Int) w ⟨⟨h0,h1⟩,h2,h3⟩ h
  dsimp only at h0 h1 h2 h3 h ⊢
  refine w_ite (fun c=>?_) fun c=>?_
  ·have c:0≤i:=by simpa using c
   obtain ⟨k,hk⟩:∃ k:Nat,i=k:=⟨i.toNat,by omega⟩
   have hk1:(i+1).toNat=k+1:=by omega
   have hk0:i.toNat=k:=by omega
   have hkl:k < v.1.length:=by omega
   rw [hk1] at h2 h3 h
   obtain ⟨p,hp⟩:∃ p,v.1[k]?=some p:=⟨_,at_some hkl⟩
   have hd:=drop_at hp
   obtain ⟨xs,hxs⟩:∃ xs,xs=v.1.take (k+1)++(passF (v.1.drop (k+1))).1:=⟨_,rfl⟩
   have hxk:xs[i.toNat]?=some p:=by
    rw [hk0,hxs,List.getElem?_append_left (by rw [List.length_take];omega),List.getElem?_take,if_pos (by omega),hp]
   have hxl:i.toNat < xs.length:=(List.getElem?_eq_some_iff.1 hxk).1
   rw [← hxs] at h
   have hpass:passF (v.1.drop k)=(if hitF p above then setLo p true :: (passF (v.1.drop (k+1))).1 else p :: (passF (v.1.drop (k+1))).1,if hitF p above then IntKind.u64.wrap (lost+IntKind.u64.wrap (p.2.1 - p.1)) else lost,abvF p above):=by
    rw [hd,passF,h2,h3]
   refine w_deref (w_ld h rfl ?_)
   refine w_idx h c hxl ?_
   refine w_join h (fun _=>blk b [.sl s,.int .u64 v.2]^arr s K_u6b3 xs) (fun (y:Int)=>y=abvF p above) (fun (y:Int) w hy h=>?_) ?_
   ·refine w_deref (w_ldE h s i.toNat hxk rfl ?_)
    refine w_call (flying_tri p) h fun r w h=>?_
    obtain ⟨hr,h⟩:=h.purP
    have hw:IntKind.i64.wrap (i - 1)=i - 1:=wi (by omega) (by omega)
    have hhit:(r && decide (y ≥ 3))=hitF p above:=by rw [hr,hy];rfl
    have hk2:(i - 1+1).toNat=k:=by omega
    have ht:v.1.take (k+1)=v.1.take k++[p]:=by rw [List.take_add_one,hp];rfl
    have hlt:(v.1.take k).length=k:=by rw [List.length_take];omega
    refine w_ite (fun c2=>?_) fun c2=>?_
    ·rw [hhit] at c2
     rw [c2] at hpass
     simp only [if_true] at hpass
     refine w_deref (w_stA h s i.toNat 8 p (setLo p true) hxk rfl (by decide) (by simp) rfl fun w h=>?_)
     have hset:xs.set i.toNat (setLo p true)=v.1.take k++(passF (v.1.drop k)).1:=by
      rw [hpass,hxs,hk0,ht,List.append_assoc,List.set_append_right _ _ (by omega),hlt]
      simp
     have hx2:(xs.set i.toNat (setLo p true))[i.toNat]?=some (setLo p true):=by rw [List.getElem?_set_self hxl]
     refine w_drw h fun w h=>?_
     refine w_deref (w_deref ?_)
     refine w_ldA h s i.toNat 1 _ hx2 rfl (by decide) rfl ?_
     refine w_ldA h s i.toNat 0 _ hx2 rfl (by decide) rfl ?_
     rw [hw]
     refine ⟨⟨⟨⟨by show (-1:Int)≤i - 1;omega,by show i - 1 < _;omega⟩,?_,?_⟩,?_⟩,by show (i - 1+1).toNat < (i+1).toNat;omega⟩
     ·show _=(passF (v.1.drop (i - 1+1).toNat)).2.1
      rw [hk2,hpass];rfl
     ·show y=(passF (v.1.drop (i - 1+1).toNat)).2.2
      rw [hk2,hpass];exact hy
     ·show Own _ _ _ _ (blk b [.sl s,.int .u64 v.2]^arr s K_u6b3 (v.1.take (i - 1+1).toNat++(passF (v.1.drop (i - 1+1).toNat)).1))
      rw [hk2,← hset]
      exact h.fin
    ·rw [hhit] at c2
     rw [c2] at hpass
     simp only [Bool.false_eq_true,if_false] at hpass
     rw [hw]
     have hsame:xs=v.1.take k++(passF (v.1.drop k)).1:=by rw [hpass,hxs,ht];simp
     refine ⟨⟨⟨⟨by show (-1:Int)≤i - 1;omega,by show i - 1 < _;omega⟩,?_,?_⟩,?_⟩,by show (i - 1+1).toNat < (i+1).toNat;omega⟩
     ·show _=(passF (v.1.drop (i - 1+1).toNat)).2.1
      rw [hk2,hpass]
     ·show y=(passF (v.1.drop (i - 1+1).toNat)).2.2
      rw [hk2,hpass];exact hy
     ·show Own _ _ _ _ (blk b [.sl s,.int .u64 v.2]^arr s K_u6b3 (v.1.take (i - 1+1).toNat++(passF (v.1.drop (i - 1+1).toNat)).1))
      rw [hk2,← hsame]
      exact h.fin
   ·refine w_deref (w_ldA h s i.toNat 7 p hxk rfl (by decide) rfl ?_)
    refine w_ite (fun c2=>?_) fun c2=>?_
    ·exact ⟨by have c2:pSk p=true:=c2;simp [abvF,c2],h⟩
    ·exact ⟨by have c2:pSk p=false:=c2;simp [abvF,c2],h⟩
  ·have c:i=-1:=by simp at c;omega
   rw [c] at h2 h3 h
   simp only [show ((-1:Int)+1).toNat=0 from rfl,List.drop_zero,List.take_zero,List.nil_append] at h2 h
   refine Own.retP h2 ?_
   exact (h.mkBrd b s (passF v.1).1 v.2).fin
def setSk (p:Pc):Pc:=(p.1,p.2.1,p.2.2.1,p.2.2.2.1,p.2.2.2.2.1,p.2.2.2.2.2.1,p.2.2.2.2.2.2.1,true,false)
def toldP (upto:Int) (xs:List (Int × Int)) (p:Pc):Bool:=!pSk p && (decide (p.2.1≤upto) || xs.any (inF p))
def markP (upto:Int) (xs:List (Int × Int)) (p:Pc):Pc:=if toldP upto xs p then setSk p else p
def toldL (upto:Int) (xs:List (Int × Int)) (l:List Pc):List Pc:=l.filter (toldP upto xs)
def restL (upto:Int) (xs:List (Int × Int)) (l:List Pc):List Pc:=(l.filter (fun p=>!decide (p.2.1≤upto))).map (markP upto xs)
theorem toldL_take {upto:Int} {xs:List (Int × Int)} {l:List Pc} {k:Nat} {p:Pc} (h:l[k]?=some p):toldL upto xs (l.take (k+1))=toldL upto xs (l.take k)++(if toldP upto xs p then [p] else []):=by
 rw [List.take_add_one,h,toldL,List.filter_append,toldL];congr 1
 simp [List.filter_cons]
theorem restL_take {upto:Int} {xs:List (Int × Int)} {l:List Pc} {k:Nat} {p:Pc} (h:l[k]?=some p):restL upto xs (l.take (k+1))=restL upto xs (l.take k)++(if p.2.1≤upto then [] else [markP upto xs p]):=by
 rw [List.take_add_one,h,restL,List.filter_append,List.map_append,restL];congr 1
 by_cases hc:p.2.1≤upto<;>simp [hc]
theorem toldL_len (upto:Int) (xs:List (Int × Int)) (l:List Pc) (k:Nat):(toldL upto xs (l.take k)).length≤k:=Nat.le_trans (List.length_filter_le _ _) (by rw [List.length_take];omega)
theorem restL_len (upto:Int) (xs:List (Int × Int)) (l:List Pc) (k:Nat):(restL upto xs (l.take k)).length≤k:=by rw [restL,List.length_map];exact Nat.le_trans (List.length_filter_le _ _) (by rw [List.length_take];omega)
theorem ack_no2_tri (b:Nat) (v:List Pc × Int) (upto:Int) (s:Sl) (xs:List (Ks.T KR)) (hx:xs.length≤4294967296) (hm:mayF v upto xs=false) :
  Tri Tryz.prog N_board_Board_Ack [.lf (.ptr (some ⟨b,0⟩)),.lf (.int .u64 upto),.lf (.sl s)] [.lf .sl,.lf (.int .u64),.lf (.int .i64)] (brd b v^rarr s KR xs) (fun r=>pur (r.1=⟨none,0,0⟩∧r.2.1=0∧r.2.2=11) (brd b v)) :=
 tri_0 (call_board_Board_Ack _ _ _) fun w S R h=>by
  unfold W_board_Board_Ack
  refine w_ite (fun c=>(by cases c)) fun c=>?_
  refine w_callL (may_tri b v upto s xs hx) h fun r w h=>?_
  obtain ⟨hr,h⟩:=h.purP
  refine w_ite (fun c=>?_) fun c=>?_
  ·exact Own.retP ⟨rfl,rfl,rfl⟩ h.fin
  ·rw [hr,hm] at c;cases c
theorem ack_tri (b:Nat) (v:List Pc × Int) (upto:Int) (a:Sl) (xs:List (Ks.T KR)) (hl:v.1.length≤4294967295) (hx:xs.length≤4294967296) (hm:mayF v upto xs=true) :
  Tri Tryz.prog N_board_Board_Ack [.lf (.ptr (some ⟨b,0⟩)),.lf (.int .u64 upto),.lf (.sl a)] [.lf .sl,.lf (.int .u64),.lf (.int .i64)] (brd b v^rarr a KR xs)
   (fun r=>pur (r.2.1=(passF (restL upto xs v.1)).2.1∧r.2.2=0) (arr r.1 K_u6b3 (toldL upto xs v.1)^brd b ((passF (restL upto xs v.1)).1,v.2))) :=
 tri_0 (call_board_Board_Ack _ _ _) fun w S R h=>by
  unfold W_board_Board_Ack
  refine w_ite (fun c=>(by cases c)) fun c=>?_
  refine w_callL (Q:=rarr a KR xs) (may_tri b v upto a xs hx) h fun r w h=>?_
  obtain ⟨hr,h⟩:=h.purP
  refine w_ite (fun c=>by rw [hr,hm] at c;cases c) fun c=>?_
  obtain ⟨s,h⟩:=h.brd b
  have hs:=(h.rd (s:=s)).2
  refine w_deref (w_ld h rfl ?_)
  have h:=(h.nil K_u6b3)
  have h:=(h.nil K_u6b3)
  have h:=(h.take (blk b [.sl s,.int .u64 v.2]^arr s K_u6b3 v.1^arr ⟨none,0,0⟩ K_u6b3 []^arr ⟨none,0,0⟩ K_u6b3 []^rarr a KR xs)).keep
  refine w_loop (fun (y:Sl × Sl × Int)=>blk b [.sl s,.int .u64 v.2]^arr s K_u6b3 v.1^arr y.1 K_u6b3 (toldL upto xs (v.1.take y.2.2.toNat))^arr y.2.1 K_u6b3 (restL upto xs (v.1.take y.2.2.toNat))^rarr a KR xs)
   (fun (y:Sl × Sl × Int)=>0≤y.2.2∧y.2.2.toNat≤v.1.length) (fun (y:Sl × Sl × Int)=>v.1.length - y.2.2.toNat) h ⟨Int.le_refl 0,Nat.zero_le _⟩ ?_
  rintro (⟨ts,rs,i⟩:Sl × Sl × Int) w ⟨h0,h1⟩ h
  dsimp only at h0 h1 h ⊢
  refine w_ite (fun c=>?_) fun c=>?_
  ·have hi:i.toNat < v.1.length:=by simp at c;omega
   obtain ⟨p,hp⟩:∃ p,v.1[i.toNat]?=some p:=⟨_,at_some hi⟩
   have ht:=toldL_take (upto:=upto) (xs:=xs) hp
   have hrt:=restL_take (upto:=upto) (xs:=xs) hp
   have hw:IntKind.i64.wrap (i+1)=i+1:=wi (by omega) (by omega)
   have hi1:(i+1).toNat=i.toNat+1:=by omega
   refine w_idx h h0 hi ?_
   refine w_ldE h s i.toNat hp rfl ?_
   refine w_new h fun n8 w h=>?_
   refine w_setAll h (by rfl) fun w h=>?_
   refine w_ld h rfl ?_
   refine w_join h (fun (y:Sl)=>blk n8 (Ks.mk K_u6b3 (markP upto xs p))^blk b [.sl s,.int .u64 v.2]^arr s K_u6b3 v.1^arr y K_u6b3 (toldL upto xs (v.1.take (i.toNat+1)))^arr rs K_u6b3 (restL upto xs (v.1.take i.toNat))^rarr a KR xs) (fun _=>True) (fun (y:Sl) w _ h=>?_) ?_
   ·refine w_ite (fun c2=>?_) fun c2=>?_
    ·have c2:p.2.1≤upto:=by simpa using c2
     rw [hw]
     rw [if_pos c2,List.append_nil] at hrt
     refine ⟨⟨⟨by show (0:Int)≤i+1;omega,by show (i+1).toNat≤_;omega⟩,?_⟩,by show _ - (i+1).toNat < _;omega⟩
     show Own _ _ _ _ (blk b [.sl s,.int .u64 v.2]^arr s K_u6b3 v.1^arr y K_u6b3 (toldL upto xs (v.1.take (i+1).toNat))^arr rs K_u6b3 (restL upto xs (v.1.take (i+1).toNat))^rarr a KR xs)
     rw [hi1,hrt]
     exact h.fin
    ·have c2:¬ p.2.1≤upto:=by simpa using c2
     rw [if_neg c2] at hrt
     refine w_ldAll h rfl ?_
     refine w_new h fun n21 w h=>?_
     have h:=h.blkArr n21 K_u6b3 [markP upto xs p] rfl (by simp)
     have hlr:=restL_len upto xs v.1 i.toNat
     refine w_app (K:=K_u6b3) h rfl (by simp;omega) fun s22 w hl2 h=>?_
     rw [hw]
     refine ⟨⟨⟨by show (0:Int)≤i+1;omega,by show (i+1).toNat≤_;omega⟩,?_⟩,by show _ - (i+1).toNat < _;omega⟩
     show Own _ _ _ _ (blk b [.sl s,.int .u64 v.2]^arr s K_u6b3 v.1^arr y K_u6b3 (toldL upto xs (v.1.take (i+1).toNat))^arr s22 K_u6b3 (restL upto xs (v.1.take (i+1).toNat))^rarr a KR xs)
     rw [hi1,hrt]
     exact h.fin
   ·refine w_join h (fun _=>blk n8 (Ks.mk K_u6b3 p)^blk b [.sl s,.int .u64 v.2]^arr s K_u6b3 v.1^arr ts K_u6b3 (toldL upto xs (v.1.take i.toNat))^arr rs K_u6b3 (restL upto xs (v.1.take i.toNat))^rarr a KR xs) (fun (y:Bool)=>y=toldP upto xs p) (fun (y:Bool) w hy h=>?_) ?_
    ·refine w_ite (fun c2=>?_) fun c2=>?_
     ·rw [c2] at hy
      rw [← hy,if_pos rfl] at ht
      have hmk:markP upto xs p=setSk p:=by rw [markP,← hy];rfl
      refine w_ldAll h rfl ?_
      refine w_new h fun n18 w h=>?_
      have h:=h.blkArr n18 K_u6b3 [p] rfl (by simp)
      have hlr:=toldL_len upto xs v.1 i.toNat
      refine w_app (K:=K_u6b3) h rfl (by simp;omega) fun s19 w hl2 h=>?_
      refine w_set h rfl fun w h=>?_
      refine w_set h rfl fun w h=>?_
      refine ⟨trivial,?_⟩
      rw [ht,hmk]
      have h:Own _ _ _ _ (blk n8 (Ks.mk K_u6b3 (setSk p))^_):=h
      exact h.fin
     ·rw [c2] at hy
      rw [← hy] at ht
      have hmk:markP upto xs p=p:=by rw [markP,← hy];rfl
      refine ⟨trivial,?_⟩
      rw [ht,hmk]
      simp only [Bool.false_eq_true,if_false,List.append_nil]
      exact h.fin
    ·refine w_ld h rfl ?_
     refine w_ite (fun c2=>?_) fun c2=>?_
     ·have c2:(!pSk p)=true:=c2
      refine w_ite (fun c3=>?_) fun c3=>?_
      ·exact ⟨by have c3:decide (p.2.1≤upto)=true:=c3;simp [toldP,c2,c3],h.fin⟩
      ·refine w_ldAll h rfl ?_
       refine w_callL (A:=emp) (Q:=rarr a KR xs) (holds_tri p a xs hx) h fun r w h=>?_
       obtain ⟨hr2,h⟩:=h.purP
       exact ⟨by have c3:decide (p.2.1≤upto)=false:=c3;rw [hr2,toldP,c2,c3];simp,h.fin⟩
     ·exact ⟨by have c2:(!pSk p)=false:=c2;simp [toldP,c2],h.fin⟩
  ·have hi:i.toNat=v.1.length:=by simp at c;omega
   rw [hi,List.take_length] at h
   refine w_deref (w_set h rfl fun w h=>?_)
   dsimp only [upd,over] at h
   have h:=h.mkBrd b rs (restL upto xs v.1) v.2
   have hrl:(restL upto xs v.1).length≤4294967296:=by
    have:=restL_len upto xs v.1 v.1.length
    rw [List.take_length] at this;omega
   refine w_call (passed_tri b (restL upto xs v.1,v.2) hrl) h fun r w h=>?_
   obtain ⟨hr2,h⟩:=h.purP
   exact Own.retP ⟨hr2,rfl⟩ h.fin
def pK (z:Int) (k:Nat):Pc:=mkPc ((k:Int) * z) (((k:Int)+1) * z) ((k:Int),0,0,0,false)
def c1 (z y:Int):List (Int × Int):=[(z+1,2 * z+y),(2 * z+1,3 * z)]
def c2 (z y:Int):List (Int × Int):=[(z,2 * z+y)]
abbrev q1 (z:Int):Pc:=setSk (pK z 1)
def loseP (p:Pc):Pc:=if flyP p then setLo p true else p
theorem lose_tri (b:Nat) (v:List Pc × Int) (hl:v.1.length≤4294967296):Tri Tryz.prog N_board_Board_Lose [.lf (.ptr (some ⟨b,0⟩))] [.lf (.int .u64)] (brd b v) (fun r=>pur (r=flightF v.1) (brd b (v.1.map loseP,v.2))) :=
 tri_0 (call_board_Board_Lose _) fun w S R h=>by
  unfold W_board_Board_Lose
  refine w_ite (fun c=>(by cases c)) fun c=>?_
  obtain ⟨s,h⟩:=h.brd b
  have hs:=(h.rd (s:=s)).2
  refine w_deref (w_ld h rfl ?_)
  have h:=(h.take (blk b [.sl s,.int .u64 v.2]^arr s K_u6b3 v.1)).keep
  refine w_loop (fun (y:Int × Int)=>blk b [.sl s,.int .u64 v.2]^arr s K_u6b3 ((v.1.take y.2.toNat).map loseP++v.1.drop y.2.toNat)) (fun (y:Int × Int)=>(0≤y.2∧y.2.toNat≤v.1.length)∧y.1=flightF (v.1.take y.2.toNat)) (fun (y:Int × Int)=>v.1.length - y.2.toNat) h ⟨⟨Int.le_refl 0,Nat.zero_le _⟩,rfl⟩ ?_
  rintro (⟨t,i⟩:Int × Int) w ⟨⟨h0,h1⟩,h2⟩ h
  dsimp only at h0 h1 h2 h ⊢
  obtain ⟨xs,hxs⟩:∃ xs,xs=(v.1.take i.toNat).map loseP++v.1.drop i.toNat:=⟨_,rfl⟩
  rw [← hxs] at h
  have hxl:xs.length=v.1.length:=by rw [hxs];simp;omega
  refine w_ite (fun c=>?_) fun c=>?_
  ·have hi:i.toNat < v.1.length:=by simp at c;omega
   obtain ⟨p,hp⟩:∃ p,v.1[i.toNat]?=some p:=⟨_,at_some hi⟩
   have hml:((v.1.take i.toNat).map loseP).length=i.toNat:=by simp;omega
   have hxp:xs[i.toNat]?=some p:=by
    rw [hxs,List.getElem?_append_right (by omega),hml,drop_at hp];simp
   have hw:IntKind.i64.wrap (i+1)=i+1:=wi (by omega) (by omega)
   have hi1:(i+1).toNat=i.toNat+1:=by omega
   have hset:(v.1.take (i.toNat+1)).map loseP++v.1.drop (i.toNat+1)=xs.set i.toNat (loseP p):=by
    rw [hxs,List.set_append_right _ _ (by omega),hml,drop_at hp,List.take_add_one,hp];simp
   have hft:=flight_take hp
   refine w_idx h h0 (by omega) ?_
   refine w_ldE h s i.toNat hxp rfl ?_
   refine w_new h fun n7 w h=>?_
   refine w_setAll h (by rfl) fun w h=>?_
   refine w_ldAll h rfl ?_
   refine w_call (flying_tri p) h fun r w h=>?_
   obtain ⟨hr,h⟩:=h.purP
   refine w_ite (fun c2=>?_) fun c2=>?_
   ·have hf:flyP p=true:=by rw [← hr];exact c2
    refine w_deref (w_ld h rfl ?_)
    refine w_idx h h0 (by omega) ?_
    refine w_stA h s i.toNat 8 p (setLo p true) hxp rfl (by decide) (by simp) rfl fun w h=>?_
    refine w_ld h rfl ?_
    refine w_ld h rfl ?_
    rw [hw]
    have hlp:loseP p=setLo p true:=by rw [loseP,if_pos hf]
    refine ⟨⟨⟨⟨by show (0:Int)≤i+1;omega,by show (i+1).toNat≤_;omega⟩,?_⟩,?_⟩,by show _ - (i+1).toNat < _;omega⟩
    ·show _=flightF (v.1.take (i+1).toNat)
     rw [hi1,hft,addF,if_pos hf,h2]
    ·show Own _ _ _ _ (blk b [.sl s,.int .u64 v.2]^arr s K_u6b3 ((v.1.take (i+1).toNat).map loseP++v.1.drop (i+1).toNat))
     rw [hi1,hset,hlp]
     exact h.fin
   ·have hf:flyP p=false:=by rw [← hr];exact c2
    rw [hw]
    have hlp:loseP p=p:=by rw [loseP,if_neg (by rw [hf];simp)]
    refine ⟨⟨⟨⟨by show (0:Int)≤i+1;omega,by show (i+1).toNat≤_;omega⟩,?_⟩,?_⟩,by show _ - (i+1).toNat < _;omega⟩
    ·show t=flightF (v.1.take (i+1).toNat)
     rw [hi1,hft,addF,if_neg (by rw [hf];simp),h2]
    ·show Own _ _ _ _ (blk b [.sl s,.int .u64 v.2]^arr s K_u6b3 ((v.1.take (i+1).toNat).map loseP++v.1.drop (i+1).toNat))
     have hself:xs.set i.toNat p=xs:=by
      obtain ⟨hl2,he⟩:=List.getElem?_eq_some_iff.1 hxp
      rw [← he];exact List.set_getElem_self hl2
     rw [hi1,hset,hlp,hself]
     exact h.fin
  ·have hi:i.toNat=v.1.length:=by simp at c;omega
   rw [hi] at h2 hxs
   simp at hxs h2
   rw [hxs] at h
   exact Own.retP h2 (h.mkBrd b s (v.1.map loseP) v.2).fin
theorem lost_tri (b:Nat) (v:List Pc × Int) (hl:v.1.length≤4294967296):Tri Tryz.prog N_board_Board_lost [.lf (.ptr (some ⟨b,0⟩))] [.lf (.int .i64)] (brd b v) (fun r=>pur (r=fI pLo v.1) (brd b v)) :=
 tri_n (W:=fun n R=>W_board_Board_lost n (some ⟨b,0⟩) R) (call_board_Board_lost _) fun w S R h=>by
  unfold W_board_Board_lost
  refine w_new h fun n1 w h=>?_
  refine w_new h fun n2 w h=>?_
  refine w_set h rfl fun w h=>?_
  dsimp only [upd,over] at h
  refine w_call (all_tri b) (h.le (star_emp _)) fun f w h=>?_
  obtain ⟨n,h⟩:=h.exP
  obtain ⟨hf,h⟩:=h.purP
  rw [hf]
  have h:=(h.take (blk n1 [.int .i64 0]^blk n2 [.int .i64 ((0:Nat):Int)])).toPur (p:=∀ j y,j < 0→v.1[j]?=some y→pLo y=false) (fun j y hj=>by omega)
  refine w_range (all_iter n b v hl) (fun i=>pur (∀ j y,j < i→v.1[j]?=some y→pLo y=false) (blk n1 [.int .i64 0]^blk n2 [.int .i64 (i:Int)])) (fun j=>pur (j=1) (blk n1 [.int .i64 (fI pLo v.1)])) h ?_ ?_ ?_
  ·intro i x hx w S R mid next jump rdy bsy hmid hnext hjump h
   have hi:i < v.1.length:=(List.getElem?_eq_some_iff.1 hx).1
   refine w_new h fun n8 w h=>?_
   refine w_setAll h (by rfl) fun w h=>?_
   refine hmid h fun w h=>?_
   have h:=h.take (pur (∀ j y,j < i→v.1[j]?=some y→pLo y=false) (blk n1 [.int .i64 0]^blk n2 [.int .i64 (i:Int)]))
   obtain ⟨hno,h⟩:=h.purP
   refine w_ld h rfl ?_
   refine w_ite (fun c=>?_) fun c=>?_
   ·refine w_ld h rfl ?_
    refine w_set h rfl fun w h=>?_
    dsimp only [upd,over] at h
    have e:fI pLo v.1=(i:Int):=fI_at hx c hno
    rw [← e] at h
    have h:=(h.take (blk n1 [.int .i64 (fI pLo v.1)])).toPur (p:=1=1) rfl
    exact hjump 1 (by decide) h
   ·refine w_ld h rfl ?_
    refine w_set h rfl fun w h=>?_
    dsimp only [upd,over] at h
    rw [wi (by omega) (by omega)] at h
    have h:Own _ _ _ _ (blk n2 [.int .i64 ((i+1:Nat):Int)]^_):=h
    have h:=(h.take (blk n1 [.int .i64 0]^blk n2 [.int .i64 ((i+1:Nat):Int)])).toPur (p:=∀ j y,j < i+1→v.1[j]?=some y→pLo y=false) (fun j y hj hy=>by
     by_cases hji:j=i
     ·rw [hji,hx] at hy;cases hy;exact c
     ·exact hno j y (by omega) hy)
    exact hnext h
  ·intro w h
   have h:=h.take (pur (∀ j y,j < v.1.length→v.1[j]?=some y→pLo y=false) (blk n1 [.int .i64 0]^blk n2 [.int .i64 (v.1.length:Int)]))
   obtain ⟨hno,h⟩:=h.purP
   refine w_set h rfl fun w h=>?_
   dsimp only [upd,over] at h
   refine w_ld h rfl ?_
   refine w_leave h fun w h=>?_
   refine Own.retP ?_ h.fin
   rw [fI_none]
   intro y hy
   obtain ⟨j,hj,rfl⟩:=List.mem_iff_getElem.1 hy
   exact hno j _ hj (at_some hj)
  ·intro j w hj h
   have h:=h.take (pur (j=1) (blk n1 [.int .i64 (fI pLo v.1)]))
   obtain ⟨hj1,h⟩:=h.purP
   rw [hj1]
   refine w_ld h rfl ?_
   refine w_leave h fun w h=>?_
   exact Own.retP rfl h.fin
theorem fI_some {α:Type} {p:α→Bool} {xs:List α} (h:0≤fI p xs):∃ x,xs[(fI p xs).toNat]?=some x∧p x=true∧(fI p xs).toNat < xs.length∧((fI p xs).toNat:Int)=fI p xs:=by
 unfold fI at h ⊢
 cases hf:xs.findIdx? p with
 | none=>rw [hf] at h;simp at h
 | some i =>
  obtain ⟨hl,hp,_⟩:=List.findIdx?_eq_some_iff_getElem.1 hf
  exact ⟨xs[i],by simp [hl],hp,by simpa using hl,by simp⟩
def lostF (l:List Pc):(Int × Int) × Bool:=match l[(fI pLo l).toNat]? with
 | some p=>if fI pLo l < 0 then ((0,0),false) else ((p.1,p.2.1),true)
 | none=>((0,0),false)
theorem lostF_no {l:List Pc} (h:fI pLo l < 0):lostF l=((0,0),false):=by
 unfold lostF
 split
 ·rw [if_pos h]
 ·rfl
theorem lostF_yes {l:List Pc} {p:Pc} (h:0≤fI pLo l) (hp:l[(fI pLo l).toNat]?=some p):lostF l=((p.1,p.2.1),true):=by
 unfold lostF
 rw [hp]
 simp only
 rw [if_neg (by omega)]
theorem Lost_tri (b:Nat) (v:List Pc × Int) (hl:v.1.length≤4294967296):Tri Tryz.prog N_board_Board_Lost [.lf (.ptr (some ⟨b,0⟩))] [.agg KR,.lf .bool] (brd b v) (fun r=>pur (r=lostF v.1) (brd b v)) :=
 tri_0 (call_board_Board_Lost _) fun w S R h=>by
  unfold W_board_Board_Lost
  refine w_new h fun n1 w h=>?_
  refine w_call (lost_tri b v hl) h fun r w h=>?_
  obtain ⟨hr,h⟩:=h.purP
  rw [hr]
  refine w_ite (fun c=>?_) fun c=>?_
  ·refine w_set h rfl fun w h=>?_
   dsimp only [upd,over] at h
   refine w_ldAll (x:=(0,0)) h rfl ?_
   exact Own.retP (lostF_no (by simpa using c)).symm h.fin
  ·have c:0≤fI pLo v.1:=by simpa using c
   obtain ⟨p,hp,hpl,hlt,_⟩:=fI_some c
   refine w_drw h fun w h=>?_
   obtain ⟨s,h⟩:=h.brd b
   refine w_deref (w_deref (w_ld h rfl (w_ld h rfl ?_)))
   refine w_idx h c hlt ?_
   refine w_idx h c hlt ?_
   refine w_ldA h s _ 0 p hp rfl (by decide) rfl ?_
   refine w_ldA h s _ 1 p hp rfl (by decide) rfl ?_
   refine w_set h rfl fun w h=>?_
   dsimp only [upd,over] at h
   refine w_ldAll (x:=(p.1,p.2.1)) h rfl ?_
   exact Own.retP (lostF_yes c hp).symm (h.mkBrd b s v.1 v.2).fin
theorem all_iterS (n b:Nat) (s:Sl) (v:List Pc × Int) (hl:v.1.length≤4294967296):Iter Tryz.prog (mkAll n) (blk n [.ptr (some ⟨b,0⟩)]^blk b [.sl s,.int .u64 v.2]^arr s K_u6b3 v.1) [.agg K_u6b3] v.1:=by
 intro y I D hy
 refine Tri.g (f:=N_board_Board_All_c1) (args:=[.lf (.fn y)]) (caps:=[.lf (.ptr (some ⟨n,0⟩))]) (tri_0 (call_board_Board_All_c1 y ⟨n,0⟩) fun w S R h=>?_)
 unfold W_board_Board_All_c1
 refine w_ld h rfl ?_
 refine w_ite (fun c=>(by cases c)) fun c=>?_
 refine w_ld h rfl ?_
 have hs:=(h.rd (s:=s)).2
 refine w_deref (w_ld h rfl ?_)
 have h:Own _ _ _ _ (blk b [.sl s,.int .u64 v.2]^arr s K_u6b3 v.1^blk n [.ptr (some ⟨b,0⟩)]^I 0):=h.fin
 refine w_loop (fun (y:Int)=>blk b [.sl s,.int .u64 v.2]^arr s K_u6b3 v.1^blk n [.ptr (some ⟨b,0⟩)]^I y.toNat) (fun (y:Int)=>0≤y∧y.toNat≤v.1.length) (fun (y:Int)=>v.1.length - y.toNat) h ⟨Int.le_refl 0,by simp⟩ ?_
 rintro (i:Int) w ⟨h0,h1⟩ h
 refine w_ite (fun c=>?_) fun c=>?_
 ·have hi:i.toNat < v.1.length:=by simp at c;omega
  refine w_idx h h0 hi ?_
  refine w_ldE h s i.toNat (at_some hi) rfl ?_
  refine w_new h fun n9 w h=>?_
  refine w_setAll h (by rfl) fun w h=>?_
  refine w_ldAll h rfl ?_
  refine w_callv (hy i.toNat _ (at_some hi)) h fun r w h=>?_
  refine w_ite (fun c=>?_) fun c=>?_
  ·have hr:r=false:=by simpa using c
   rw [hr] at h
   have h:Own _ _ _ _ (D^_):=h
   have h:=h.eitherR (I v.1.length)
   exact h.fin
  ·have hr:r=true:=by simpa using c
   rw [hr] at h
   have h:Own _ _ _ _ (I (i.toNat+1)^_):=h
   rw [wi (by omega) (by omega)]
   have e:(i+1).toNat=i.toNat+1:=by omega
   refine ⟨⟨⟨(by show (0:Int)≤i+1;omega),(by show (i+1).toNat≤_;omega)⟩,?_⟩,(by show _ - (i+1).toNat < _;omega)⟩
   show Own _ _ _ _ (blk b [.sl s,.int .u64 v.2]^arr s K_u6b3 v.1^blk n [.ptr (some ⟨b,0⟩)]^I (i+1).toNat)
   rw [e]
   exact h.fin
 ·have hi:i.toNat=v.1.length:=by simp at c;omega
  rw [hi] at h
  have h:=h.take (I v.1.length)
  have h:=h.eitherL D
  exact h.fin
theorem lost_triS (b:Nat) (s:Sl) (v:List Pc × Int) (hl:v.1.length≤4294967296):Tri Tryz.prog N_board_Board_lost [.lf (.ptr (some ⟨b,0⟩))] [.lf (.int .i64)] (blk b [.sl s,.int .u64 v.2]^arr s K_u6b3 v.1) (fun r=>pur (r=fI pLo v.1) (blk b [.sl s,.int .u64 v.2]^arr s K_u6b3 v.1)) :=
 tri_n (W:=fun n R=>W_board_Board_lost n (some ⟨b,0⟩) R) (call_board_Board_lost _) fun w S R h=>by
  unfold W_board_Board_lost
  refine w_new h fun n1 w h=>?_
  refine w_new h fun n2 w h=>?_
  refine w_set h rfl fun w h=>?_
  dsimp only [upd,over] at h
  refine w_call (all_tri b) (h.le (star_emp _)) fun f w h=>?_
  obtain ⟨n,h⟩:=h.exP
  obtain ⟨hf,h⟩:=h.purP
  rw [hf]
  have h:=(h.take (blk n1 [.int .i64 0]^blk n2 [.int .i64 ((0:Nat):Int)])).toPur (p:=∀ j y,j < 0→v.1[j]?=some y→pLo y=false) (fun j y hj=>by omega)
  refine w_range (all_iterS n b s v hl) (fun i=>pur (∀ j y,j < i→v.1[j]?=some y→pLo y=false) (blk n1 [.int .i64 0]^blk n2 [.int .i64 (i:Int)])) (fun j=>pur (j=1) (blk n1 [.int .i64 (fI pLo v.1)])) h ?_ ?_ ?_
  ·intro i x hx w S R mid next jump rdy bsy hmid hnext hjump h
   have hi:i < v.1.length:=(List.getElem?_eq_some_iff.1 hx).1
   refine w_new h fun n8 w h=>?_
   refine w_setAll h (by rfl) fun w h=>?_
   refine hmid h fun w h=>?_
   have h:=h.take (pur (∀ j y,j < i→v.1[j]?=some y→pLo y=false) (blk n1 [.int .i64 0]^blk n2 [.int .i64 (i:Int)]))
   obtain ⟨hno,h⟩:=h.purP
   refine w_ld h rfl ?_
   refine w_ite (fun c=>?_) fun c=>?_
   ·refine w_ld h rfl ?_
    refine w_set h rfl fun w h=>?_
    dsimp only [upd,over] at h
    have e:fI pLo v.1=(i:Int):=fI_at hx c hno
    rw [← e] at h
    have h:=(h.take (blk n1 [.int .i64 (fI pLo v.1)])).toPur (p:=1=1) rfl
    exact hjump 1 (by decide) h
   ·refine w_ld h rfl ?_
    refine w_set h rfl fun w h=>?_
    dsimp only [upd,over] at h
    rw [wi (by omega) (by omega)] at h
    have h:Own _ _ _ _ (blk n2 [.int .i64 ((i+1:Nat):Int)]^_):=h
    have h:=(h.take (blk n1 [.int .i64 0]^blk n2 [.int .i64 ((i+1:Nat):Int)])).toPur (p:=∀ j y,j < i+1→v.1[j]?=some y→pLo y=false) (fun j y hj hy=>by
     by_cases hji:j=i
     ·rw [hji,hx] at hy;cases hy;exact c
     ·exact hno j y (by omega) hy)
    exact hnext h
  ·intro w h
   have h:=h.take (pur (∀ j y,j < v.1.length→v.1[j]?=some y→pLo y=false) (blk n1 [.int .i64 0]^blk n2 [.int .i64 (v.1.length:Int)]))
   obtain ⟨hno,h⟩:=h.purP
   refine w_set h rfl fun w h=>?_
   dsimp only [upd,over] at h
   refine w_ld h rfl ?_
   refine w_leave h fun w h=>?_
   refine Own.retP ?_ h.fin
   rw [fI_none]
   intro y hy
   obtain ⟨j,hj,rfl⟩:=List.mem_iff_getElem.1 hy
   exact hno j _ hj (at_some hj)
  ·intro j w hj h
   have h:=h.take (pur (j=1) (blk n1 [.int .i64 (fI pLo v.1)]))
   obtain ⟨hj1,h⟩:=h.purP
   rw [hj1]
   refine w_ld h rfl ?_
   refine w_leave h fun w h=>?_
   exact Own.retP rfl h.fin
def againP (p:Pc) (s:Snt):Pc:=(p.1,p.2.1,s.1,s.2.1,s.2.2.1,s.2.2.2.1,s.2.2.2.2,p.2.2.2.2.2.2.2.1,false)
def againF (l:List Pc) (s:Snt):List Pc:=match l[(fI pLo l).toNat]? with
 | some p=>if fI pLo l < 0 then l else l.set (fI pLo l).toNat (againP p s)
 | none=>l
theorem Again_tri (b:Nat) (s:Snt) (v:List Pc × Int) (hl:v.1.length≤4294967296):Tri Tryz.prog N_board_Board_Again [.lf (.ptr (some ⟨b,0⟩)),.agg (Ks.mk K_u4b s)] [.agg KR,.lf .bool] (brd b v) (fun r=>pur (r=lostF v.1) (brd b (againF v.1 s,v.2))) :=
 tri_0 (call_board_Board_Again _ s) fun w S R h=>by
  unfold W_board_Board_Again
  refine w_new h fun n1 w h=>?_
  refine w_new h fun n2 w h=>?_
  refine w_call (Lost_tri b v hl) h fun r w h=>?_
  obtain ⟨hr,h⟩:=h.purP
  rw [hr]
  refine w_new h fun n4 w h=>?_
  refine w_setAll h (by rfl) fun w h=>?_
  refine w_join h (fun _=>blk n4 (Ks.mk KR (lostF v.1).1)^blk n2 [.int .u64 0,.int .u64 0]^brd b (againF v.1 s,v.2)) (fun _=>True) (fun x w _ h=>?_) ?_
  ·refine w_ldAll h rfl ?_
   refine w_setAll h (by rfl) fun w h=>?_
   refine w_ldAll h rfl ?_
   exact Own.retP rfl h.fin
  ·by_cases c:0≤fI pLo v.1
   ·obtain ⟨p,hp,hpl,hlt,_⟩:=fI_some c
    have he:=lostF_yes c hp
    have ha:againF v.1 s=v.1.set (fI pLo v.1).toNat (againP p s):=by
     unfold againF
     rw [hp]
     simp only
     rw [if_neg (by omega)]
    refine w_ite (fun c2=>?_) fun c2=>by rw [he] at c2;cases c2
    refine w_drw h fun w h=>?_
    obtain ⟨sl,h⟩:=h.brd b
    refine w_deref (w_ld h rfl ?_)
    refine w_call (lost_triS b sl v hl) h fun r9 w h=>?_
    obtain ⟨hr9,h⟩:=h.purP
    rw [hr9]
    refine w_chk h rfl ?_
    refine w_idx h c hlt ?_
    refine w_drw h fun w h=>?_
    refine w_ldAll (x:=s) h rfl ?_
    refine w_deref ?_
    refine w_stA h sl (fI pLo v.1).toNat 8 p (setLo p false) hp rfl (by decide) (by simp) rfl fun w h=>?_
    refine w_chkAll h ?_
    refine w_deref ?_
    have hp2:(v.1.set (fI pLo v.1).toNat (setLo p false))[(fI pLo v.1).toNat]?=some (setLo p false):=by rw [List.getElem?_set_self hlt]
    refine w_stA h sl (fI pLo v.1).toNat 2 (setLo p false) (againP p s) hp2 rfl (by rw [Ks.len];decide) (by simp [Ks.mk]) rfl fun w h=>?_
    rw [List.set_set] at h
    rw [ha]
    exact ⟨trivial,(h.mkBrd b sl (v.1.set (fI pLo v.1).toNat (againP p s)) v.2).fin⟩
   ·have c:fI pLo v.1 < 0:=by omega
    have he:=lostF_no c
    have ha:againF v.1 s=v.1:=by
     unfold againF
     split
     ·rw [if_pos c]
     ·rfl
    refine w_ite (fun c2=>by rw [he] at c2;cases c2) fun c2=>?_
    rw [ha]
    exact ⟨trivial,h.fin⟩
theorem flight_still:∀ (B:List Pc) (n:Int),(∀ p∈B,flyP p=false)→B.foldl addF n=n
 | [],_,_=>rfl
 | p :: B,n,h=>by
  have hp:=h p List.mem_cons_self
  rw [List.foldl_cons,addF,if_neg (by rw [hp];simp)]
  exact flight_still B n (fun q hq=>h q (List.mem_cons_of_mem _ hq))
theorem lose_none (l:List Pc):flightF (l.map loseP)=0:=by
 rw [flightF]
 refine flight_still _ 0 fun p hp=>?_
 obtain ⟨q,_,rfl⟩:=List.mem_map.1 hp
 rw [loseP]
 split
 ·simp [flyP,pLo,setLo]
 ·rename_i h;simpa using h
end Board

namespace BoardLaws
open Board
abbrev KO:Ks:=K_i2u2su4b2
abbrev Opn:=Ks.T KO
abbrev oK (o:Opn):Int:=o.1
abbrev oN (o:Opn):Int:=o.2.1
abbrev oU (o:Opn):Int:=o.2.2.1
abbrev oS (o:Opn):Sl:=o.2.2.2.2.1
def Chain:Int→List Pc→Int→Prop
 | a,[],e=>a≤e
 | a,p :: l,e=>a≤pFrom p∧pFrom p < pTo p∧(pSk p=true→pLo p=false)∧Chain (pTo p) l e
structure OkB (n:Nat) (v:List Pc × Int):Prop where
 chain:Chain 0 v.1 v.2
 few:v.1.length≤n
 low:v.2≤5000 * (n:Int)
theorem wu_mod (n:Int):IntKind.u64.wrap n=n % 18446744073709551616:=by
 simp [IntKind.wrap,IntKind.bits,IntKind.signed]
theorem add_sub (n a b:Int):IntKind.u64.wrap (IntKind.u64.wrap (n+a) - b)=IntKind.u64.wrap (n+IntKind.u64.wrap (a - b)):=by
 simp only [wu_mod];omega
end BoardLaws

namespace RefBoard
open Board BoardLaws
theorem lose_or (p:Pc):(if pLo p then setLo p true else setLo p (!pSk p))=loseP p:=by
 obtain ⟨a1,a2,a3,a4,a5,a6,a7,a8,a9⟩:=p
 cases a8<;>cases a9<;>rfl
theorem r_within_tri (p:Pc) (a:Sl) (xs:List (Ks.T KR)) (hx:xs.length≤4294967296):Tri Tryz.prog N_canterref20_within [.agg (Ks.mk K_u6b3 p),.lf (.sl a)] [.lf .bool] (emp^rarr a KR xs) (fun r=>pur (r=xs.any (inF p)) emp) :=
 tri_0 (call_canterref20_within _ _) fun w0 S R h=>by
  unfold W_canterref20_within
  have ha:=(h.drop.rd (s:=a)).2
  refine w_new h fun n w h=>?_
  have h:Own w0 S R w (rarr a KR xs^blk n (Ks.mk K_u6b3 p)):=h.fin
  refine w_loop (fun (_:Int)=>rarr a KR xs^blk n (Ks.mk K_u6b3 p)) (fun (i:Int)=>(0≤i∧i≤xs.length)∧xs.any (inF p)=(xs.drop i.toNat).any (inF p)) (fun (i:Int)=>xs.length - i.toNat) h ⟨⟨by simp,by simp⟩,rfl⟩ ?_
  rintro (i:Int) w ⟨⟨h0,h1⟩,h2⟩ h
  refine w_ite (fun c=>?_) fun c=>?_
  ·have hi:i.toNat < xs.length:=by simp at c;omega
   obtain ⟨x,hx⟩:∃ x,xs[i.toNat]?=some x:=⟨_,at_some hi⟩
   have e:(i+1).toNat=i.toNat+1:=by omega
   rw [drop_at hx,List.any_cons] at h2
   have hgo:inF p x=false→(((0≤IntKind.i64.wrap (i+1)∧IntKind.i64.wrap (i+1)≤xs.length)∧xs.any (inF p)=(xs.drop (IntKind.i64.wrap (i+1)).toNat).any (inF p))∧Own w0 S R w (rarr a KR xs^blk n (Ks.mk K_u6b3 p)))∧xs.length - (IntKind.i64.wrap (i+1)).toNat < xs.length - i.toNat:=fun hf=>by
    rw [wi (n:=i+1) (by omega) (by omega),e]
    rw [hf,Bool.false_or] at h2
    exact ⟨⟨⟨⟨by omega,by omega⟩,h2⟩,h⟩,by omega⟩
   clear hgo
   refine w_drw h fun w h=>?_
   refine w_idx h h0 hi ?_
   refine w_ld h rfl ?_
   refine w_ldA h a i.toNat 0 x hx rfl (by decide) rfl ?_
   have hgo:inF p x=false→(((0≤IntKind.i64.wrap (i+1)∧IntKind.i64.wrap (i+1)≤xs.length)∧xs.any (inF p)=(xs.drop (IntKind.i64.wrap (i+1)).toNat).any (inF p))∧Own w0 S R w (rarr a KR xs^blk n (Ks.mk K_u6b3 p)))∧xs.length - (IntKind.i64.wrap (i+1)).toNat < xs.length - i.toNat:=fun hf=>by
    rw [wi (n:=i+1) (by omega) (by omega),e]
    rw [hf,Bool.false_or] at h2
    exact ⟨⟨⟨⟨by omega,by omega⟩,h2⟩,h⟩,by omega⟩
   refine w_ite (fun c=>?_) fun c=>?_
   ·refine w_idx h h0 hi ?_
    refine w_ld h rfl ?_
    refine w_ldA h a i.toNat 1 x hx rfl (by decide) rfl ?_
    refine w_ite (fun c2=>?_) fun c2=>?_
    ·refine Own.retP ?_ h.emp'
     have:inF p x=true:=by
      have c:decide (x.1≤p.1)=true:=c
      have c2:decide (x.2 ≥ p.2.1)=true:=c2
      rw [inF,c,c2];rfl
     rw [h2,this];rfl
    ·exact hgo (by
      have c:decide (x.1≤p.1)=true:=c
      have c2:decide (x.2 ≥ p.2.1)=false:=c2
      rw [inF,c,c2];rfl)
   ·exact hgo (by
     have c:decide (x.1≤p.1)=false:=c
     rw [inF,c];rfl)
  ·have hi:i.toNat=xs.length:=by simp at c;omega
   rw [hi,List.drop_length] at h2
   exact Own.retP (by rw [h2];rfl) h.emp'
theorem bad_take {e:Int} {xs:List (Int × Int)} {i:Nat} {x:Int × Int} (h:xs[i]?=some x):(xs.take (i+1)).any (outF e)=((xs.take i).any (outF e) || outF e x):=by
 rw [List.take_add_one,h,List.any_append];simp
def ackPost (b:Nat) (v:List Pc × Int) (upto:Int) (xs:List (Int × Int)) (r:Sl × Int × Int):SP :=
 cond (mayF v upto xs) (pur (r.2.1=(passF (restL upto xs v.1)).2.1∧r.2.2=0) (arr r.1 K_u6b3 (toldL upto xs v.1)^brd b ((passF (restL upto xs v.1)).1,v.2)))
  (pur (r.1=⟨none,0,0⟩∧r.2.1=0∧r.2.2=11) (arr r.1 K_u6b3 []^brd b v))
end RefBoard

end Go.X
