/- Contracts and plain facts: Plain Arith Wf TreeM TreeN BbrM BbrMm BbrF BbrG BbrH BbrLs. -/
import Derived.Test.YtniflenfpbbikaaGreatK
set_option linter.unusedVariables false
set_option linter.unusedSimpArgs false
set_option linter.unusedSectionVars false
namespace Go.X
abbrev KI:Ks:=[.int .i64]
abbrev KU:Ks:=[.int .u64]
abbrev KR:Ks:=[.int .u64,.int .u64]
abbrev KB:Ks:=[.bool]
theorem drop_at {α:Type} {l:List α} {i:Nat} {x:α} (h:l[i]?=some x):l.drop i=x :: l.drop (i+1):=by
 obtain ⟨hl,he⟩:=List.getElem?_eq_some_iff.1 h
 rw [← he];exact List.drop_eq_getElem_cons hl
theorem nodup_few:∀ (n:Nat) (l:List Int),l.Nodup→(∀ x∈l,0≤x∧x < (n:Int))→l.length≤n
 | 0,l,_,h=>by
  cases l with
  | nil=>simp
  | cons x l=>have:=h x (by simp);omega
 | n+1,l,hd,h=>by
  have h1:=nodup_few n (l.filter (fun x=>!decide (x=(n:Int)))) (hd.filter _) (fun x hx=>by
   rw [List.mem_filter] at hx
   have:=h x hx.1
   have h2:¬ x=(n:Int):=by simpa using hx.2
   omega)
  have h3:l.length≤(l.filter (fun x=>!decide (x=(n:Int)))).length+1:=by
   clear h1 h
   induction l with
   | nil=>simp
   | cons x l ih =>
    rw [List.nodup_cons] at hd
    by_cases hx:x=(n:Int)
    ·have:l.filter (fun x=>!decide (x=(n:Int)))=l:=by
      rw [List.filter_eq_self];intro y hy
      have:y≠x:=fun e=>hd.1 (e ▸ hy)
      simp;omega
     rw [List.filter_cons,if_neg (by simp [hx]),this];simp
    ·rw [List.filter_cons,if_pos (by simp [hx])]
     have:=ih hd.2
     simp only [List.length_cons];omega
  omega
section
variable {w0 w : World} {S0 R0 : Nat → Prop} {F G : SP}
theorem w_setTo {p:Pt} {ls:List Lf} {A:WP} {L:List Lf} (h:Own w0 S0 R0 w F) (b:Nat) (L':List Lf) [t:TakeB b F L G] (hp:p.b=b) (hx:Nat.ble (p.o+ls.length) L.length=true) (e:upd L p.o ls=L')
  (k:∀ w',Own w0 S0 R0 w' (X.blk b L'^G)→A w'):st p ls A w:=by
 subst hp
 subst e
 exact w_set h hx k
end
theorem least {α:Type} (P:α→Prop) (μ:α→Nat) (h:∃ a,P a):∃ n,(∃ a,P a∧μ a=n)∧∀ a,P a→n≤μ a:=by
 obtain ⟨a,ha⟩:=h
 have key:∀ k a,P a→μ a≤k→∃ n,(∃ a,P a∧μ a=n)∧∀ a,P a→n≤μ a:=by
  intro k
  induction k with
  | zero=>intro a ha hk;exact ⟨0,⟨a,ha,by omega⟩,fun _ _=>Nat.zero_le _⟩
  | succ k ih =>
   intro a ha hk
   by_cases hc:∃ c,P c∧μ c < μ a
   ·obtain ⟨c,hc,hlt⟩:=hc
    exact ih c hc (by omega)
   ·exact ⟨μ a,⟨a,ha,rfl⟩,fun c hc'=>Nat.le_of_not_lt fun hlt=>hc ⟨c,hc',hlt⟩⟩
 exact key _ a ha (Nat.le_refl _)
open Classical in
theorem w_loopE {w0 w:World} {S0 R0:Nat→Prop} {α:Type} {cs:List CK} {x₀:Ks.T cs} {B:(Ks.T cs→WP)→Ks.T cs→WP} (I:Ks.T cs→α→SP) (φ:Ks.T cs→α→Prop) (μ:Ks.T cs→α→Nat) (a₀:α) (h:Own w0 S0 R0 w (I x₀ a₀)) (h0:φ x₀ a₀)
  (hr:∀ (K:Ks.T cs→WP) x a w,φ x a→Own w0 S0 R0 w (I x a)→(∀ y c w',φ y c→Own w0 S0 R0 w' (I y c)→μ y c < μ x a→K y w')→B K x w):loop cs x₀ B w:=by
 refine ⟨fun x w=>∃ a,φ x a∧Own w0 S0 R0 w (I x a),fun x w=>if h:∃ a,φ x a∧Own w0 S0 R0 w (I x a) then Classical.choose (least _ (μ x) h) else 0,⟨a₀,h0,h⟩,?_⟩
 intro x w hx
 have hs:=Classical.choose_spec (least _ (μ x) hx)
 obtain ⟨⟨a,⟨hp,ha⟩,hn⟩,_⟩:=hs
 refine hr _ x a w hp ha fun y c w' hy ho hlt=>⟨⟨c,hy,ho⟩,?_⟩
 have hx':∃ c,φ y c∧Own w0 S0 R0 w' (I y c):=⟨c,hy,ho⟩
 have e1:(if h:∃ a,φ y a∧Own w0 S0 R0 w' (I y a) then Classical.choose (least _ (μ y) h) else 0)=Classical.choose (least _ (μ y) hx'):=dif_pos hx'
 have e2:(if h:∃ a,φ x a∧Own w0 S0 R0 w (I x a) then Classical.choose (least _ (μ x) h) else 0)=Classical.choose (least _ (μ x) hx):=dif_pos hx
 show (if h:∃ a,φ y a∧Own w0 S0 R0 w' (I y a) then Classical.choose (least _ (μ y) h) else 0) < (if h:∃ a,φ x a∧Own w0 S0 R0 w (I x a) then Classical.choose (least _ (μ x) h) else 0)
 rw [e1,e2,← hn]
 have:=(Classical.choose_spec (least _ (μ y) hx')).2 c ⟨hy,ho⟩
 omega

namespace Arith
abbrev M:Int:=18446744073709551616
def U (x:Int):Prop:=0≤x∧x < 18446744073709551616
def addI (a b:Int):Int:=if a+b < 18446744073709551616 then a+b else 18446744073709551615
def subI (a b:Int):Int:=if a < b then 0 else a - b
def mulI (a b:Int):Int:=if a * b < 18446744073709551616 then a * b else 18446744073709551615
def mdI (a b c:Int):Int:=if a * b=0 then 0 else if a * b < c * 18446744073709551616 then a * b / c else 18446744073709551615
theorem wm (n:Int):IntKind.u64.wrap n=n % 18446744073709551616:=by simp [IntKind.wrap,IntKind.bits,IntKind.signed]
theorem U_wrap (n:Int):U (IntKind.u64.wrap n):=wu_range n
theorem U_add {a b:Int} (ha:U a) (hb:U b):U (addI a b):=by unfold U addI at *;split<;>omega
theorem U_sub {a b:Int} (ha:U a) (hb:U b):U (subI a b):=by unfold U subI at *;split<;>omega
theorem U_mul {a b:Int} (ha:U a) (hb:U b):U (mulI a b):=by
 have:=Int.mul_nonneg ha.1 hb.1
 unfold mulI;split
 ·exact ⟨this,by assumption⟩
 ·unfold U;omega
theorem U_md {a b c:Int} (ha:U a) (hb:U b) (hc:U c):U (mdI a b c):=by
 have h:=Int.mul_nonneg ha.1 hb.1
 unfold mdI
 split
 ·unfold U;omega
 ·split
  ·rename_i h1
   refine ⟨Int.ediv_nonneg h hc.1,?_⟩
   have hc0:0 < c:=by rcases Int.lt_or_eq_of_le hc.1 with h2 | h2;exact h2;rw [← h2] at h1;omega
   exact Int.ediv_lt_of_lt_mul hc0 (by rw [Int.mul_comm 18446744073709551616];exact h1)
  ·unfold U;omega
theorem bvu {a:Int} (h:U a):(BitVec.ofInt 64 a).toNat=a.toNat:=by
 unfold U at h
 rw [BitVec.toNat_ofInt];simp;omega
theorem andm (a:Int):((BitVec.ofInt IntKind.u64.bits a &&& BitVec.ofInt IntKind.u64.bits 4294967295).toNat:Int)=a % 4294967296:=by
 show ((BitVec.ofInt 64 a &&& BitVec.ofInt 64 4294967295).toNat:Int)=_
 rw [BitVec.toNat_and,show (BitVec.ofInt 64 4294967295).toNat=2^32 - 1 by decide,Nat.and_two_pow_sub_one_eq_mod,BitVec.toNat_ofInt]
 simp;omega
theorem or1 {a b:Int} (i:Nat) (k:Int) (hk:0≤k) (ha:a=k * (2^i:Nat)) (h1:U a) (hb:0≤b) (hb2:b < (2^i:Nat)) (h2:U b):((BitVec.ofInt IntKind.u64.bits a ||| BitVec.ofInt IntKind.u64.bits b).toNat:Int)=a+b:=by
 show ((BitVec.ofInt 64 a ||| BitVec.ofInt 64 b).toNat:Int)=_
 rw [BitVec.toNat_or,bvu h1,bvu h2]
 obtain ⟨k,rfl⟩:=Int.eq_ofNat_of_zero_le hk
 obtain ⟨b,rfl⟩:=Int.eq_ofNat_of_zero_le hb
 have e:a=((2^i * k:Nat):Int):=by rw [ha,Nat.mul_comm];push_cast;rfl
 rw [e,Int.toNat_natCast,Int.toNat_natCast,← Nat.two_pow_add_eq_or_of_lt (by omega)]
 push_cast;rfl
theorem fdiv32 (a:Int):a.fdiv (2^min (32:Int).toNat IntKind.u64.bits)=a / 4294967296:=by
 show a.fdiv 4294967296=_
 exact Int.fdiv_eq_ediv_of_nonneg a (by decide)
theorem fdiv63 (a:Int):a.fdiv (2^min (63:Int).toNat IntKind.u64.bits)=a / 9223372036854775808:=by
 show a.fdiv 9223372036854775808=_
 exact Int.fdiv_eq_ediv_of_nonneg a (by decide)
theorem or_bit {r l:Int} (hl:U l):IntKind.u64.wrap (((BitVec.ofInt IntKind.u64.bits (IntKind.u64.wrap (r * 2^min (1:Int).toNat IntKind.u64.bits)) ||| BitVec.ofInt IntKind.u64.bits (l.fdiv (2^min (63:Int).toNat IntKind.u64.bits))).toNat:Nat):Int)=(2 * r) % 18446744073709551616+l / 9223372036854775808:=by
 rw [fdiv63]
 have e:IntKind.u64.wrap (r * 2^min (1:Int).toNat IntKind.u64.bits)=(2 * r) % 18446744073709551616:=by
  show IntKind.u64.wrap (r * 2)=_
  rw [wm,Int.mul_comm]
 rw [e]
 unfold U at hl
 rw [or1 1 ((2 * r) % 18446744073709551616 / 2) (by omega) (by show _=_ * (2:Int);omega) (by unfold U;omega) (by omega) (by show _ < (2:Int);omega) (by unfold U;omega),wm]
 omega
theorem or_one (q:Int):IntKind.u64.wrap (((BitVec.ofInt IntKind.u64.bits (IntKind.u64.wrap (q * 2^min (1:Int).toNat IntKind.u64.bits)) ||| BitVec.ofInt IntKind.u64.bits (1:Int)).toNat:Nat):Int)=(2 * q) % 18446744073709551616+1:=by
 have e:IntKind.u64.wrap (q * 2^min (1:Int).toNat IntKind.u64.bits)=(2 * q) % 18446744073709551616:=by
  show IntKind.u64.wrap (q * 2)=_
  rw [wm,Int.mul_comm]
 rw [e,or1 1 ((2 * q) % 18446744073709551616 / 2) (by omega) (by show _=_ * (2:Int);omega) (by unfold U;omega) (by omega) (by show _ < (2:Int);omega) (by unfold U;omega),wm]
 omega
theorem shl1 (q:Int):IntKind.u64.wrap (q * 2^min (1:Int).toNat IntKind.u64.bits)=(2 * q) % 18446744073709551616:=by
 show IntKind.u64.wrap (q * 2)=_
 rw [wm,Int.mul_comm]
structure Dv (N c q r l:Int) (i:Nat):Prop where
 step:(q * c+r) * 2^(64 - i)+l / 2^i=N
 r0:0≤r
 rc:r < c
 q0:0≤q
 ql:q < 2^i
 ul:U l
 ld:l % 2^i=0
 il:i≤64
theorem Dv.start {h l c:Int} (hl:U l) (hh:0≤h) (hc:h < c):Dv (h * 18446744073709551616+l) c 0 h l 0:=by
 refine ⟨?_,hh,hc,by omega,by omega,hl,by omega,by omega⟩
 simp
theorem Dv.last {N c q r l:Int} (d:Dv N c q r l 64) (hc:0 < c):q=N / c:=by
 have h:=d.step
 have hl:=d.ul
 unfold U at hl
 have:l / 2^64=0:=Int.ediv_eq_zero_of_lt hl.1 hl.2
 simp at h
 rw [show (18446744073709551616:Int)=2^64 by decide,this] at h
 have h:=h.symm
 rw [h,Int.add_zero,Int.add_comm,Int.add_mul_ediv_right _ _ (by omega),Int.ediv_eq_zero_of_lt d.r0 d.rc]
 omega
theorem Dv.next {N c q r l:Int} {i:Nat} (d:Dv N c q r l i) (hi:i < 64):(2 * r+l / 9223372036854775808 < c→Dv N c (2 * q) (2 * r+l / 9223372036854775808) (2 * l % 18446744073709551616) (i+1)) ∧
  (c≤2 * r+l / 9223372036854775808→Dv N c (2 * q+1) (2 * r+l / 9223372036854775808 - c) (2 * l % 18446744073709551616) (i+1)):=by
 obtain ⟨h1,h2,h3,h4,h5,h6,h7,h8⟩:=d
 unfold U at h6
 obtain ⟨m,hm⟩:∃ m:Int,l=m * 2^i:=⟨l / 2^i,(Int.ediv_mul_cancel (Int.dvd_of_emod_eq_zero h7)).symm⟩
 have p:(0:Int) < 2^i:=Int.pow_pos (by decide)
 have e1:l / 2^i=m:=by rw [hm];exact Int.mul_ediv_cancel _ (by omega)
 obtain ⟨b,hb⟩:∃ b,l / 9223372036854775808=b:=⟨_,rfl⟩
 have hb01:b=0∨b=1:=by omega
 have e2:2 * l % 18446744073709551616=2 * l - b * 18446744073709551616:=by omega
 have hp:(2:Int)^(64 - i)=2 * 2^(64 - (i+1)):=by
  rw [show 64 - i=(64 - (i+1))+1 by omega,Int.pow_succ];omega
 have hpp:(2:Int)^(64 - (i+1)) * 2^(i+1)=18446744073709551616:=by
  rw [← Int.pow_add,show 64 - (i+1)+(i+1)=64 by omega];decide
 have hp1:(2:Int)^(i+1)=2 * 2^i:=by rw [Int.pow_succ];omega
 obtain ⟨P,hP⟩:∃ P:Int,(2:Int)^(64 - (i+1))=P:=⟨_,rfl⟩
 obtain ⟨Q,hQ⟩:∃ Q:Int,(2:Int)^i=Q:=⟨_,rfl⟩
 rw [hp1,hQ,hP] at hpp
 rw [hQ] at hm p e1 h5 h1
 rw [hP] at hp
 have e3:2 * l - b * 18446744073709551616=(m - b * P) * (2 * Q):=by
  rw [← hpp,hm,Int.sub_mul]
  have:2 * (m * Q)=m * (2 * Q):=by rw [Int.mul_left_comm]
  rw [this,Int.mul_assoc]
 have e4:(2 * l % 18446744073709551616) / 2^(i+1)=m - b * P:=by
  rw [e2,e3,hp1,hQ];exact Int.mul_ediv_cancel _ (by omega)
 have e5:(2 * l % 18446744073709551616) % 2^(i+1)=0:=by
  rw [e2,e3,hp1,hQ];exact Int.mul_emod_left _ _
 have hU:U (2 * l % 18446744073709551616):=by unfold U;omega
 rw [hb]
 rw [hp,e1] at h1
 have key:(2 * (q * c+r)+b) * P+(m - b * P)=N:=by
  rw [← h1,Int.add_mul]
  have:2 * (q * c+r) * P=(q * c+r) * (2 * P):=by rw [Int.mul_comm 2,Int.mul_assoc]
  omega
 refine ⟨fun h=>⟨?_,by omega,h,by omega,by rw [hp1,hQ];omega,hU,e5,by omega⟩,fun h=>⟨?_,by omega,by omega,by omega,by rw [hp1,hQ];omega,hU,e5,by omega⟩⟩
 ·rw [e4,hP,← key]
  have:2 * q * c+(2 * r+b)=2 * (q * c+r)+b:=by rw [Int.mul_assoc];omega
  rw [this]
 ·rw [e4,hP,← key]
  have:(2 * q+1) * c+(2 * r+b - c)=2 * (q * c+r)+b:=by rw [Int.add_mul,Int.mul_assoc];omega
  rw [this]
def rateI (bw g:Int):Int:=mdI bw g 256
def bdpI (bw rtt g:Int):Int:=mdI (mdI bw rtt 1000000000) g 256
def winI (bw rtt g tso mss:Int):Int:=if rtt=0 then mulI 10 mss else if mulI 4 mss > addI (bdpI bw rtt g) (mulI 3 tso) then mulI 4 mss else addI (bdpI bw rtt g) (mulI 3 tso)
theorem U_lit (x:Int) (h:0≤x∧x < 18446744073709551616:=by omega):U x:=h
theorem U_rate {bw g:Int} (hb:U bw) (hg:U g):U (rateI bw g):=U_md hb hg (U_lit 256)
theorem U_bdp {bw rtt g:Int} (hb:U bw) (hq:U rtt) (hg:U g):U (bdpI bw rtt g):=U_md (U_md hb hq (U_lit _)) hg (U_lit 256)
theorem U_win {bw rtt g tso mss:Int} (hb:U bw) (hq:U rtt) (hg:U g) (ht:U tso) (hm:U mss):U (winI bw rtt g tso mss):=by
 unfold winI
 split
 ·exact U_mul (U_lit _) hm
 ·split
  ·exact U_mul (U_lit _) hm
  ·exact U_add (U_bdp hb hq hg) (U_mul (U_lit _) ht)
end Arith

namespace Wf
open Arith
theorem u {n:Int} (h:(Lit.int .u64 n).wf=true):U n:=by
 have h:IntKind.u64.min≤n∧n≤IntKind.u64.max:=by simpa [Lit.wf] using h
 have e1:IntKind.u64.min=0:=by decide
 have e2:IntKind.u64.max=18446744073709551615:=by decide
 unfold U
 omega
theorem i {n:Int} (h:(Lit.int .i64 n).wf=true):-9223372036854775808≤n∧n < 9223372036854775808:=by
 have h:IntKind.i64.min≤n∧n≤IntKind.i64.max:=by simpa [Lit.wf] using h
 have e1:IntKind.i64.min=-9223372036854775808:=by decide
 have e2:IntKind.i64.max=9223372036854775807:=by decide
 omega
end Wf

namespace Tree
abbrev Nd:=Int × Int × Int × Int × Int
abbrev Key:=Int × Int
def klt (a b:Key):Bool:=decide (a.1 < b.1) || (decide (a.1=b.1) && decide (a.2 < b.2))
theorem klt_iff {a b:Key}:klt a b=true↔a.1 < b.1∨(a.1=b.1∧a.2 < b.2):=by simp [klt]
theorem klt_irr (a:Key):klt a a=false:=by
 cases h:klt a a with
 | false=>rfl
 | true=>rw [klt_iff] at h;omega
theorem klt_trans {a b c:Key} (h:klt a b=true) (k:klt b c=true):klt a c=true:=by rw [klt_iff] at *;omega
theorem klt_asym {a b:Key} (h:klt a b=true):klt b a=false:=by
 cases h2:klt b a with
 | false=>rfl
 | true=>rw [klt_iff] at *;omega
theorem key_ext {a b:Key} (h:a.1=b.1) (k:a.2=b.2):a=b:=by cases a;cases b;simp at h k;simp [h,k]
theorem klt_tot {a b:Key} (h:klt a b=false) (hne:a≠b):klt b a=true:=by
 rw [klt_iff]
 have h2:¬ (a.1 < b.1∨(a.1=b.1∧a.2 < b.2)):=by rw [← klt_iff,h];simp
 by_cases h1:a.1=b.1
 ·by_cases h3:a.2=b.2
  ·exact absurd (key_ext h1 h3) hne
  ·omega
 ·omega
inductive Tr where
 | e
 | n (l:Tr) (i:Nat) (k:Key) (r:Tr)
namespace Tr
def rt:Tr→Int
 | e=>-1
 | n _ i _ _=>i
def ht:Tr→Int
 | e=>0
 | n l _ _ r=>max l.ht r.ht+1
def ids:Tr→List Nat
 | e=>[]
 | n l i _ r=>l.ids++i :: r.ids
def ino:Tr→List Key
 | e=>[]
 | n l _ k r=>l.ino++k :: r.ino
def avl:Tr→Prop
 | e=>True
 | n l _ _ r=>l.avl∧r.avl∧l.ht≤r.ht+1∧r.ht≤l.ht+1
theorem ht_nn:∀ t:Tr,0≤t.ht
 | e=>by simp [ht]
 | n l _ _ r=>by have:=ht_nn l;simp only [ht];omega
theorem ht_pos {t:Tr} (h:0 < t.ht):∃ l i k r,t=n l i k r:=by
 cases t with
 | e=>simp [ht] at h
 | n l i k r=>exact ⟨_,_,_,_,rfl⟩
theorem rt_mem {t:Tr} {i:Nat} (h:t.rt=(i:Int)):i∈t.ids:=by
 cases t with
 | e=>simp only [rt] at h;omega
 | n l j k r =>
  have h:(j:Int)=i:=h
  have h:j=i:=by omega
  simp [ids,h]
theorem len_ids:∀ t:Tr,t.ids.length=t.ino.length
 | e=>rfl
 | n l i k r=>by simp [ids,ino,len_ids l,len_ids r]
end Tr
open Tr
def Rep (l:List Nd):Tr→Prop
 | e=>True
 | n L i k R=>l[i]?=some (k.1,k.2,L.rt,R.rt,max L.ht R.ht+1)∧Rep l L∧Rep l R
theorem Rep.frame {l l':List Nd}:∀ {t:Tr},Rep l t→(∀ j∈t.ids,l'[j]?=l[j]?)→Rep l' t
 | e,_,_=>trivial
 | n L i k R,⟨h1,h2,h3⟩,hf=>⟨by rw [hf i (by simp [ids])];exact h1,h2.frame fun j hj=>hf j (by simp [ids,hj]),h3.frame fun j hj=>hf j (by simp [ids,hj])⟩
theorem Rep.lt {l:List Nd}:∀ {t:Tr},Rep l t→∀ j∈t.ids,j < l.length
 | e,_,_,hj=>by simp [ids] at hj
 | n L i k R,⟨h1,h2,h3⟩,j,hj=>by
  simp only [ids,List.mem_append,List.mem_cons] at hj
  rcases hj with hj | rfl | hj
  ·exact h2.lt j hj
  ·exact (List.getElem?_eq_some_iff.1 h1).1
  ·exact h3.lt j hj
def nth (l:List Nd) (i:Int):Nd:=l.getD i.toNat (0,0,0,0,0)
abbrev lt (l:List Nd) (i:Int):Int:=(nth l i).2.2.1
abbrev rtt (l:List Nd) (i:Int):Int:=(nth l i).2.2.2.1
def hiL (l:List Nd) (i:Int):Int:=if i=-1 then 0 else (nth l i).2.2.2.2
def mendL (l:List Nd) (i:Int):List Nd:=l.set i.toNat ((nth l i).1,(nth l i).2.1,(nth l i).2.2.1,(nth l i).2.2.2.1,max (hiL l (lt l i)) (hiL l (rtt l i))+1)
def setLt (l:List Nd) (i v:Int):List Nd:=l.set i.toNat ((nth l i).1,(nth l i).2.1,v,(nth l i).2.2.2.1,(nth l i).2.2.2.2)
def setRt (l:List Nd) (i v:Int):List Nd:=l.set i.toNat ((nth l i).1,(nth l i).2.1,(nth l i).2.2.1,v,(nth l i).2.2.2.2)
def turnLL (l:List Nd) (i:Int):List Nd × Int:=(mendL (mendL (setLt (setRt l i (lt l (rtt l i))) (rtt l i) i) i) (rtt l i),rtt l i)
def turnRL (l:List Nd) (i:Int):List Nd × Int:=(mendL (mendL (setRt (setLt l i (rtt l (lt l i))) (lt l i) i) i) (lt l i),lt l i)
def leanL (l:List Nd) (i:Int):Int:=hiL l (lt l i) - hiL l (rtt l i)
def evenL (l:List Nd) (i:Int):List Nd × Int :=
 if leanL (mendL l i) i > 1 then
  turnRL (if leanL (mendL l i) (lt (mendL l i) i) < 0 then setLt (turnLL (mendL l i) (lt (mendL l i) i)).1 i (turnLL (mendL l i) (lt (mendL l i) i)).2 else mendL l i) i
 else if leanL (mendL l i) i < -1 then
  turnLL (if leanL (mendL l i) (rtt (mendL l i) i) > 0 then setRt (turnRL (mendL l i) (rtt (mendL l i) i)).1 i (turnRL (mendL l i) (rtt (mendL l i) i)).2 else mendL l i) i
 else (mendL l i,i)
theorem nth_of {l:List Nd} {i:Nat} {x:Nd} (h:l[i]?=some x):nth l (i:Int)=x:=by
 simp [nth,List.getD_eq_getElem?_getD,h]
theorem hi_rep {l:List Nd} {t:Tr} (h:Rep l t):hiL l t.rt=t.ht:=by
 cases t with
 | e=>simp [hiL,rt,ht]
 | n L i k R =>
  have e:(i:Int)≠-1:=by omega
  simp only [hiL,rt,if_neg e,nth_of h.1,ht]
theorem set_at {l:List Nd} {i:Nat} {x:Nd} (y:Nd) (h:l[i]?=some x):(l.set i y)[i]?=some y:=by
 rw [List.getElem?_set_self (List.getElem?_eq_some_iff.1 h).1]
theorem mend_at {l:List Nd} {i:Nat} {k:Key} {L R:Tr} {h0:Int} (h:l[i]?=some (k.1,k.2,L.rt,R.rt,h0)) (hL:Rep l L) (hR:Rep l R):(mendL l i)[i]?=some (k.1,k.2,L.rt,R.rt,max L.ht R.ht+1):=by
 have e1:lt l (i:Int)=L.rt:=by rw [lt,nth_of h]
 have e2:rtt l (i:Int)=R.rt:=by rw [rtt,nth_of h]
 simp only [mendL,nth_of h,e1,e2,hi_rep hL,hi_rep hR,Int.toNat_natCast]
 exact set_at _ h
theorem mend_ne {l:List Nd} {i j:Nat} (h:j≠i):(mendL l i)[j]?=l[j]?:=by
 simp only [mendL,Int.toNat_natCast]
 exact List.getElem?_set_ne (Ne.symm h)
theorem setLt_at {l:List Nd} {i:Nat} {x:Nd} (v:Int) (h:l[i]?=some x):(setLt l i v)[i]?=some (x.1,x.2.1,v,x.2.2.2.1,x.2.2.2.2):=by
 simp only [setLt,nth_of h,Int.toNat_natCast];exact set_at _ h
theorem setLt_ne {l:List Nd} {i j:Nat} {v:Int} (h:j≠i):(setLt l i v)[j]?=l[j]?:=by
 simp only [setLt,Int.toNat_natCast];exact List.getElem?_set_ne (Ne.symm h)
theorem setRt_at {l:List Nd} {i:Nat} {x:Nd} (v:Int) (h:l[i]?=some x):(setRt l i v)[i]?=some (x.1,x.2.1,x.2.2.1,v,x.2.2.2.2):=by
 simp only [setRt,nth_of h,Int.toNat_natCast];exact set_at _ h
theorem setRt_ne {l:List Nd} {i j:Nat} {v:Int} (h:j≠i):(setRt l i v)[j]?=l[j]?:=by
 simp only [setRt,Int.toNat_natCast];exact List.getElem?_set_ne (Ne.symm h)
theorem mend_len (l:List Nd) (i:Int):(mendL l i).length=l.length:=by simp [mendL]
theorem setLt_len (l:List Nd) (i v:Int):(setLt l i v).length=l.length:=by simp [setLt]
theorem setRt_len (l:List Nd) (i v:Int):(setRt l i v).length=l.length:=by simp [setRt]
theorem turnL_len (l:List Nd) (i:Int):(turnLL l i).1.length=l.length:=by simp [turnLL,mend_len,setLt_len,setRt_len]
theorem turnR_len (l:List Nd) (i:Int):(turnRL l i).1.length=l.length:=by simp [turnRL,mend_len,setLt_len,setRt_len]
theorem even_len (l:List Nd) (i:Int):(evenL l i).1.length=l.length:=by
 unfold evenL;split
 ·rw [turnR_len];split<;>simp [setLt_len,turnL_len,mend_len]
 ·split
  ·rw [turnL_len];split<;>simp [setRt_len,turnR_len,mend_len]
  ·exact mend_len _ _
theorem turnL_rep {l:List Nd} {A B C:Tr} {i j:Nat} {k m:Key} {h0 h1:Int} (hi:l[i]?=some (k.1,k.2,A.rt,(j:Int),h0)) (hj:l[j]?=some (m.1,m.2,B.rt,C.rt,h1)) (hA:Rep l A) (hB:Rep l B) (hC:Rep l C)
  (hd:(A.ids++i :: (B.ids++j :: C.ids)).Nodup):(turnLL l i).2=j∧Rep (turnLL l i).1 (n (n A i k B) j m C)∧∀ p,p≠i→p≠j→(turnLL l i).1[p]?=l[p]?:=by
 simp only [List.nodup_append,List.nodup_cons,List.mem_append,List.mem_cons,not_or] at hd
 obtain ⟨dA,⟨⟨iB,ij,iC⟩,dB,⟨jC,dC⟩,dBC⟩,dA'⟩:=hd
 have er:rtt l (i:Int)=j:=by rw [rtt,nth_of hi]
 have e1:lt l (j:Int)=B.rt:=by rw [lt,nth_of hj]
 have a1:=setRt_at B.rt hi
 have a2:(setRt l i B.rt)[j]?=_:=(setRt_ne (Ne.symm ij)).trans hj
 have b2:=setLt_at (i:Int) a2
 have b1:(setLt (setRt l i B.rt) j i)[i]?=_:=(setLt_ne ij).trans a1
 have fA:∀ p∈A.ids,p≠i∧p≠j:=fun p hp=>⟨fun e=>dA' p hp i (.inl rfl) e,fun e=>dA' p hp j (.inr (.inr (.inl rfl))) e⟩
 have fB:∀ p∈B.ids,p≠i∧p≠j:=fun p hp=>⟨fun e=>iB (e ▸ hp),fun e=>dBC p hp j (.inl rfl) e⟩
 have fC:∀ p∈C.ids,p≠i∧p≠j:=fun p hp=>⟨fun e=>iC (e ▸ hp),fun e=>jC (e ▸ hp)⟩
 have fr:∀ p,p≠i→p≠j→(setLt (setRt l i B.rt) j i)[p]?=l[p]?:=fun p h1 h2=>(setLt_ne h2).trans (setRt_ne h1)
 have gA:Rep (setLt (setRt l i B.rt) j i) A:=hA.frame fun p hp=>fr p (fA p hp).1 (fA p hp).2
 have gB:Rep (setLt (setRt l i B.rt) j i) B:=hB.frame fun p hp=>fr p (fB p hp).1 (fB p hp).2
 have gC:Rep (setLt (setRt l i B.rt) j i) C:=hC.frame fun p hp=>fr p (fC p hp).1 (fC p hp).2
 have c1:=mend_at b1 gA gB
 have kA:Rep (mendL (setLt (setRt l i B.rt) j i) i) A:=gA.frame fun p hp=>mend_ne (fA p hp).1
 have kB:Rep (mendL (setLt (setRt l i B.rt) j i) i) B:=gB.frame fun p hp=>mend_ne (fB p hp).1
 have kC:Rep (mendL (setLt (setRt l i B.rt) j i) i) C:=gC.frame fun p hp=>mend_ne (fC p hp).1
 have kI:Rep (mendL (setLt (setRt l i B.rt) j i) i) (n A i k B):=⟨c1,kA,kB⟩
 have c2:(mendL (setLt (setRt l i B.rt) j i) i)[j]?=some (m.1,m.2,(n A i k B).rt,C.rt,h1):=(mend_ne (Ne.symm ij)).trans b2
 have d:=mend_at c2 kI kC
 have et:turnLL l i=(mendL (mendL (setLt (setRt l i B.rt) j i) i) j,(j:Int)):=by simp only [turnLL,er,e1]
 rw [et]
 have fI:∀ p∈(n A i k B).ids,p≠j:=fun p hp=>by
  simp only [ids,List.mem_append,List.mem_cons] at hp
  rcases hp with hp | rfl | hp
  ·exact (fA p hp).2
  ·exact ij
  ·exact (fB p hp).2
 exact ⟨rfl,⟨d,kI.frame fun p hp=>mend_ne (fI p hp),kC.frame fun p hp=>mend_ne (fC p hp).2⟩,fun p h1 h2=>(mend_ne h2).trans ((mend_ne h1).trans (fr p h1 h2))⟩
theorem turnR_rep {l:List Nd} {A B C:Tr} {i j:Nat} {k m:Key} {h0 h1:Int} (hi:l[i]?=some (k.1,k.2,(j:Int),C.rt,h0)) (hj:l[j]?=some (m.1,m.2,A.rt,B.rt,h1)) (hA:Rep l A) (hB:Rep l B) (hC:Rep l C)
  (hd:((A.ids++j :: B.ids)++i :: C.ids).Nodup):(turnRL l i).2=j∧Rep (turnRL l i).1 (n A j m (n B i k C))∧∀ p,p≠i→p≠j→(turnRL l i).1[p]?=l[p]?:=by
 simp only [List.nodup_append,List.nodup_cons,List.mem_append,List.mem_cons] at hd
 obtain ⟨⟨dA,⟨jB,dB⟩,dAB⟩,⟨iC,dC⟩,dd⟩:=hd
 have ij:i≠j:=fun e=>dd j (.inr (.inl rfl)) i (.inl rfl) e.symm
 have er:lt l (i:Int)=j:=by rw [lt,nth_of hi]
 have e1:rtt l (j:Int)=B.rt:=by rw [rtt,nth_of hj]
 have a1:=setLt_at B.rt hi
 have a2:(setLt l i B.rt)[j]?=_:=(setLt_ne (Ne.symm ij)).trans hj
 have b2:=setRt_at (i:Int) a2
 have b1:(setRt (setLt l i B.rt) j i)[i]?=_:=(setRt_ne ij).trans a1
 have fA:∀ p∈A.ids,p≠i∧p≠j:=fun p hp=>⟨fun e=>dd p (.inl hp) i (.inl rfl) e,fun e=>dAB p hp j (.inl rfl) e⟩
 have fB:∀ p∈B.ids,p≠i∧p≠j:=fun p hp=>⟨fun e=>dd p (.inr (.inr hp)) i (.inl rfl) e,fun e=>jB (e ▸ hp)⟩
 have fC:∀ p∈C.ids,p≠i∧p≠j:=fun p hp=>⟨fun e=>iC (e ▸ hp),fun e=>dd j (.inr (.inl rfl)) p (.inr hp) e.symm⟩
 have fr:∀ p,p≠i→p≠j→(setRt (setLt l i B.rt) j i)[p]?=l[p]?:=fun p h1 h2=>(setRt_ne h2).trans (setLt_ne h1)
 have gA:Rep (setRt (setLt l i B.rt) j i) A:=hA.frame fun p hp=>fr p (fA p hp).1 (fA p hp).2
 have gB:Rep (setRt (setLt l i B.rt) j i) B:=hB.frame fun p hp=>fr p (fB p hp).1 (fB p hp).2
 have gC:Rep (setRt (setLt l i B.rt) j i) C:=hC.frame fun p hp=>fr p (fC p hp).1 (fC p hp).2
 have c1:=mend_at b1 gB gC
 have kA:Rep (mendL (setRt (setLt l i B.rt) j i) i) A:=gA.frame fun p hp=>mend_ne (fA p hp).1
 have kB:Rep (mendL (setRt (setLt l i B.rt) j i) i) B:=gB.frame fun p hp=>mend_ne (fB p hp).1
 have kC:Rep (mendL (setRt (setLt l i B.rt) j i) i) C:=gC.frame fun p hp=>mend_ne (fC p hp).1
 have kI:Rep (mendL (setRt (setLt l i B.rt) j i) i) (n B i k C):=⟨c1,kB,kC⟩
 have c2:(mendL (setRt (setLt l i B.rt) j i) i)[j]?=some (m.1,m.2,A.rt,(n B i k C).rt,h1):=(mend_ne (Ne.symm ij)).trans b2
 have d:=mend_at c2 kA kI
 have et:turnRL l i=(mendL (mendL (setRt (setLt l i B.rt) j i) i) j,(j:Int)):=by simp only [turnRL,er,e1]
 rw [et]
 have fI:∀ p∈(n B i k C).ids,p≠j:=fun p hp=>by
  simp only [ids,List.mem_append,List.mem_cons] at hp
  rcases hp with hp | rfl | hp
  ·exact (fB p hp).2
  ·exact ij
  ·exact (fC p hp).2
 exact ⟨rfl,⟨d,kA.frame fun p hp=>mend_ne (fA p hp).2,kI.frame fun p hp=>mend_ne (fI p hp)⟩,fun p h1 h2=>(mend_ne h2).trans ((mend_ne h1).trans (fr p h1 h2))⟩
structure Evn (l l':List Nd) (r:Int) (L:Tr) (i:Nat) (k:Key) (R T:Tr):Prop where
 root:r=T.rt
 rep:Rep l' T
 avl:T.avl
 ino:T.ino=L.ino++k :: R.ino
 ids:T.ids=L.ids++i :: R.ids
 fr:∀ p,p ∉ L.ids++i :: R.ids→l'[p]?=l[p]?
 lo:max L.ht R.ht≤T.ht
 hi:T.ht≤max L.ht R.ht+1
 st:L.ht≤R.ht+1→R.ht≤L.ht+1→T.ht=max L.ht R.ht+1
theorem even_rep {l:List Nd} {L R:Tr} {i:Nat} {k:Key} {h0:Int} (hi:l[i]?=some (k.1,k.2,L.rt,R.rt,h0)) (hL:Rep l L) (hR:Rep l R) (aL:L.avl) (aR:R.avl) (hd:(L.ids++i :: R.ids).Nodup)
  (h1:L.ht≤R.ht+2) (h2:R.ht≤L.ht+2):∃ T,Evn l (evenL l i).1 (evenL l i).2 L i k R T:=by
 have hd0:=hd
 simp only [List.nodup_append,List.nodup_cons,List.mem_cons] at hd
 obtain ⟨dL,⟨iR,dR⟩,dd⟩:=hd
 have iL:i ∉ L.ids:=fun hp=>dd i hp i (.inl rfl) rfl
 have m1:=mend_at hi hL hR
 have mf:∀ p,p≠i→(mendL l i)[p]?=l[p]?:=fun p hp=>mend_ne hp
 have gL:Rep (mendL l i) L:=hL.frame fun p hp=>mf p fun e=>iL (e ▸ hp)
 have gR:Rep (mendL l i) R:=hR.frame fun p hp=>mf p fun e=>iR (e ▸ hp)
 have el:lt (mendL l i) (i:Int)=L.rt:=by rw [lt,nth_of m1]
 have er:rtt (mendL l i) (i:Int)=R.rt:=by rw [rtt,nth_of m1]
 have en:leanL (mendL l i) i=L.ht - R.ht:=by rw [leanL,el,er,hi_rep gL,hi_rep gR]
 by_cases c1:L.ht - R.ht > 1
 ·have hR0:=R.ht_nn
  obtain ⟨a,j,m,b,hLn⟩:=ht_pos (t:=L) (by omega)
  subst hLn
  have gj:=gL.1
  have eln:leanL (mendL l i) (j:Int)=a.ht - b.ht:=by rw [leanL,lt,rtt,nth_of gj];exact congr (congrArg _ (hi_rep gL.2.1)) (hi_rep gL.2.2)
  have hj':(n a j m b).rt=(j:Int):=rfl
  rw [hj'] at el
  obtain ⟨aa,ab,a1,a2⟩:=aL
  simp only [ht] at h1 h2 c1
  by_cases c2:a.ht - b.ht < 0
  ·have ha0:=a.ht_nn
   obtain ⟨b1,x,y,b2,hb⟩:=ht_pos (t:=b) (by omega)
   subst hb
   have gb:=gL.2.2
   have hn1:(a.ids++j :: (b1.ids++x :: b2.ids)).Nodup:=dL
   obtain ⟨t2,tr,tf⟩:=turnL_rep (A:=a) (B:=b1) (C:=b2) (i:=j) (j:=x) (k:=m) (m:=y) gj gb.1 gL.2.1 gb.2.1 gb.2.2 hn1
   have xi:x≠i:=fun e=>iL (by rw [← e];simp [ids])
   have ji:j≠i:=fun e=>iL (by rw [← e];simp [ids])
   have u1:(turnLL (mendL l i) j).1[i]?=_:=(tf i (Ne.symm ji) (Ne.symm xi)).trans m1
   have u2:=setLt_at ((x:Nat):Int) u1
   have ids1:∀ p,p∈(n (n a j m b1) x y b2).ids→p≠i:=fun p hp e=>iL (by rw [← e];simp only [ids,List.append_assoc,List.cons_append] at hp ⊢;exact hp)
   have v1:Rep (setLt (turnLL (mendL l i) j).1 i x) (n (n a j m b1) x y b2):=tr.frame fun p hp=>setLt_ne (ids1 p hp)
   have v2:Rep (setLt (turnLL (mendL l i) j).1 i x) R:=gR.frame fun p hp=>(setLt_ne (show p≠i from fun e=>iR (e ▸ hp))).trans (tf p (fun e=>dd j (by simp [ids]) p (.inr hp) e.symm) (fun e=>dd x (by simp [ids]) p (.inr hp) e.symm))
   have hn2:(((n a j m b1).ids++x :: b2.ids)++i :: R.ids).Nodup:=by simp only [ids,List.append_assoc,List.cons_append] at hd0 ⊢;exact hd0
   obtain ⟨w2,wr,wf⟩:=turnR_rep (A:=n a j m b1) (B:=b2) (C:=R) (i:=i) (j:=x) (k:=k) (m:=y) u2 v1.1 v1.2.1 v1.2.2 v2 hn2
   simp only [avl,ht] at ab a1 a2 c1 c2 h1 h2
   have ee:evenL l i=turnRL (setLt (turnLL (mendL l i) j).1 i x) i:=by
    rw [evenL,if_pos (by rw [en];simp only [ht];omega),el,if_pos (by rw [eln];simp only [ht];omega),t2]
   refine ⟨n (n a j m b1) x y (n b2 i k R),?_⟩
   rw [ee]
   refine ⟨w2,wr,?_,by simp [ino],by simp [ids],fun p hp=>?_,?_,?_,?_⟩
   ·simp only [avl,ht];refine ⟨⟨aa,ab.1,?_,?_⟩,⟨ab.2.1,aR,?_,?_⟩,?_,?_⟩<;>omega
   ·simp only [ids,List.mem_append,List.mem_cons,not_or] at hp
    obtain ⟨⟨p1,p2,p3,p4,p5⟩,p6,p7⟩:=hp
    rw [wf p p6 p4,setLt_ne p6,tf p p2 p4,mf p p6]
   ·simp only [ht];omega
   ·simp only [ht];omega
   ·simp only [ht];omega
  ·obtain ⟨w2,wr,wf⟩:=turnR_rep (A:=a) (B:=b) (C:=R) (i:=i) (j:=j) (k:=k) (m:=m) m1 gj gL.2.1 gL.2.2 gR hd0
   have ee:evenL l i=turnRL (mendL l i) i:=by
    rw [evenL,if_pos (by rw [en];simp only [ht];omega),el,if_neg (by rw [eln];exact c2)]
   refine ⟨n a j m (n b i k R),?_⟩
   rw [ee]
   refine ⟨w2,wr,?_,by simp [ino],by simp [ids],fun p hp=>?_,?_,?_,?_⟩
   ·simp only [avl,ht];refine ⟨aa,⟨ab,aR,?_,?_⟩,?_,?_⟩<;>omega
   ·simp only [ids,List.mem_append,List.mem_cons,not_or] at hp
    obtain ⟨⟨p1,p2,p3⟩,p6,p7⟩:=hp
    rw [wf p p6 p2,mf p p6]
   ·simp only [ht];omega
   ·simp only [ht];omega
   ·simp only [ht];omega
 ·by_cases c3:L.ht - R.ht < -1
  ·have hL0:=L.ht_nn
   obtain ⟨a,j,m,b,hRn⟩:=ht_pos (t:=R) (by omega)
   subst hRn
   have gj:=gR.1
   have eln:leanL (mendL l i) (j:Int)=a.ht - b.ht:=by rw [leanL,lt,rtt,nth_of gj];exact congr (congrArg _ (hi_rep gR.2.1)) (hi_rep gR.2.2)
   have hj':(n a j m b).rt=(j:Int):=rfl
   rw [hj'] at er
   obtain ⟨aa,ab,a1,a2⟩:=aR
   simp only [ht] at h1 h2 c3
   by_cases c2:a.ht - b.ht > 0
   ·have hb0:=b.ht_nn
    obtain ⟨b1,x,y,b2,hb⟩:=ht_pos (t:=a) (by omega)
    subst hb
    have gb:=gR.2.1
    have hn1:((b1.ids++x :: b2.ids)++j :: b.ids).Nodup:=dR
    obtain ⟨t2,tr,tf⟩:=turnR_rep (A:=b1) (B:=b2) (C:=b) (i:=j) (j:=x) (k:=m) (m:=y) gj gb.1 gb.2.1 gb.2.2 gR.2.2 hn1
    have xi:x≠i:=fun e=>iR (by rw [← e];simp [ids])
    have ji:j≠i:=fun e=>iR (by rw [← e];simp [ids])
    have u1:(turnRL (mendL l i) j).1[i]?=_:=(tf i (Ne.symm ji) (Ne.symm xi)).trans m1
    have u2:=setRt_at ((x:Nat):Int) u1
    have ids1:∀ p,p∈(n b1 x y (n b2 j m b)).ids→p≠i:=fun p hp e=>iR (by rw [← e];simp only [ids,List.append_assoc,List.cons_append] at hp ⊢;exact hp)
    have v1:Rep (setRt (turnRL (mendL l i) j).1 i x) (n b1 x y (n b2 j m b)):=tr.frame fun p hp=>setRt_ne (ids1 p hp)
    have v2:Rep (setRt (turnRL (mendL l i) j).1 i x) L:=gL.frame fun p hp=>(setRt_ne (show p≠i from fun e=>iL (e ▸ hp))).trans (tf p (fun e=>dd p hp j (.inr (by simp [ids])) e) (fun e=>dd p hp x (.inr (by simp [ids])) e))
    have hn2:(L.ids++i :: (b1.ids++x :: (n b2 j m b).ids)).Nodup:=by simp only [ids,List.append_assoc,List.cons_append] at hd0 ⊢;exact hd0
    obtain ⟨w2,wr,wf⟩:=turnL_rep (A:=L) (B:=b1) (C:=n b2 j m b) (i:=i) (j:=x) (k:=k) (m:=y) u2 v1.1 v2 v1.2.1 v1.2.2 hn2
    simp only [avl,ht] at aa a1 a2 c3 c2 h1 h2
    have ee:evenL l i=turnLL (setRt (turnRL (mendL l i) j).1 i x) i:=by
     rw [evenL,if_neg (by rw [en];simp only [ht];omega),if_pos (by rw [en];simp only [ht];omega),er,if_pos (by rw [eln];simp only [ht];omega),t2]
    refine ⟨n (n L i k b1) x y (n b2 j m b),?_⟩
    rw [ee]
    refine ⟨w2,wr,?_,by simp [ino],by simp [ids],fun p hp=>?_,?_,?_,?_⟩
    ·simp only [avl,ht];refine ⟨⟨aL,aa.1,?_,?_⟩,⟨aa.2.1,ab,?_,?_⟩,?_,?_⟩<;>omega
    ·simp only [ids,List.mem_append,List.mem_cons,not_or] at hp
     obtain ⟨p1,p2,⟨p3,p4,p5⟩,p6,p7⟩:=hp
     rw [wf p p2 p4,setRt_ne p2,tf p p6 p4,mf p p2]
    ·simp only [ht];omega
    ·simp only [ht];omega
    ·simp only [ht];omega
   ·obtain ⟨w2,wr,wf⟩:=turnL_rep (A:=L) (B:=a) (C:=b) (i:=i) (j:=j) (k:=k) (m:=m) m1 gj gL gR.2.1 gR.2.2 hd0
    have ee:evenL l i=turnLL (mendL l i) i:=by
     rw [evenL,if_neg (by rw [en];simp only [ht];omega),if_pos (by rw [en];simp only [ht];omega),er,if_neg (by rw [eln];exact c2)]
    refine ⟨n (n L i k a) j m b,?_⟩
    rw [ee]
    refine ⟨w2,wr,?_,by simp [ino],by simp [ids],fun p hp=>?_,?_,?_,?_⟩
    ·simp only [avl,ht];refine ⟨⟨aL,aa,?_,?_⟩,ab,?_,?_⟩<;>omega
    ·simp only [ids,List.mem_append,List.mem_cons,not_or] at hp
     obtain ⟨p1,p2,p3,p4,p5⟩:=hp
     rw [wf p p2 p4,mf p p2]
    ·simp only [ht];omega
    ·simp only [ht];omega
    ·simp only [ht];omega
  ·have ee:evenL l i=(mendL l i,(i:Int)):=by rw [evenL,if_neg (by rw [en];exact c1),if_neg (by rw [en];exact c3)]
   refine ⟨n L i k R,?_⟩
   rw [ee]
   refine ⟨rfl,⟨m1,gL,gR⟩,⟨aL,aR,by omega,by omega⟩,rfl,rfl,fun p hp=>mf p fun e=>hp (by rw [e];simp),?_,?_,?_⟩
   ·show _≤max L.ht R.ht+1;omega
   ·exact Int.le_refl _
   ·intro _ _;rfl
end Tree

namespace Tree
open Tr
inductive Stp where
 | L (i:Nat) (k:Key) (r:Tr)
 | R (l:Tr) (i:Nat) (k:Key)
def Stp.i:Stp→Nat
 | .L i _ _=>i
 | .R _ i _=>i
def Stp.put:Stp→Tr→Tr
 | .L i k r,t=>n t i k r
 | .R l i k,t=>n l i k t
def fill:Tr→List Stp→Tr
 | t,[]=>t
 | t,f :: c=>fill (f.put t) c
def lc:List Stp→List Nat
 | []=>[]
 | .L _ _ _ :: c=>lc c
 | .R l i _ :: c=>lc c++l.ids++[i]
def rc:List Stp→List Nat
 | []=>[]
 | .L i _ r :: c=>i :: (r.ids++rc c)
 | .R _ _ _ :: c=>rc c
def lk:List Stp→List Key
 | []=>[]
 | .L _ _ _ :: c=>lk c
 | .R l _ k :: c=>lk c++l.ino++[k]
def rk:List Stp→List Key
 | []=>[]
 | .L _ k r :: c=>k :: (r.ino++rk c)
 | .R _ _ _ :: c=>rk c
theorem fill_ids:∀ (c:List Stp) (t:Tr),(fill t c).ids=lc c++t.ids++rc c
 | [],t=>by simp [fill,lc,rc]
 | .L i k r :: c,t=>by rw [fill,fill_ids c];simp [Stp.put,ids,lc,rc]
 | .R l i k :: c,t=>by rw [fill,fill_ids c];simp [Stp.put,ids,lc,rc]
theorem fill_ino:∀ (c:List Stp) (t:Tr),(fill t c).ino=lk c++t.ino++rk c
 | [],t=>by simp [fill,lk,rk]
 | .L i k r :: c,t=>by rw [fill,fill_ino c];simp [Stp.put,ino,lk,rk]
 | .R l i k :: c,t=>by rw [fill,fill_ino c];simp [Stp.put,ino,lk,rk]
theorem fill_avl:∀ {c:List Stp} {t:Tr},(fill t c).avl→t.avl
 | [],_,h=>h
 | .L i k r :: c,t,h=>(fill_avl (c:=c) h).1
 | .R l i k :: c,t,h=>(fill_avl (c:=c) h).2.1
def RepC (l:List Nd):Int→List Stp→Prop
 | _,[]=>True
 | hole,.L i k r :: c=>(∃ h,l[i]?=some (k.1,k.2,hole,r.rt,h))∧Rep l r∧RepC l i c
 | hole,.R s i k :: c=>(∃ h,l[i]?=some (k.1,k.2,s.rt,hole,h))∧Rep l s∧RepC l i c
theorem rep_fill {l:List Nd}:∀ {c:List Stp} {t:Tr},Rep l (fill t c)→Rep l t∧RepC l t.rt c
 | [],_,h=>⟨h,trivial⟩
 | .L i k r :: c,t,h=>by
  obtain ⟨⟨h1,h2,h3⟩,h4⟩:=rep_fill (c:=c) h
  exact ⟨h2,⟨_,h1⟩,h3,h4⟩
 | .R s i k :: c,t,h=>by
  obtain ⟨⟨h1,h2,h3⟩,h4⟩:=rep_fill (c:=c) h
  exact ⟨h3,⟨_,h1⟩,h2,h4⟩
theorem RepC.frame {l l':List Nd}:∀ {c:List Stp} {hole:Int},RepC l hole c→(∀ j,j∈lc c∨j∈rc c→l'[j]?=l[j]?)→RepC l' hole c
 | [],_,_,_=>trivial
 | .L i k r :: c,hole,⟨⟨h,h1⟩,h2,h3⟩,hf=>⟨⟨h,by rw [hf i (.inr (by simp [rc]))];exact h1⟩,h2.frame fun j hj=>hf j (.inr (by simp [rc,hj])),h3.frame fun j hj=>hf j (hj.imp (fun x=>x) fun x=>by simp [rc,x])⟩
 | .R s i k :: c,hole,⟨⟨h,h1⟩,h2,h3⟩,hf=>⟨⟨h,by rw [hf i (.inl (by simp [lc]))];exact h1⟩,h2.frame fun j hj=>hf j (.inl (by simp [lc,hj])),h3.frame fun j hj=>hf j (hj.imp (fun x=>by simp [lc,x]) fun x=>x)⟩
def nE:Tr→Bool
 | .e=>false
 | .n _ _ _ _=>true
def dropL (l:List Nd) (was i:Int):List Int→List Nd × Int
 | []=>(l,i)
 | up :: c=>let l1:=if lt l up=was then setLt l up i else setRt l up i
  dropL (evenL l1 up).1 up (evenL l1 up).2 c
def keyL (l:List Nd) (i:Int):Key:=((nth l i).1,(nth l i).2.1)
def hangL (l:List Nd) (was i:Int):List Int→List Nd × Int
 | []=>(l,i)
 | up :: c=>let l1:=if lt l up=was∧(was≠-1∨klt (keyL l i) (keyL l up)=true) then setLt l up i else setRt l up i
  hangL (evenL l1 up).1 up (evenL l1 up).2 c
theorem hang_drop:∀ (c:List Int) (l:List Nd) (was i:Int),was≠-1→(∀ x∈c,x≠-1)→hangL l was i c=dropL l was i c
 | [],l,was,i,_,_=>rfl
 | up :: c,l,was,i,h,hc=>by
  simp only [hangL,dropL,h,ne_eq,not_false_eq_true,true_or,and_true]
  exact hang_drop c _ _ _ (hc up (by simp)) fun x hx=>hc x (by simp [hx])
theorem dropL_len:∀ (c:List Int) (l:List Nd) (was i:Int),(dropL l was i c).1.length=l.length
 | [],l,was,i=>rfl
 | up :: c,l,was,i=>by
  simp only [dropL]
  rw [dropL_len c,even_len];split<;>simp [setLt_len,setRt_len]
theorem hangL_len:∀ (c:List Int) (l:List Nd) (was i:Int),(hangL l was i c).1.length=l.length
 | [],l,was,i=>rfl
 | up :: c,l,was,i=>by
  simp only [hangL]
  rw [hangL_len c,even_len];split<;>simp [setLt_len,setRt_len]
def way (c:List Stp):List Int:=c.map fun f=>(f.i:Int)
structure Mov (l l':List Nd) (r:Int) (s:Tr) (c:List Stp) (T:Tr):Prop where
 root:r=T.rt
 rep:Rep l' T
 avl:T.avl
 ino:T.ino=lk c++s.ino++rk c
 ids:T.ids=lc c++s.ids++rc c
 fr:∀ p,p ∉ lc c++s.ids++rc c→l'[p]?=l[p]?
def Knw (t s:Tr) (c:List Stp) (was:Int):Prop:=(∃ w:Nat,was=w∧t.rt=w)∨(was=-1∧t=.e∧∃ i k,s=.n .e i k .e∧(∀ m∈lk c,klt m k=true)∧∀ m∈rk c,klt k m=true)
theorem hang_rep:∀ (c:List Stp) (l:List Nd) (t s:Tr) (was:Int),Knw t s c was→RepC l was c→Rep l s→(fill t c).avl→s.avl→s.ht≤t.ht+1→t.ht≤s.ht+1→(lc c++t.ids++rc c).Nodup→(lc c++s.ids++rc c).Nodup →
  ∃ T,Mov l (hangL l was s.rt (way c)).1 (hangL l was s.rt (way c)).2 s c T
 | [],l,t,s,was,_,_,hs,_,as,_,_,_,_=>⟨s,rfl,hs,as,by simp [lk,rk],by simp [lc,rc],fun p hp=>rfl⟩
 | .L i k r :: c,l,t,s,was,hw,⟨⟨h0,hi⟩,hr,hc⟩,hs,ha,as,g1,g2,d1,d2=>by
  have hv:=fill_avl (c:=c) (t:=n t i k r) ha
  have e1:lt l (i:Int)=was∧(was≠-1∨klt (keyL l s.rt) (keyL l i)=true):=by
   refine ⟨by rw [lt,nth_of hi],?_⟩
   rcases hw with ⟨w,rfl,_⟩ | ⟨_,_,j,k',rfl,_,hk⟩
   ·left;omega
   ·right
    have e2:keyL l (i:Int)=k:=by rw [keyL,nth_of hi]
    have e3:keyL l (n e j k' e).rt=k':=by
     show keyL l (j:Int)=k'
     rw [keyL,nth_of hs.1]
    rw [e2,e3];exact hk k (by simp [rk])
  have d2':=d2
  simp only [lc,rc,List.nodup_append,List.nodup_cons,List.mem_append,List.mem_cons,not_or] at d2
  obtain ⟨⟨dl,ds,dls⟩,⟨⟨ir,ic⟩,dr,dc,drc⟩,dd⟩:=d2
  have is:i ∉ s.ids:=fun hx=>dd i (.inr hx) i (.inl rfl) rfl
  have il:i ∉ lc c:=fun hx=>dd i (.inl hx) i (.inl rfl) rfl
  have a1:=setLt_at s.rt hi
  have fs:Rep (setLt l i s.rt) s:=hs.frame fun p hp=>setLt_ne (show p≠i from fun e=>is (e ▸ hp))
  have fr:Rep (setLt l i s.rt) r:=hr.frame fun p hp=>setLt_ne (show p≠i from fun e=>ir (e ▸ hp))
  have hn:(s.ids++i :: r.ids).Nodup:=by
   rw [List.nodup_append,List.nodup_cons]
   refine ⟨ds,⟨ir,dr⟩,fun a ha b hb=>dd a (.inr ha) b ?_⟩
   rw [List.mem_cons] at hb
   exact hb.imp (fun x=>x) .inl
  obtain ⟨T,ev⟩:=even_rep (k:=k) a1 fs fr as hv.2.1 hn (by have:=hv.2.2;omega) (by have:=hv.2.2;omega)
  have fc:RepC (evenL (setLt l i s.rt) i).1 i c:=hc.frame fun j hj=>by
   have ne:j ∉ s.ids++i :: r.ids:=fun hx=>by
    rw [List.mem_append,List.mem_cons] at hx
    rcases hx with hx | rfl | hx
    ·rcases hj with hj | hj
     ·exact dls j hj j hx rfl
     ·exact dd j (.inr hx) j (.inr (.inr hj)) rfl
    ·exact hj.elim il ic
    ·rcases hj with hj | hj
     ·exact dd j (.inl hj) j (.inr (.inl hx)) rfl
     ·exact drc j hx j hj rfl
   rw [ev.fr j ne]
   exact setLt_ne (show j≠i from fun e=>ne (by rw [e];simp))
  have r1:=ev.root
  obtain ⟨lo,hi',st⟩:=(⟨ev.lo,ev.hi,ev.st⟩:_∧_∧_)
  have av:=hv.2.2
  obtain ⟨T',mv⟩:=hang_rep c (evenL (setLt l i s.rt) i).1 (n t i k r) T i (.inl ⟨i,rfl,rfl⟩) fc ev.rep ha ev.avl (by simp only [ht];omega) (by simp only [ht];omega)
   (by simpa [lc,rc,ids] using d1) (by rw [ev.ids];simpa [lc,rc] using d2')
  refine ⟨T',?_⟩
  have e2:hangL l was s.rt (way (.L i k r :: c))=hangL (evenL (setLt l i s.rt) i).1 i T.rt (way c):=by
   simp only [way,List.map_cons,Stp.i,hangL,if_pos e1]
   rw [r1]
  rw [e2]
  refine ⟨mv.root,mv.rep,mv.avl,by rw [mv.ino,ev.ino];simp [lk,rk],by rw [mv.ids,ev.ids];simp [lc,rc],fun p hp=>?_⟩
  have hp2:p ∉ lc c++T.ids++rc c:=by rw [ev.ids];simpa [lc,rc] using hp
  have hp3:p ∉ s.ids++i :: r.ids:=fun hx=>hp (by
   simp only [List.mem_append,List.mem_cons,lc,rc] at hx ⊢
   rcases hx with hx | hx | hx
   ·exact .inl (.inr hx)
   ·exact .inr (.inl hx)
   ·exact .inr (.inr (.inl hx)))
  rw [mv.fr p hp2,ev.fr p hp3]
  exact setLt_ne (show p≠i from fun e=>hp3 (by rw [e];simp))
 | .R q i k :: c,l,t,s,was,hw,⟨⟨h0,hi⟩,hr,hc⟩,hs,ha,as,g1,g2,d1,d2=>by
  have hv:=fill_avl (c:=c) (t:=n q i k t) ha
  have e1:¬ (lt l (i:Int)=was∧(was≠-1∨klt (keyL l s.rt) (keyL l i)=true)):=by
   rintro ⟨e,e0⟩
   rw [lt,nth_of hi] at e
   rcases hw with ⟨w,rfl,hw⟩ | ⟨h1,_,j,k',rfl,hk,_⟩
   ·have m1:=rt_mem (t:=q) (i:=w) e
    have m2:=rt_mem (t:=t) hw
    simp only [lc,List.nodup_append] at d1
    exact d1.1.2.2 w (by simp [m1]) w m2 rfl
   ·rcases e0 with e0 | e0
    ·exact e0 h1
    ·have e2:keyL l (i:Int)=k:=by rw [keyL,nth_of hi]
     have e3:keyL l (n Tr.e j k' Tr.e).rt=k':=by
      show keyL l (j:Int)=k'
      rw [keyL,nth_of hs.1]
     rw [e2,e3,klt_asym (hk k (by simp [lk]))] at e0;cases e0
  have d2':=d2
  simp only [lc,rc,List.nodup_append,List.nodup_cons,List.mem_append,List.mem_cons,List.mem_singleton,not_or,List.not_mem_nil,not_false_eq_true,or_false,List.nodup_nil,and_true,true_and] at d2
  obtain ⟨⟨⟨⟨dl,dq,dlq⟩,di⟩,ds,dls⟩,dr,dd⟩:=d2
  have is:i ∉ s.ids:=fun hx=>dls i (.inr rfl) i hx rfl
  have iq:i ∉ q.ids:=fun hx=>di i (.inr hx) i rfl rfl
  have il:i ∉ lc c:=fun hx=>di i (.inl hx) i rfl rfl
  have ic:i ∉ rc c:=fun hx=>dd i (.inl (.inr rfl)) i hx rfl
  have a1:=setRt_at s.rt hi
  have fs:Rep (setRt l i s.rt) s:=hs.frame fun p hp=>setRt_ne (show p≠i from fun e=>is (e ▸ hp))
  have fr:Rep (setRt l i s.rt) q:=hr.frame fun p hp=>setRt_ne (show p≠i from fun e=>iq (e ▸ hp))
  have hn:(q.ids++i :: s.ids).Nodup:=by
   rw [List.nodup_append,List.nodup_cons]
   refine ⟨dq,⟨is,ds⟩,fun a hx b hb=>?_⟩
   rw [List.mem_cons] at hb
   rcases hb with rfl | hb
   ·exact di a (.inr hx) b rfl
   ·exact dls a (.inl (.inr hx)) b hb
  obtain ⟨T,ev⟩:=even_rep (k:=k) a1 fr fs hv.1 as hn (by have:=hv.2.2;omega) (by have:=hv.2.2;omega)
  have fc:RepC (evenL (setRt l i s.rt) i).1 i c:=hc.frame fun j hj=>by
   have ne:j ∉ q.ids++i :: s.ids:=fun hx=>by
    rw [List.mem_append,List.mem_cons] at hx
    rcases hx with hx | rfl | hx
    ·rcases hj with hj | hj
     ·exact dlq j hj j hx rfl
     ·exact dd j (.inl (.inl (.inr hx))) j hj rfl
    ·exact hj.elim il ic
    ·rcases hj with hj | hj
     ·exact dls j (.inl (.inl hj)) j hx rfl
     ·exact dd j (.inr hx) j hj rfl
   rw [ev.fr j ne]
   exact setRt_ne (show j≠i from fun e=>ne (by rw [e];simp))
  have r1:=ev.root
  obtain ⟨lo,hi',st⟩:=(⟨ev.lo,ev.hi,ev.st⟩:_∧_∧_)
  have av:=hv.2.2
  obtain ⟨T',mv⟩:=hang_rep c (evenL (setRt l i s.rt) i).1 (n q i k t) T i (.inl ⟨i,rfl,rfl⟩) fc ev.rep ha ev.avl (by simp only [ht];omega) (by simp only [ht];omega)
   (by simpa [lc,rc,ids] using d1) (by rw [ev.ids];simpa [lc,rc] using d2')
  refine ⟨T',?_⟩
  have e2:hangL l was s.rt (way (.R q i k :: c))=hangL (evenL (setRt l i s.rt) i).1 i T.rt (way c):=by
   simp only [way,List.map_cons,Stp.i,hangL,if_neg e1]
   rw [r1]
  rw [e2]
  refine ⟨mv.root,mv.rep,mv.avl,by rw [mv.ino,ev.ino];simp [lk,rk],by rw [mv.ids,ev.ids];simp [lc,rc],fun p hp=>?_⟩
  have hp2:p ∉ lc c++T.ids++rc c:=by rw [ev.ids];simpa [lc,rc] using hp
  have hp3:p ∉ q.ids++i :: s.ids:=fun hx=>hp (by
   simp only [List.mem_append,List.mem_cons,lc,rc,List.mem_singleton] at hx ⊢
   rcases hx with hx | hx | hx
   ·exact .inl (.inl (.inl (.inr hx)))
   ·exact .inl (.inl (.inr (.inl hx)))
   ·exact .inl (.inr hx))
  rw [mv.fr p hp2,ev.fr p hp3]
  exact setRt_ne (show p≠i from fun e=>hp3 (by rw [e];simp))
def find (k:Key):Tr→List Stp→Tr × List Stp
 | .e,c=>(.e,c)
 | .n l i m r,c=>if klt k m then find k l (.L i m r :: c) else if k=m then (.n l i m r,c) else find k r (.R l i m :: c)
theorem way_nn (c:List Stp):∀ x∈way c,x≠-1:=by
 intro x hx
 obtain ⟨f,_,rfl⟩:=List.mem_map.1 hx
 omega
theorem find_fill (k:Key):∀ (t:Tr) (c:List Stp),fill (find k t c).1 (find k t c).2=fill t c
 | .e,c=>rfl
 | .n l i m r,c=>by
  unfold find;split
  ·rw [find_fill k l];rfl
  ·split
   ·rfl
   ·rw [find_fill k r];rfl
def Srt (l:List Key):Prop:=l.Pairwise fun a b=>klt a b=true
theorem find_lt (k:Key):∀ (t:Tr) (c:List Stp),Srt t.ino→(∀ m∈lk c,klt m k=true)→(∀ m∈rk c,klt k m=true) →
  (∀ m∈lk (find k t c).2,klt m k=true)∧(∀ m∈rk (find k t c).2,klt k m=true)∧((find k t c).1=.e∨∃ l i r,(find k t c).1=.n l i k r)
 | .e,c,_,h1,h2=>⟨h1,h2,.inl rfl⟩
 | .n l i m r,c,hs,h1,h2=>by
  simp only [ino,Srt,List.pairwise_append,List.pairwise_cons] at hs
  obtain ⟨s1,⟨s2,s3⟩,s4⟩:=hs
  unfold find
  by_cases c1:klt k m=true
  ·rw [if_pos c1]
   refine find_lt k l _ s1 h1 fun x hx=>?_
   simp only [rk,List.mem_cons,List.mem_append] at hx
   rcases hx with rfl | hx | hx
   ·exact c1
   ·exact klt_trans c1 (s2 x hx)
   ·exact h2 x hx
  ·rw [if_neg c1]
   by_cases c2:k=m
   ·rw [if_pos c2]
    exact ⟨h1,h2,.inr ⟨l,i,r,by rw [c2]⟩⟩
   ·rw [if_neg c2]
    have c3:=klt_tot (by simpa using c1) c2
    refine find_lt k r _ s3 (fun x hx=>?_) h2
    simp only [lk,List.mem_append,List.mem_singleton] at hx
    rcases hx with (hx | hx) | rfl
    ·exact h1 x hx
    ·exact klt_trans (s4 x hx m (by simp)) c3
    ·exact c3
def leastC:Tr→List Stp→Tr × List Stp
 | .e,c=>(.e,c)
 | .n .e i m r,c=>(.n .e i m r,c)
 | .n (.n a j x b) i m r,c=>leastC (.n a j x b) (.L i m r :: c)
theorem least_fill:∀ (t:Tr) (c:List Stp),fill (leastC t c).1 (leastC t c).2=fill t c
 | .e,c=>rfl
 | .n .e i m r,c=>rfl
 | .n (.n a j x b) i m r,c=>by rw [leastC,least_fill (.n a j x b)];rfl
theorem least_n:∀ (t:Tr) (c:List Stp),t≠.e→∃ j m b,(leastC t c).1=.n .e j m b∧∃ d,(leastC t c).2=d++c∧lk d=[]∧lc d=[]
 | .e,c,h=>absurd rfl h
 | .n .e i m r,c,_=>⟨i,m,r,rfl,[],rfl,rfl,rfl⟩
 | .n (.n a j x b) i m r,c,_=>by
  obtain ⟨j',m',b',h1,d,h2,h3,h4⟩:=least_n (.n a j x b) (.L i m r :: c) (by simp)
  have lkd:∀ d:List Stp,lk d=[]→lk (d++[.L i m r])=[]:=by
   intro d
   induction d with
   | nil=>intro _;rfl
   | cons f d ih=>cases f<;>simp [lk]<;>exact ih
  have lcd:∀ d:List Stp,lc d=[]→lc (d++[.L i m r])=[]:=by
   intro d
   induction d with
   | nil=>intro _;rfl
   | cons f d ih=>cases f<;>simp [lc]<;>exact ih
  exact ⟨j',m',b',h1,d++[.L i m r],by rw [leastC,h2];simp,lkd d h3,lcd d h4⟩
theorem Srt.mid {a b:List Key} {k m:Key} (h:Srt (a++k :: b)):(∀ x∈a,klt x k=true)∧(∀ x∈b,klt k x=true):=by
 simp only [Srt,List.pairwise_append,List.pairwise_cons] at h
 exact ⟨fun x hx=>h.2.2 x hx k (by simp),h.2.1.1⟩
theorem Srt.put {a b:List Key} {k:Key} (h:Srt (a++b)) (h1:∀ x∈a,klt x k=true) (h2:∀ x∈b,klt k x=true):Srt (a++k :: b):=by
 simp only [Srt,List.pairwise_append,List.pairwise_cons,List.mem_cons] at h ⊢
 refine ⟨h.1,⟨h2,h.2.1⟩,fun x hx y hy=>?_⟩
 rcases hy with rfl | hy
 ·exact h1 x hx
 ·exact h.2.2 x hx y hy
theorem Srt.nodup {a:List Key} (h:Srt a):a.Nodup:=h.imp fun {x y} hxy e=>by rw [e,klt_irr] at hxy;cases hxy
theorem ins_rep {l l1:List Nd} {T:Tr} {k:Key} {c:List Stp} {i:Nat} (hT:Rep l T) (hf:find k T []=(.e,c)) (ha:T.avl) (hd:T.ids.Nodup) (hs:Srt T.ino) (hi:i ∉ T.ids) (h1:l1[i]?=some (k.1,k.2,-1,-1,1)) (hr:∀ j∈T.ids,l1[j]?=l[j]?) :
  ∃ T',Mov l1 (hangL l1 (-1) i (way c)).1 (hangL l1 (-1) i (way c)).2 (.n .e i k .e) c T'∧T.ino=lk c++rk c∧T.ids=lc c++rc c∧(∀ m∈lk c,klt m k=true)∧∀ m∈rk c,klt k m=true:=by
 have e:=find_fill k T []
 rw [hf] at e
 have e:fill .e c=T:=e
 have hl:=find_lt k T [] hs (by simp [lk]) (by simp [rk])
 rw [hf] at hl
 obtain ⟨g1,g2,_⟩:=hl
 have ei:T.ids=lc c++rc c:=by rw [← e,fill_ids];simp [ids]
 have eo:T.ino=lk c++rk c:=by rw [← e,fill_ino];simp [ino]
 have hR:Rep l1 T:=hT.frame hr
 rw [← e] at hR ha
 have hd2:(lc c++(n Tr.e i k Tr.e).ids++rc c).Nodup:=by
  rw [ei] at hd hi
  simp only [ids,List.nil_append,List.append_assoc,List.singleton_append]
  rw [List.nodup_append] at hd ⊢
  rw [List.mem_append,not_or] at hi
  refine ⟨hd.1,List.nodup_cons.2 ⟨hi.2,hd.2.1⟩,fun a ha b hb=>?_⟩
  rcases List.mem_cons.1 hb with rfl | hb
  ·exact fun e=>hi.1 (e ▸ ha)
  ·exact hd.2.2 a ha b hb
 obtain ⟨T',mv⟩:=hang_rep c l1 .e (.n .e i k .e) (-1) (.inr ⟨rfl,rfl,i,k,rfl,g1,g2⟩) (rep_fill hR).2 ⟨h1,trivial,trivial⟩ ha ⟨trivial,trivial,by simp [ht],by simp [ht]⟩ (by simp [ht]) (by simp [ht])
  (by rw [ei] at hd;simpa [ids] using hd) hd2
 exact ⟨T',mv,eo,ei,g1,g2⟩
def kid:Tr→Tr→Tr
 | .e,b=>b
 | .n l i k r,_=>.n l i k r
theorem del1_rep {l:List Nd} {T a b:Tr} {k:Key} {c:List Stp} {i:Nat} (hT:Rep l T) (hf:T=fill (.n a i k b) c) (hab:a=.e∨b=.e) (ha:T.avl) (hd:T.ids.Nodup) :
  ∃ T' s,s=kid a b∧Mov l (dropL l i s.rt (way c)).1 (dropL l i s.rt (way c)).2 s c T'∧s.ino=a.ino++b.ino∧s.ids=a.ids++b.ids:=by
 subst hf
 obtain ⟨h1,h2⟩:=rep_fill hT
 have ea:=fill_avl ha
 have hs:Rep l (kid a b)∧(kid a b).avl∧(kid a b).ht+1=(n a i k b).ht∧(kid a b).ino=a.ino++b.ino∧(kid a b).ids=a.ids++b.ids:=by
  cases a with
  | e =>
   refine ⟨h1.2.2,ea.2.1,?_,rfl,rfl⟩
   have:=b.ht_nn
   simp only [ht,kid];omega
  | n l i k r =>
   have c2:b=.e:=hab.resolve_left (by simp)
   refine ⟨h1.2.1,ea.1,?_,by rw [c2];simp [ino,kid],by rw [c2];simp [ids,kid]⟩
   have:=(n l i k r).ht_nn
   rw [c2];simp only [ht,kid] at this ⊢;omega
 obtain ⟨q1,q2,q3,q4,q5⟩:=hs
 have hd1:(lc c++(n a i k b).ids++rc c).Nodup:=by rw [← fill_ids];exact hd
 have hd2:(lc c++(kid a b).ids++rc c).Nodup:=by
  rw [q5]
  refine hd1.sublist ?_
  simp only [ids]
  exact ((List.Sublist.refl _).append ((List.Sublist.refl _).append (List.sublist_cons_self _ _))).append (List.Sublist.refl _)
 obtain ⟨T',mv⟩:=hang_rep c l (.n a i k b) (kid a b) i (.inl ⟨i,rfl,rfl⟩) h2 q1 ha q2 (by omega) (by omega) hd1 hd2
 refine ⟨T',_,rfl,?_,q4,q5⟩
 rw [← hang_drop _ _ _ _ (by omega) (way_nn c)]
 exact mv
end Tree

namespace BbrM
open Arith
structure Wn where
 w:Int
 t0:Int
 v0:Int
 t1:Int
 v1:Int
 t2:Int
 v2:Int
 la:Int
structure OkW (v:Wn):Prop where
 w:U v.w
 t0:U v.t0
 v0:U v.v0
 t1:U v.t1
 v1:U v.v1
 t2:U v.t2
 v2:U v.v2
 la:U v.la
def Wn.all (v:Wn) (t x:Int):Wn:={ v with t0:=t,v0:=x,t1:=t,v1:=x,t2:=t,v2:=x }
def Wn.s12 (v:Wn) (t x:Int):Wn:={ v with t1:=t,v1:=x,t2:=t,v2:=x }
def Wn.s2 (v:Wn) (t x:Int):Wn:={ v with t2:=t,v2:=x }
def Wn.push (v:Wn) (t x:Int):Wn:={ v with t0:=v.t1,v0:=v.v1,t1:=v.t2,v1:=v.v2,t2:=t,v2:=x }
def far (t s w:Int):Prop:=subI t s > w
instance (t s w:Int):Decidable (far t s w):=by unfold far;infer_instance
def wS1 (v:Wn) (t x:Int):Wn:=if x ≥ v.v1 then v.s12 t x else if x ≥ v.v2 then v.s2 t x else v
def wS2 (v:Wn) (t x:Int):Wn :=
 if far t v.t0 v.w then (if far t v.t1 v.w then (v.push t x).push t x else v.push t x)
 else if v.t1=v.t0∧far t v.t0 (v.w / 4) then v.s12 t x
 else if v.t2=v.t1∧far t v.t0 (v.w / 2) then v.s2 t x else v
def Wn.tick (v:Wn) (t:Int):Wn:={ v with la:=if t > v.la then t else v.la }
def wU (v:Wn) (t x:Int):Wn:=if x ≥ v.v0∨far t v.t2 v.w then v.all t x else wS2 (wS1 v t x) t x
def wUpd (v:Wn) (t x:Int):Wn:=wU (v.tick t) (v.tick t).la x
theorem OkW.all {v:Wn} (h:OkW v) {t x:Int} (ht:U t) (hx:U x):OkW (v.all t x):=⟨h.w,ht,hx,ht,hx,ht,hx,h.la⟩
theorem OkW.s12 {v:Wn} (h:OkW v) {t x:Int} (ht:U t) (hx:U x):OkW (v.s12 t x):=⟨h.w,h.t0,h.v0,ht,hx,ht,hx,h.la⟩
theorem OkW.s2 {v:Wn} (h:OkW v) {t x:Int} (ht:U t) (hx:U x):OkW (v.s2 t x):=⟨h.w,h.t0,h.v0,h.t1,h.v1,ht,hx,h.la⟩
theorem OkW.push {v:Wn} (h:OkW v) {t x:Int} (ht:U t) (hx:U x):OkW (v.push t x):=⟨h.w,h.t1,h.v1,h.t2,h.v2,ht,hx,h.la⟩
theorem OkW.tick {v:Wn} (h:OkW v) {t:Int} (ht:U t):OkW (v.tick t):=⟨h.w,h.t0,h.v0,h.t1,h.v1,h.t2,h.v2,by
 show U (if _ then _ else _);split
 ·exact ht
 ·exact h.la⟩
theorem OkW.wS1 {v:Wn} (h:OkW v) {t x:Int} (ht:U t) (hx:U x):OkW (wS1 v t x):=by
 unfold BbrM.wS1;split
 ·exact h.s12 ht hx
 ·split
  ·exact h.s2 ht hx
  ·exact h
theorem OkW.wS2 {v:Wn} (h:OkW v) {t x:Int} (ht:U t) (hx:U x):OkW (wS2 v t x):=by
 unfold BbrM.wS2;split
 ·split
  ·exact (h.push ht hx).push ht hx
  ·exact h.push ht hx
 ·split
  ·exact h.s12 ht hx
  ·split
   ·exact h.s2 ht hx
   ·exact h
theorem OkW.wU {v:Wn} (h:OkW v) {t x:Int} (ht:U t) (hx:U x):OkW (wU v t x):=by
 unfold BbrM.wU;split
 ·exact h.all ht hx
 ·exact (h.wS1 ht hx).wS2 ht hx
theorem OkW.wUpd {v:Wn} (h:OkW v) {t x:Int} (ht:U t) (hx:U x):OkW (wUpd v t x):=(h.tick ht).wU (h.tick ht).la hx
abbrev Sm:Type:=Int × Int × Int × Int × Int × Int × Int × Int × Bool
abbrev sNow (s:Sm):Int:=s.1
abbrev sDel (s:Sm):Int:=s.2.1
abbrev sPri (s:Sm):Int:=s.2.2.1
abbrev sTim (s:Sm):Int:=s.2.2.2.1
abbrev sRtt (s:Sm):Int:=s.2.2.2.2.1
abbrev sAck (s:Sm):Int:=s.2.2.2.2.2.1
abbrev sLost (s:Sm):Int:=s.2.2.2.2.2.2.1
abbrev sFli (s:Sm):Int:=s.2.2.2.2.2.2.2.1
abbrev sLim (s:Sm):Bool:=s.2.2.2.2.2.2.2.2
structure OkS (s:Sm):Prop where
 now:U (sNow s)
 del:U (sDel s)
 pri:U (sPri s)
 tim:U (sTim s)
 rtt:U (sRtt s)
 ack:U (sAck s)
 lost:U (sLost s)
 fli:U (sFli s)
structure Rnd where
 n:Int
 nx:Int
structure OkR (r:Rnd):Prop where
 n:U r.n
 nx:U r.nx
def rB (r:Rnd) (s:Sm):Bool:=decide (sAck s > 0) && !decide (sPri s < r.nx)
def rU (r:Rnd) (s:Sm):Rnd:=if rB r s then ⟨IntKind.u64.wrap (r.n+1),sDel s⟩ else r
theorem OkR.rU {r:Rnd} (h:OkR r) {s:Sm} (hs:OkS s):OkR (rU r s):=by
 unfold BbrM.rU;split
 ·exact ⟨U_wrap _,hs.del⟩
 ·exact h
structure Pp where
 best:Int
 n:Int
 full:Bool
structure OkP (p:Pp):Prop where
 best:U p.best
 n:0≤p.n∧p.n≤3
 full:p.full=false→p.n < 3
def pU (p:Pp) (start limited:Bool) (bw:Int):Pp :=
 if !p.full && start && !limited then
  (if bw ≥ mdI p.best 320 256 then ⟨bw,0,p.full⟩ else ⟨p.best,p.n+1,decide (p.n+1=3)⟩)
 else p
theorem OkP.pU {p:Pp} (h:OkP p) {a b:Bool} {bw:Int} (hb:U bw):OkP (pU p a b bw):=by
 unfold BbrM.pU;split
 ·rename_i hc
  have hf:p.full=false:=by simp at hc;exact hc.1.1
  have hn:=h.full hf
  have:=h.n
  split
  ·exact ⟨hb,by simp,fun _=>by simp⟩
  ·exact ⟨h.best,by simp;omega,fun hh=>by simp at hh ⊢;omega⟩
 ·exact h
structure Cy where
 ph:Int
 at':Int
structure OkC (c:Cy):Prop where
 ph:0≤c.ph∧c.ph < 8
 at':U c.at'
def cSt (now ph:Int):Cy:=⟨ph % 8,now⟩
def cB (c:Cy) (now rtt lost fl up one:Int):Bool :=
 if c.ph=0 then decide (subI now c.at' > rtt) && (decide (lost > 0) || decide (fl ≥ up))
 else if c.ph=1 then decide (subI now c.at' > rtt) || decide (fl≤one) else decide (subI now c.at' > rtt)
def cU (c:Cy) (now rtt lost fl up one:Int):Cy:=if cB c now rtt lost fl up one then cSt now (c.ph+1) else c
def cG (c:Cy):Int:=if c.ph=0 then 320 else if c.ph=1 then 192 else 256
theorem OkC.st {now ph:Int} (h:U now):OkC (cSt now ph):=⟨by unfold cSt;dsimp only;omega,h⟩
theorem OkC.cU {c:Cy} (h:OkC c) {now rtt lost fl up one:Int} (hn:U now):OkC (cU c now rtt lost fl up one):=by
 unfold BbrM.cU;split
 ·exact OkC.st hn
 ·exact h
structure Pb where
 best:Int
 at':Int
 on:Bool
 til:Int
 rd:Bool
structure OkB (b:Pb):Prop where
 best:U b.best
 at':U b.at'
 til:U b.til
def bOld (b:Pb) (now:Int):Bool:=decide (b.best > 0) && decide (now > addI b.at' 10000000000)
def bTake (b:Pb) (now rtt:Int):Bool:=decide (rtt > 0) && (decide (b.best=0) || (decide (rtt≤b.best) || bOld b now))
def bNew (b:Pb) (now rtt:Int):Pb:=if bTake b now rtt then { b with best:=rtt,at':=now } else b
def bLv (b:Pb) (now:Int) (start:Bool) (fl floor:Int):Bool × Pb :=
 if b.til=0 then (if fl≤floor then (false,{ b with til:=addI now 200000000,rd:=false }) else (false,b))
 else if !(b.rd || start) then (false,{ b with rd:=b.rd || start })
 else if now≤b.til then (false,{ b with rd:=b.rd || start })
 else (true,{ b with rd:=b.rd || start,at':=now,on:=false })
def bU (b:Pb) (now rtt:Int) (start:Bool) (fl floor:Int):(Bool × Bool) × Pb :=
 if bOld b now && !b.on then ((true,false),{ bNew b now rtt with on:=true,til:=0,rd:=false })
 else if b.on then ((false,(bLv (bNew b now rtt) now start fl floor).1),(bLv (bNew b now rtt) now start fl floor).2)
 else ((false,false),bNew b now rtt)
theorem OkB.new {b:Pb} (h:OkB b) {now rtt:Int} (hn:U now) (hr:U rtt):OkB (bNew b now rtt):=by
 unfold bNew;split
 ·exact ⟨hr,hn,h.til⟩
 ·exact h
theorem OkB.lv {b:Pb} (h:OkB b) {now fl floor:Int} {st:Bool} (hn:U now):OkB (bLv b now st fl floor).2:=by
 unfold bLv;split
 ·split
  ·exact ⟨h.best,h.at',U_add hn (U_lit _)⟩
  ·exact h
 ·split
  ·exact ⟨h.best,h.at',h.til⟩
  ·split
   ·exact ⟨h.best,h.at',h.til⟩
   ·exact ⟨h.best,hn,h.til⟩
theorem OkB.bU {b:Pb} (h:OkB b) {now rtt fl floor:Int} {st:Bool} (hn:U now) (hr:U rtt):OkB (bU b now rtt st fl floor).2:=by
 have:=h.new hn hr
 unfold BbrM.bU;split
 ·exact ⟨this.best,this.at',U_lit 0⟩
 ·split
  ·exact this.lv hn
  ·exact this
structure Pl where
 use:Bool
 mea:Bool
 bw:Int
 n:Int
 lost:Int
 t0:Int
 d0:Int
 l0:Int
structure OkL (q:Pl):Prop where
 bw:U q.bw
 n:0≤q.n∧q.n≤48
 lost:U q.lost
 t0:U q.t0
 d0:U q.d0
 l0:U q.l0
 nu:q.use=true→q.n < 48
 nm:q.use=false→q.mea=true→q.n≤16
def avg (a b:Int):Int:=a / 2+b / 2+(a % 2+b % 2) / 2
def apart (a b:Int):Int:=if a < b then b - a else a - b
theorem U_avg {a b:Int} (ha:U a) (hb:U b):U (avg a b):=by unfold U avg at *;omega
def qMeas (q:Pl) (s:Sm):Option Int :=
 if subI (sDel s) q.d0=0∨subI (sNow s) q.t0=0 then none
 else if subI q.lost q.l0 < mdI (subI (sDel s) q.d0) 50 256 then none
 else some (mdI (subI (sDel s) q.d0) 1000000000 (subI (sNow s) q.t0))
def qBegin (q:Pl) (s:Sm):Pl:={ q with mea:=true,n:=0,t0:=sNow s,d0:=sDel s,l0:=q.lost }
def qLeave (q:Pl):Pl:={ q with use:=false,mea:=false,bw:=0 }
def qGot (q:Pl) (s:Sm) (r:Int):Pl:=if q.bw > 0∧apart q.bw r≤q.bw / 8 then { q with bw:=avg q.bw r,use:=true,n:=0 } else qBegin { q with bw:=r } s
def qEnd (q:Pl) (s:Sm):Pl:=match qMeas q s with
 | none=>q
 | some r=>qGot q s r
def qAdd (q:Pl) (s:Sm):Pl:={ q with lost:=addI q.lost (sLost s) }
def qTick (q:Pl) (o:Bool):Pl:=if o then { q with n:=q.n+1 } else q
def qGo (q:Pl) (o:Bool) (s:Sm):Pl :=
 if q.use then (if o=true∧q.n=48 then { qLeave q with n:=0 } else q)
 else if q.n > 16 then qLeave q
 else if q.n ≥ 4∧sLost s > 0 then qEnd q s else q
def qUpd (q:Pl) (o:Bool) (s:Sm):Pl :=
 if q.use=false∧q.mea=false then (if sLost s > 0 then qBegin (qAdd q s) s else qAdd q s)
 else if q.use=false∧sLim s=true then qLeave (qAdd q s)
 else qGo (qTick (qAdd q s) o) o s
theorem OkL.begin {q:Pl} {s:Sm} (hb:U q.bw) (hl:U q.lost) (hs:OkS s):OkL (qBegin q s) :=
 ⟨hb,by simp [qBegin],hl,hs.now,hs.del,hl,fun _=>by simp [qBegin],fun _ _=>by simp [qBegin]⟩
theorem OkL.leave {q:Pl} (h:OkL q):OkL (qLeave q):=⟨U_lit 0,h.n,h.lost,h.t0,h.d0,h.l0,fun hh=>by simp [qLeave] at hh,fun _ hh=>by simp [qLeave] at hh⟩
theorem OkL.add {q:Pl} (h:OkL q) {s:Sm} (hs:OkS s):OkL (qAdd q s):=⟨h.bw,h.n,U_add h.lost hs.lost,h.t0,h.d0,h.l0,h.nu,h.nm⟩
theorem U_meas {q:Pl} (h:OkL q) {s:Sm} (hs:OkS s) {r:Int} (hr:qMeas q s=some r):U r:=by
 unfold qMeas at hr
 split at hr
 ·cases hr
 ·split at hr
  ·cases hr
  ·cases hr;exact U_md (U_sub hs.del h.d0) (U_lit _) (U_sub hs.now h.t0)
theorem OkL.got {q:Pl} (h:OkL q) {s:Sm} (hs:OkS s) {r:Int} (hr:U r):OkL (qGot q s r):=by
 unfold qGot
 split
 ·exact ⟨U_avg h.bw hr,by simp,h.lost,h.t0,h.d0,h.l0,fun _=>by simp,fun _ _=>by simp⟩
 ·exact OkL.begin hr h.lost hs
theorem OkL.end' {q:Pl} (h:OkL q) {s:Sm} (hs:OkS s):OkL (qEnd q s):=by
 unfold qEnd
 split
 ·exact h
 ·rename_i r hr
  exact h.got hs (U_meas h hs hr)
theorem qGo_ok {q:Pl} (h:OkL q) {o:Bool} {s:Sm} (hs:OkS s) (hm:q.use=false→q.mea=true):OkL (qGo (qTick q o) o s):=by
 obtain ⟨use,mea,bw,n,lost,t0,d0,l0⟩:=q
 have h1:=h.n
 have h2:=h.nu
 have h3:=h.nm
 dsimp only at h1 h2 h3 hm
 cases o with
 | false =>
  show OkL (qGo _ false s)
  unfold qGo
  simp only [qTick,Bool.false_eq_true,if_false,false_and]
  split
  ·exact h
  ·split
   ·exact h.leave
   ·split
    ·exact h.end' hs
    ·exact h
 | true =>
  unfold qGo
  simp only [qTick,if_true,true_and]
  split
  ·rename_i hu
   have hu:use=true:=hu
   have:=h2 hu
   split
   ·exact ⟨U_lit 0,by simp,h.lost,h.t0,h.d0,h.l0,(fun hh=>by simp [qLeave] at hh),(fun _ hh=>by simp [qLeave] at hh)⟩
   ·rename_i h48
    exact ⟨h.bw,(by dsimp only;omega),h.lost,h.t0,h.d0,h.l0,(fun _=>by dsimp only;omega),(fun hh=>by dsimp only at hh;rw [hu] at hh;cases hh)⟩
  ·rename_i hu
   have hu:use=false:=by simpa using hu
   have:=h3 hu (hm hu)
   split
   ·exact ⟨U_lit 0,(by simp [qLeave];omega),h.lost,h.t0,h.d0,h.l0,(fun hh=>by simp [qLeave] at hh),(fun _ hh=>by simp [qLeave] at hh)⟩
   ·rename_i h16
    have hk:OkL ⟨use,mea,bw,n+1,lost,t0,d0,l0⟩:=⟨h.bw,(by dsimp only;omega),h.lost,h.t0,h.d0,h.l0,(fun hh=>by dsimp only at hh;rw [hu] at hh;cases hh),(fun _ _=>by dsimp only;omega)⟩
    split
    ·exact hk.end' hs
    ·exact hk
theorem OkL.upd {q:Pl} (h:OkL q) {o:Bool} {s:Sm} (hs:OkS s):OkL (qUpd q o s):=by
 unfold qUpd
 split
 ·split
  ·exact OkL.begin h.bw (U_add h.lost hs.lost) hs
  ·exact h.add hs
 ·rename_i h0
  split
  ·exact (h.add hs).leave
  ·exact qGo_ok (h.add hs) hs (fun hu=>by
    have hu:q.use=false:=hu
    cases hm:q.mea with
    | false=>exact absurd ⟨hu,hm⟩ h0
    | true=>exact hm)
end BbrM

namespace BbrMm
open Arith BbrM
structure Md where
 w:Wn
 r:Rnd
 p:Pp
 c:Cy
 b:Pb
 q:Pl
 mss:Int
 mode:Int
 rate:Int
 win:Int
 sav:Int
 rec':Bool
 first:Bool
 til:Int
structure OkM (m:Md):Prop where
 w:OkW m.w
 r:OkR m.r
 p:OkP m.p
 c:OkC m.c
 b:OkB m.b
 q:OkL m.q
 mss:100≤m.mss∧m.mss≤9000
 mode:0≤m.mode∧m.mode≤3
 rate:U m.rate
 win:U m.win
 sav:U m.sav
 til:U m.til
def mBw (m:Md):Int:=if m.q.use then m.q.bw else m.w.v0
def mBdp (m:Md) (g:Int):Int:=bdpI (mBw m) m.b.best g
def mGain (m:Md):Int:=if m.mode=0 then 739 else if m.mode=1 then 88 else if m.mode=2∧m.q.use=false then cG m.c else 256
def mWide (m:Md):Int:=if m.mode=2 then 512 else if m.mode=3 then 256 else 739
def mFloor (m:Md):Int:=4 * m.mss
theorem OkM.bw {m:Md} (h:OkM m):U (mBw m):=by
 unfold mBw;split
 ·exact h.q.bw
 ·exact h.w.v0
theorem U_cG (c:Cy):U (cG c):=by
 unfold cG;split
 ·exact U_lit _
 ·split<;>exact U_lit _
theorem U_gain (m:Md):U (mGain m):=by
 unfold mGain;split
 ·exact U_lit _
 ·split
  ·exact U_lit _
  ·split
   ·exact U_cG _
   ·exact U_lit _
theorem U_wide (m:Md):U (mWide m):=by
 unfold mWide;split
 ·exact U_lit _
 ·split<;>exact U_lit _
theorem OkM.mssU {m:Md} (h:OkM m):U m.mss:=by have:=h.mss;unfold U;omega
theorem OkM.floor {m:Md} (h:OkM m):U (mFloor m):=by have:=h.mss;unfold U mFloor;omega
def mK (s:Sm):Int:=mdI (subI (sDel s) (sPri s)) 1000000000 (sTim s)
def mMeas (m:Md) (s:Sm):Md:=if sAck s=0∨sTim s=0 then m else if sLim s=false∨mK s ≥ m.w.v0 then { m with w:=wUpd m.w m.r.n (mK s) } else m
def mCyc (m:Md) (s:Sm):Md:=if m.mode=2∧m.q.use=false then { m with c:=cU m.c (sNow s) m.b.best (sLost s) (sFli s) (mBdp m 320) (mBdp m 256) } else m
abbrev mPipe (m:Md) (o:Bool) (s:Sm):Md:={ m with p:=pU m.p o (sLim s) m.w.v0 }
abbrev mCruise (m:Md) (now:Int):Md:={ m with mode:=2,c:=cSt now 2 }
def mM1 (m:Md):Md:=if m.mode=0∧m.p.full=true then { m with mode:=1 } else m
def mM2 (m:Md) (s:Sm):Md:=if m.mode=1∧m.b.best > 0∧sFli s≤mBdp m 256 then mCruise m (sNow s) else m
abbrev mBack (m:Md):Md:={ m with win:=if m.sav > m.win then m.sav else m.win,sav:=0 }
abbrev mPr (m:Md) (s:Sm) (o:Bool):(Bool × Bool) × Pb:=bU m.b (sNow s) (sRtt s) o (sFli s) (mFloor m)
def mProbed (m:Md) (r:Bool × Bool) (now:Int):Md :=
 if r.1 then { m with sav:=if m.win > m.sav then m.win else m.sav,mode:=3 }
 else if r.2 then (if m.p.full then mCruise { mBack m with mode:=0 } now else { mBack m with mode:=0 })
 else m
def mLook (m:Md) (s:Sm) (o:Bool):Md:=mProbed { m with b:=(mPr m s o).2 } (mPr m s o).1 (sNow s)
def mRt (m:Md):Int:=if 1 > rateI (mBw m) (mGain m) then 1 else rateI (mBw m) (mGain m)
def mPace (m:Md):Md:=if mBw m=0 then m else if m.p.full=true∨mRt m > m.rate then { m with rate:=mRt m } else m
def mOver (m:Md):Md:=if m.mode≠3 then mBack { m with rec':=false,first:=false } else { m with rec':=false,first:=false }
def mRecover (m:Md) (s:Sm) (o:Bool):Md :=
 if sLost s > 0∧m.rec'=false then { m with rec':=true,first:=true,til:=addI (sDel s) (sFli s),sav:=if m.win > m.sav then m.win else m.sav }
 else if m.rec'=true then (if sDel s < m.til then { m with first:=m.first && !o } else mOver { m with first:=m.first && !o })
 else m
abbrev mW1 (m:Md) (s:Sm):Md:={ m with win:=if m.mss > subI m.win (sLost s) then m.mss else subI m.win (sLost s) }
def mTar (m:Md) (tso:Int):Int:=winI (mBw m) m.b.best (mWide m) tso m.mss
def mW2 (m : Md) (s : Sm) (tso : Int) : Md :=
  if m.first then { m with win := if addI (sFli s) (sAck s) > m.win then addI (sFli s) (sAck s) else m.win }
  else if sAck s > 0 then
    (if m.p.full then { m with win := if mTar m tso < addI m.win (sAck s) then mTar m tso else addI m.win (sAck s) }
     else if m.win < mTar m tso ∨ sDel s < 10 * m.mss then { m with win := addI m.win (sAck s) } else m)
  else m
abbrev mW3 (m:Md):Md:={ m with win:=if mFloor m > m.win then mFloor m else m.win }
def mW4 (m:Md):Md:=if m.mode=3 then { m with win:=mFloor m } else m
def mWindow (m:Md) (s:Sm) (tso:Int):Md:=mW4 (mW3 (mW2 (mW1 m s) s tso))
abbrev mU1 (m:Md) (s:Sm):Md:={ m with r:=rU m.r s,q:=qUpd m.q (rB m.r s) s }
def mU2 (m:Md) (o:Bool) (s:Sm):Md:=mLook (mM2 (mM1 (mPipe (mCyc (mMeas m s) s) o s)) s) s o
def mU3 (m:Md) (o:Bool) (s:Sm) (tso:Int):Md:=mWindow (mRecover (mPace m) s o) s tso
def mUpd (m:Md) (s:Sm) (tso:Int):Md:=mU3 (mU2 (mU1 m s) (rB m.r s) s) (rB m.r s) s tso
abbrev St:Type:=Int × Int × Int × Int × Int × Int × Int × Int × Bool × Bool
def mSt (m:Md):St:=(m.mode,m.c.ph,m.rate,m.win,mBw m,m.b.best,mGain m,m.r.n,m.p.full,m.q.use)
theorem U_if {p:Prop} [Decidable p] {a b:Int} (ha:U a) (hb:U b):U (if p then a else b):=by split<;>assumption
theorem OkM.meas {m:Md} (h:OkM m) {s:Sm} (hs:OkS s):OkM (mMeas m s):=by
 unfold mMeas;split
 ·exact h
 ·split
  ·exact { h with w:=h.w.wUpd h.r.n (U_md (U_sub hs.del hs.pri) (U_lit _) hs.tim) }
  ·exact h
theorem OkM.cyc {m:Md} (h:OkM m) {s:Sm} (hs:OkS s):OkM (mCyc m s):=by
 unfold mCyc;split
 ·exact { h with c:=h.c.cU hs.now }
 ·exact h
theorem OkM.pipe {m:Md} (h:OkM m) {o:Bool} {s:Sm}:OkM (mPipe m o s):={ h with p:=h.p.pU h.w.v0 }
theorem OkM.cruise {m:Md} (h:OkM m) {now:Int} (hn:U now):OkM (mCruise m now):={ h with c:=OkC.st hn,mode:=by simp [mCruise] }
theorem OkM.m1 {m:Md} (h:OkM m):OkM (mM1 m):=by
 unfold mM1;split
 ·exact { h with mode:=by simp }
 ·exact h
theorem OkM.m2 {m:Md} (h:OkM m) {s:Sm} (hs:OkS s):OkM (mM2 m s):=by
 unfold mM2;split
 ·exact h.cruise hs.now
 ·exact h
theorem OkM.back {m:Md} (h:OkM m):OkM (mBack m):={ h with win:=U_if h.sav h.win,sav:=U_lit 0 }
theorem OkM.probed {m:Md} (h:OkM m) {r:Bool × Bool} {now:Int} (hn:U now):OkM (mProbed m r now):=by
 unfold mProbed;split
 ·exact { h with sav:=U_if h.win h.sav,mode:=by simp }
 ·split
  ·have hb:OkM { mBack m with mode:=0 }:={ h.back with mode:=by simp }
   split
   ·exact hb.cruise hn
   ·exact hb
  ·exact h
theorem OkM.look {m:Md} (h:OkM m) {s:Sm} (hs:OkS s) {o:Bool}:OkM (mLook m s o):=by
 have:OkM { m with b:=(mPr m s o).2 }:={ h with b:=h.b.bU hs.now hs.rtt }
 exact this.probed hs.now
theorem U_rt {m:Md} (h:OkM m):U (mRt m):=U_if (U_lit 1) (U_rate h.bw (U_gain m))
theorem OkM.pace {m:Md} (h:OkM m):OkM (mPace m):=by
 unfold mPace;split
 ·exact h
 ·split
  ·exact { h with rate:=U_rt h }
  ·exact h
theorem OkM.recover {m:Md} (h:OkM m) {s:Sm} (hs:OkS s) {o:Bool}:OkM (mRecover m s o):=by
 unfold mRecover;split
 ·exact { h with til:=U_add hs.del hs.fli,sav:=U_if h.win h.sav }
 ·split
  ·split
   ·exact { h with }
   ·unfold mOver
    have h2:OkM { m with rec':=false,first:=false }:={ h with }
    split
    ·exact h2.back
    ·exact h2
  ·exact h
theorem OkM.w1 {m:Md} (h:OkM m) {s:Sm} (hs:OkS s):OkM (mW1 m s):={ h with win:=U_if h.mssU (U_sub h.win hs.lost) }
theorem OkM.tar {m:Md} (h:OkM m) {tso:Int} (ht:U tso):U (mTar m tso):=U_win h.bw h.b.best (U_wide m) ht h.mssU
theorem OkM.w2 {m:Md} (h:OkM m) {s:Sm} (hs:OkS s) {tso:Int} (ht:U tso):OkM (mW2 m s tso):=by
 unfold mW2;split
 ·exact { h with win:=U_if (U_add hs.fli hs.ack) h.win }
 ·split
  ·split
   ·exact { h with win:=U_if (h.tar ht) (U_add h.win hs.ack) }
   ·split
    ·exact { h with win:=U_add h.win hs.ack }
    ·exact h
  ·exact h
theorem OkM.w3 {m:Md} (h:OkM m):OkM (mW3 m):={ h with win:=U_if h.floor h.win }
theorem OkM.w4 {m:Md} (h:OkM m):OkM (mW4 m):=by
 unfold mW4;split
 ·exact { h with win:=h.floor }
 ·exact h
theorem OkM.window {m:Md} (h:OkM m) {s:Sm} (hs:OkS s) {tso:Int} (ht:U tso):OkM (mWindow m s tso):=((h.w1 hs).w2 hs ht).w3.w4
theorem OkM.u1 {m:Md} (h:OkM m) {s:Sm} (hs:OkS s):OkM (mU1 m s):={ h with r:=h.r.rU hs,q:=h.q.upd hs }
theorem OkM.upd {m:Md} (h:OkM m) {s:Sm} (hs:OkS s) {tso:Int} (ht:U tso):OkM (mUpd m s tso) :=
 (((((((h.u1 hs).meas hs).cyc hs).pipe.m1.m2 hs).look hs).pace.recover hs).window hs ht)
def mMss (n:Int):Int:=if 9000 < (if 100 > n then 100 else n) then 9000 else (if 100 > n then 100 else n)
abbrev mNew (n:Int):Md:={ w:=⟨10,0,0,0,0,0,0,0⟩,r:=⟨0,0⟩,p:=⟨0,0,false⟩,c:=⟨0,0⟩,b:=⟨0,0,false,0,false⟩,q:=⟨false,false,0,0,0,0,0,0⟩,mss:=mMss n,mode:=0,rate:=rateI (10 * mMss n * 1000) 739,win:=10 * mMss n,sav:=0,rec':=false,first:=false,til:=0 }
theorem mss_r (n:Int):100≤mMss n∧mMss n≤9000:=by unfold mMss;split<;>split<;>omega
theorem OkM.new (n:Int):OkM (mNew n):=by
 have:=mss_r n
 exact { w:=⟨U_lit 10,U_lit 0,U_lit 0,U_lit 0,U_lit 0,U_lit 0,U_lit 0,U_lit 0⟩,r:=⟨U_lit 0,U_lit 0⟩,p:=⟨U_lit 0,(by simp [mNew]),fun _=>by simp [mNew]⟩,c:=⟨(by simp [mNew]),U_lit 0⟩,b:=⟨U_lit 0,U_lit 0,U_lit 0⟩,q:=⟨U_lit 0,(by simp [mNew]),U_lit 0,U_lit 0,U_lit 0,U_lit 0,(fun h=>by simp [mNew] at h),fun _ h=>by simp [mNew] at h⟩,mss:=this,mode:=(by simp [mNew]),rate:=U_rate ⟨by omega,by omega⟩ (U_lit 739),win:=⟨(by show 0≤10 * mMss n;omega),by show 10 * mMss n < _;omega⟩,sav:=U_lit 0,til:=U_lit 0 }
end BbrMm

namespace BbrF
open Arith BbrM BbrMm
structure Keeps (a b:Md):Prop where
 mss:b.mss=a.mss
 rate:b.rate=a.rate
theorem Keeps.trans {a b c:Md} (h:Keeps a b) (g:Keeps b c):Keeps a c:=⟨g.mss.trans h.mss,g.rate.trans h.rate⟩
theorem k_meas (m : Md) (s : Sm) : Keeps m (mMeas m s) := by unfold mMeas; repeat' split
                                                             all_goals exact ⟨rfl, rfl⟩
theorem k_cyc (m:Md) (s:Sm):Keeps m (mCyc m s):=by unfold mCyc;split<;>exact ⟨rfl,rfl⟩
theorem k_m1 (m:Md):Keeps m (mM1 m):=by unfold mM1;split<;>exact ⟨rfl,rfl⟩
theorem k_m2 (m:Md) (s:Sm):Keeps m (mM2 m s):=by unfold mM2;split<;>exact ⟨rfl,rfl⟩
theorem k_probed (m : Md) (r : Bool × Bool) (now : Int) : Keeps m (mProbed m r now) := by unfold mProbed; repeat' split
                                                                                          all_goals exact ⟨rfl, rfl⟩
theorem k_look (m:Md) (s:Sm) (o:Bool):Keeps m (mLook m s o):=(⟨rfl,rfl⟩:Keeps m { m with b:=(mPr m s o).2 }).trans (k_probed _ _ _)
theorem k_rec (m : Md) (s : Sm) (o : Bool) : Keeps m (mRecover m s o) := by unfold mRecover mOver; repeat' split
                                                                            all_goals exact ⟨rfl, rfl⟩
theorem k_u2 (m:Md) (o:Bool) (s:Sm):Keeps m (mU2 m o s):=by
 have a:Keeps (mCyc (mMeas m s) s) (mPipe (mCyc (mMeas m s) s) o s):=⟨rfl,rfl⟩
 exact ((k_meas m s).trans (k_cyc _ s)).trans (a.trans (((k_m1 _).trans (k_m2 _ s)).trans (k_look _ s o)))
theorem pace_mss (m : Md) : (mPace m).mss = m.mss := by unfold mPace; repeat' split
                                                        all_goals rfl
end BbrF

namespace BbrG
open Arith BbrM BbrMm BbrF
structure Inv (m:Md):Prop where
 on:m.b.on=true↔m.mode=3
 full:m.mode=1∨m.mode=2→m.p.full=true
structure Tr (a b:Md):Prop where
 t0:a.mode≠0→a.mode≠3→b.mode≠0
 t2:a.mode=2→b.mode≠1
 t3:a.mode=3→b.mode≠1
 tf:a.p.full=true→b.p.full=true
 inv:Inv b
 n:b.r.n=a.r.n∨b.r.n=IntKind.u64.wrap (a.r.n+1)
end BbrG

namespace BbrH
open Arith BbrM BbrMm BbrF BbrG
structure Bd (m:Md) (t:Int):Prop where
 win:m.win≤t
 sav:m.sav≤t
theorem le_if {p:Prop} [Decidable p] {a b t:Int} (ha:a≤t) (hb:b≤t):(if p then a else b)≤t:=by split<;>assumption
theorem b_meas {m:Md} {t:Int} (h:Bd m t) (s:Sm):Bd (mMeas m s) t:=by unfold mMeas;(repeat' split)<;>exact ⟨h.win,h.sav⟩
theorem b_cyc {m:Md} {t:Int} (h:Bd m t) (s:Sm):Bd (mCyc m s) t:=by unfold mCyc;split<;>exact ⟨h.win,h.sav⟩
theorem b_m1 {m:Md} {t:Int} (h:Bd m t):Bd (mM1 m) t:=by unfold mM1;split<;>exact ⟨h.win,h.sav⟩
theorem b_m2 {m:Md} {t:Int} (h:Bd m t) (s:Sm):Bd (mM2 m s) t:=by unfold mM2;split<;>exact ⟨h.win,h.sav⟩
theorem b_probed {m:Md} {t:Int} (h:Bd m t) (h0:0≤t) (r:Bool × Bool) (now:Int):Bd (mProbed m r now) t:=by
 unfold mProbed
 split
 ·exact ⟨h.win,le_if h.win h.sav⟩
 ·split
  ·split
   ·exact ⟨le_if h.sav h.win,h0⟩
   ·exact ⟨le_if h.sav h.win,h0⟩
  ·exact h
theorem b_look {m:Md} {t:Int} (h:Bd m t) (h0:0≤t) (s:Sm) (o:Bool):Bd (mLook m s o) t:=by
 have:Bd { m with b:=(mPr m s o).2 } t:=⟨h.win,h.sav⟩
 exact b_probed this h0 _ _
theorem b_pace {m:Md} {t:Int} (h:Bd m t):Bd (mPace m) t:=by unfold mPace;(repeat' split)<;>exact ⟨h.win,h.sav⟩
theorem b_rec {m:Md} {t:Int} (h:Bd m t) (h0:0≤t) (s:Sm) (o:Bool):Bd (mRecover m s o) t:=by
 unfold mRecover mOver
 split
 ·exact ⟨h.win,le_if h.win h.sav⟩
 ·split
  ·split
   ·exact ⟨h.win,h.sav⟩
   ·split
    ·exact ⟨le_if h.sav h.win,h0⟩
    ·exact ⟨h.win,h.sav⟩
  ·exact h
theorem add_le {a b t:Int} (h:a≤t):addI a b≤addI t b:=by unfold addI;(repeat' split)<;>omega
theorem le_add {t b:Int} (h:U t) (hb:U b):t≤addI t b:=by unfold U addI at *;split<;>omega
theorem sub_le {a b:Int} (h:U a) (hb:U b):subI a b≤a:=by unfold U subI at *;split<;>omega
def Ok2 (x t:Int) (s:Sm):Prop:=x≤addI t (sAck s)∨x≤addI (sFli s) (sAck s)
theorem ok2_if {p:Prop} [Decidable p] {a b t:Int} {s:Sm} (ha:Ok2 a t s) (hb:Ok2 b t s):Ok2 (if p then a else b) t s:=by split<;>assumption
theorem win_b {m:Md} {t:Int} (h:Bd m t) (hm:OkM m) (ht:U t) (h4:4 * m.mss≤t) {s:Sm} (hs:OkS s) (tso:Int):Ok2 (mWindow m s tso).win t s∧(mWindow m s tso).sav≤t:=by
 have hmss:=hm.mss
 have hv:Bd (mW1 m s) t:=⟨le_if (by omega) (Int.le_trans (sub_le hm.win hs.lost) h.win),h.sav⟩
 have hvm:(mW1 m s).mss=m.mss:=rfl
 unfold mWindow
 generalize mW1 m s=v at *
 have tl:t≤addI t (sAck s):=le_add ht hs.ack
 have vl:Ok2 v.win t s:=.inl (Int.le_trans hv.win tl)
 have al:Ok2 (addI v.win (sAck s)) t s:=.inl (add_le hv.win)
 have hx:Ok2 (mW2 v s tso).win t s∧(mW2 v s tso).sav≤t∧(mW2 v s tso).mss=v.mss:=by
  unfold mW2
  split
  ·exact ⟨ok2_if (.inr (Int.le_refl _)) vl,hv.sav,rfl⟩
  ·split
   ·split
    ·refine ⟨?_,hv.sav,rfl⟩
     show Ok2 (if mTar v tso < addI v.win (sAck s) then mTar v tso else addI v.win (sAck s)) t s
     split
     ·rename_i hlt
      rcases al with a | a
      ·exact .inl (by omega)
      ·exact .inr (by omega)
     ·exact al
    ·split
     ·exact ⟨al,hv.sav,rfl⟩
     ·exact ⟨vl,hv.sav,rfl⟩
   ·exact ⟨vl,hv.sav,rfl⟩
 generalize mW2 v s tso=x at *
 obtain ⟨x1,x2,x3⟩:=hx
 have fl:Ok2 (4 * x.mss) t s:=.inl (by rw [x3,hvm];omega)
 unfold mW4
 split
 ·exact ⟨fl,x2⟩
 ·exact ⟨ok2_if fl x1,x2⟩
theorem upd_b {m:Md} {t:Int} (h:Bd m t) (hm:OkM m) (ht:U t) (h4:4 * m.mss≤t) {s:Sm} (hs:OkS s) (tso:Int):Ok2 (mUpd m s tso).win t s∧(mUpd m s tso).sav≤t:=by
 have b1:Bd (mU1 m s) t:=⟨h.win,h.sav⟩
 have b2:=b_cyc (b_meas b1 s) s
 have b3:Bd (mPipe (mCyc (mMeas (mU1 m s) s) s) (rB m.r s) s) t:=⟨b2.win,b2.sav⟩
 have b4:=b_rec (b_pace (b_look (b_m2 (b_m1 b3) s) ht.1 s (rB m.r s))) ht.1 s (rB m.r s)
 have o4:OkM (mRecover (mPace (mU2 (mU1 m s) (rB m.r s) s)) s (rB m.r s)):=(((((((hm.u1 hs).meas hs).cyc hs).pipe.m1.m2 hs).look hs).pace.recover hs))
 have e:(mRecover (mPace (mU2 (mU1 m s) (rB m.r s) s)) s (rB m.r s)).mss=m.mss:=by rw [(k_rec _ s _).mss,pace_mss,(k_u2 _ _ s).mss]
 exact win_b (m:=mRecover (mPace (mU2 (mU1 m s) (rB m.r s) s)) s (rB m.r s)) b4 o4 ht (by rw [e];exact h4) hs tso
end BbrH

namespace BbrLs
open BbrM BbrMm
abbrev lsW (v:Wn):List Lf:=[.int .u64 v.w,.int .u64 v.t0,.int .u64 v.v0,.int .u64 v.t1,.int .u64 v.v1,.int .u64 v.t2,.int .u64 v.v2,.int .u64 v.la]
abbrev lsR (v:Rnd):List Lf:=[.int .u64 v.n,.int .u64 v.nx]
abbrev lsP (v:Pp):List Lf:=[.int .u64 v.best,.int .i64 v.n,.bool v.full]
abbrev lsC (v:Cy):List Lf:=[.int .i64 v.ph,.int .u64 v.at']
abbrev lsB (v:Pb):List Lf:=[.int .u64 v.best,.int .u64 v.at',.bool v.on,.int .u64 v.til,.bool v.rd]
abbrev lsL (v:Pl):List Lf:=[.bool v.use,.bool v.mea,.int .u64 v.bw,.int .i64 v.n,.int .u64 v.lost,.int .u64 v.t0,.int .u64 v.d0,.int .u64 v.l0]
abbrev lsM (n1 n2 n3 n4 n5 n6:Nat) (v:Md):List Lf:=[.ptr (some ⟨n1,0⟩),.ptr (some ⟨n2,0⟩),.ptr (some ⟨n3,0⟩),.ptr (some ⟨n4,0⟩),.ptr (some ⟨n5,0⟩),.ptr (some ⟨n6,0⟩),.int .u64 v.mss,.int .i64 v.mode,.int .u64 v.rate,.int .u64 v.win,.int .u64 v.sav,.bool v.rec',.bool v.first,.int .u64 v.til]
end BbrLs

end Go.X
