/- Contracts and plain facts: Plain Arith Wf BbrM BbrMm BbrG BbrLs. -/
import Derived.Test.YtkideobegadadaaGreatK
set_option linter.unusedVariables false
set_option linter.unusedSimpArgs false
set_option linter.unusedSectionVars false
namespace Go.X
abbrev KU:Ks:=[.int .u64]
abbrev KR:Ks:=[.int .u64,.int .u64]
theorem drop_at {α:Type} {l:List α} {i:Nat} {x:α} (h:l[i]?=some x):l.drop i=x :: l.drop (i+1):=by
 obtain ⟨hl,he⟩:=List.getElem?_eq_some_iff.1 h
 rw [← he];exact List.drop_eq_getElem_cons hl
section
variable {w0 w : World} {S0 R0 : Nat → Prop} {F G : SP}
theorem w_setTo {p:Pt} {ls:List Lf} {A:WP} {L:List Lf} (h:Own w0 S0 R0 w F) (b:Nat) (L':List Lf) [t:TakeB b F L G] (hp:p.b=b) (hx:Nat.ble (p.o+ls.length) L.length=true) (e:upd L p.o ls=L')
  (k:∀ w',Own w0 S0 R0 w' (X.blk b L'^G)→A w'):st p ls A w:=by
 subst hp
 subst e
 exact w_set h hx k
end
theorem least {α:Type} (P:α→Prop) (μ:α→Nat) (h:∃ a,P a):∃ n,(∃ a,P a∧μ a=n)∧∀ a,P a→n≤μ a:=by
 obtain ⟨a,ha⟩:=h
 have key:∀ k a,P a→μ a≤k→∃ n,(∃ a,P a∧μ a=n)∧∀ a,P a→n≤μ a:=by
  intro k
  induction k with
  | zero=>intro a ha hk;exact ⟨0,⟨a,ha,by omega⟩,fun _ _=>Nat.zero_le _⟩
  | succ k ih =>
   intro a ha hk
   by_cases hc:∃ c,P c∧μ c < μ a
   ·obtain ⟨c,hc,hlt⟩:=hc
    exact ih c hc (by omega)
   ·exact ⟨μ a,⟨a,ha,rfl⟩,fun c hc'=>Nat.le_of_not_lt fun hlt=>hc ⟨c,hc',hlt⟩⟩
 exact key _ a ha (Nat.le_refl _)
open Classical in
theorem w_loopE {w0 w:World} {S0 R0:Nat→Prop} {α:Type} {cs:List CK} {x₀:Ks.T cs} {B:(Ks.T cs→WP)→Ks.T cs→WP} (I:Ks.T cs→α→SP) (φ:Ks.T cs→α→Prop) (μ:Ks.T cs→α→Nat) (a₀:α) (h:Own w0 S0 R0 w (I x₀ a₀)) (h0:φ x₀ a₀)
  (hr:∀ (K:Ks.T cs→WP) x a w,φ x a→Own w0 S0 R0 w (I x a)→(∀ y c w',φ y c→Own w0 S0 R0 w' (I y c)→μ y c < μ x a→K y w')→B K x w):loop cs x₀ B w:=by
 refine ⟨fun x w=>∃ a,φ x a∧Own w0 S0 R0 w (I x a),fun x w=>if h:∃ a,φ x a∧Own w0 S0 R0 w (I x a) then Classical.choose (least _ (μ x) h) else 0,⟨a₀,h0,h⟩,?_⟩
 intro x w hx
 have hs:=Classical.choose_spec (least _ (μ x) hx)
 obtain ⟨⟨a,⟨hp,ha⟩,hn⟩,_⟩:=hs
 refine hr _ x a w hp ha fun y c w' hy ho hlt=>⟨⟨c,hy,ho⟩,?_⟩
 have hx':∃ c,φ y c∧Own w0 S0 R0 w' (I y c):=⟨c,hy,ho⟩
 have e1:(if h:∃ a,φ y a∧Own w0 S0 R0 w' (I y a) then Classical.choose (least _ (μ y) h) else 0)=Classical.choose (least _ (μ y) hx'):=dif_pos hx'
 have e2:(if h:∃ a,φ x a∧Own w0 S0 R0 w (I x a) then Classical.choose (least _ (μ x) h) else 0)=Classical.choose (least _ (μ x) hx):=dif_pos hx
 show (if h:∃ a,φ y a∧Own w0 S0 R0 w' (I y a) then Classical.choose (least _ (μ y) h) else 0) < (if h:∃ a,φ x a∧Own w0 S0 R0 w (I x a) then Classical.choose (least _ (μ x) h) else 0)
 rw [e1,e2,← hn]
 have:=(Classical.choose_spec (least _ (μ y) hx')).2 c ⟨hy,ho⟩
 omega

namespace Arith
abbrev M:Int:=18446744073709551616
def U (x:Int):Prop:=0≤x∧x < 18446744073709551616
def addI (a b:Int):Int:=if a+b < 18446744073709551616 then a+b else 18446744073709551615
def subI (a b:Int):Int:=if a < b then 0 else a - b
def mulI (a b:Int):Int:=if a * b < 18446744073709551616 then a * b else 18446744073709551615
def mdI (a b c:Int):Int:=if a * b=0 then 0 else if a * b < c * 18446744073709551616 then a * b / c else 18446744073709551615
theorem wm (n:Int):IntKind.u64.wrap n=n % 18446744073709551616:=by simp [IntKind.wrap,IntKind.bits,IntKind.signed]
theorem U_wrap (n:Int):U (IntKind.u64.wrap n):=wu_range n
theorem U_add {a b:Int} (ha:U a) (hb:U b):U (addI a b):=by unfold U addI at *;split<;>omega
theorem U_sub {a b:Int} (ha:U a) (hb:U b):U (subI a b):=by unfold U subI at *;split<;>omega
theorem U_mul {a b:Int} (ha:U a) (hb:U b):U (mulI a b):=by
 have:=Int.mul_nonneg ha.1 hb.1
 unfold mulI;split
 ·exact ⟨this,by assumption⟩
 ·unfold U;omega
theorem U_md {a b c:Int} (ha:U a) (hb:U b) (hc:U c):U (mdI a b c):=by
 have h:=Int.mul_nonneg ha.1 hb.1
 unfold mdI
 split
 ·unfold U;omega
 ·split
  ·rename_i h1
   refine ⟨Int.ediv_nonneg h hc.1,?_⟩
   have hc0:0 < c:=by rcases Int.lt_or_eq_of_le hc.1 with h2 | h2;exact h2;rw [← h2] at h1;omega
   exact Int.ediv_lt_of_lt_mul hc0 (by rw [Int.mul_comm 18446744073709551616];exact h1)
  ·unfold U;omega
theorem bvu {a:Int} (h:U a):(BitVec.ofInt 64 a).toNat=a.toNat:=by
 unfold U at h
 rw [BitVec.toNat_ofInt];simp;omega
theorem andm (a:Int):((BitVec.ofInt IntKind.u64.bits a &&& BitVec.ofInt IntKind.u64.bits 4294967295).toNat:Int)=a % 4294967296:=by
 show ((BitVec.ofInt 64 a &&& BitVec.ofInt 64 4294967295).toNat:Int)=_
 rw [BitVec.toNat_and,show (BitVec.ofInt 64 4294967295).toNat=2^32 - 1 by decide,Nat.and_two_pow_sub_one_eq_mod,BitVec.toNat_ofInt]
 simp;omega
theorem or1 {a b:Int} (i:Nat) (k:Int) (hk:0≤k) (ha:a=k * (2^i:Nat)) (h1:U a) (hb:0≤b) (hb2:b < (2^i:Nat)) (h2:U b):((BitVec.ofInt IntKind.u64.bits a ||| BitVec.ofInt IntKind.u64.bits b).toNat:Int)=a+b:=by
 show ((BitVec.ofInt 64 a ||| BitVec.ofInt 64 b).toNat:Int)=_
 rw [BitVec.toNat_or,bvu h1,bvu h2]
 obtain ⟨k,rfl⟩:=Int.eq_ofNat_of_zero_le hk
 obtain ⟨b,rfl⟩:=Int.eq_ofNat_of_zero_le hb
 have e:a=((2^i * k:Nat):Int):=by rw [ha,Nat.mul_comm];push_cast;rfl
 rw [e,Int.toNat_natCast,Int.toNat_natCast,← Nat.two_pow_add_eq_or_of_lt (by omega)]
 push_cast;rfl
theorem fdiv32 (a:Int):a.fdiv (2^min (32:Int).toNat IntKind.u64.bits)=a / 4294967296:=by
 show a.fdiv 4294967296=_
 exact Int.fdiv_eq_ediv_of_nonneg a (by decide)
theorem fdiv63 (a:Int):a.fdiv (2^min (63:Int).toNat IntKind.u64.bits)=a / 9223372036854775808:=by
 show a.fdiv 9223372036854775808=_
 exact Int.fdiv_eq_ediv_of_nonneg a (by decide)
theorem or_bit {r l:Int} (hl:U l):IntKind.u64.wrap (((BitVec.ofInt IntKind.u64.bits (IntKind.u64.wrap (r * 2^min (1:Int).toNat IntKind.u64.bits)) ||| BitVec.ofInt IntKind.u64.bits (l.fdiv (2^min (63:Int).toNat IntKind.u64.bits))).toNat:Nat):Int)=(2 * r) % 18446744073709551616+l / 9223372036854775808:=by
 rw [fdiv63]
 have e:IntKind.u64.wrap (r * 2^min (1:Int).toNat IntKind.u64.bits)=(2 * r) % 18446744073709551616:=by
  show IntKind.u64.wrap (r * 2)=_
  rw [wm,Int.mul_comm]
 rw [e]
 unfold U at hl
 rw [or1 1 ((2 * r) % 18446744073709551616 / 2) (by omega) (by show _=_ * (2:Int);omega) (by unfold U;omega) (by omega) (by show _ < (2:Int);omega) (by unfold U;omega),wm]
 omega
theorem or_one (q:Int):IntKind.u64.wrap (((BitVec.ofInt IntKind.u64.bits (IntKind.u64.wrap (q * 2^min (1:Int).toNat IntKind.u64.bits)) ||| BitVec.ofInt IntKind.u64.bits (1:Int)).toNat:Nat):Int)=(2 * q) % 18446744073709551616+1:=by
 have e:IntKind.u64.wrap (q * 2^min (1:Int).toNat IntKind.u64.bits)=(2 * q) % 18446744073709551616:=by
  show IntKind.u64.wrap (q * 2)=_
  rw [wm,Int.mul_comm]
 rw [e,or1 1 ((2 * q) % 18446744073709551616 / 2) (by omega) (by show _=_ * (2:Int);omega) (by unfold U;omega) (by omega) (by show _ < (2:Int);omega) (by unfold U;omega),wm]
 omega
theorem shl1 (q:Int):IntKind.u64.wrap (q * 2^min (1:Int).toNat IntKind.u64.bits)=(2 * q) % 18446744073709551616:=by
 show IntKind.u64.wrap (q * 2)=_
 rw [wm,Int.mul_comm]
structure Dv (N c q r l:Int) (i:Nat):Prop where
 step:(q * c+r) * 2^(64 - i)+l / 2^i=N
 r0:0≤r
 rc:r < c
 q0:0≤q
 ql:q < 2^i
 ul:U l
 ld:l % 2^i=0
 il:i≤64
theorem Dv.start {h l c:Int} (hl:U l) (hh:0≤h) (hc:h < c):Dv (h * 18446744073709551616+l) c 0 h l 0:=by
 refine ⟨?_,hh,hc,by omega,by omega,hl,by omega,by omega⟩
 simp
theorem Dv.last {N c q r l:Int} (d:Dv N c q r l 64) (hc:0 < c):q=N / c:=by
 have h:=d.step
 have hl:=d.ul
 unfold U at hl
 have:l / 2^64=0:=Int.ediv_eq_zero_of_lt hl.1 hl.2
 simp at h
 rw [show (18446744073709551616:Int)=2^64 by decide,this] at h
 have h:=h.symm
 rw [h,Int.add_zero,Int.add_comm,Int.add_mul_ediv_right _ _ (by omega),Int.ediv_eq_zero_of_lt d.r0 d.rc]
 omega
theorem Dv.next {N c q r l:Int} {i:Nat} (d:Dv N c q r l i) (hi:i < 64):(2 * r+l / 9223372036854775808 < c→Dv N c (2 * q) (2 * r+l / 9223372036854775808) (2 * l % 18446744073709551616) (i+1)) ∧
  (c≤2 * r+l / 9223372036854775808→Dv N c (2 * q+1) (2 * r+l / 9223372036854775808 - c) (2 * l % 18446744073709551616) (i+1)):=by
 obtain ⟨h1,h2,h3,h4,h5,h6,h7,h8⟩:=d
 unfold U at h6
 obtain ⟨m,hm⟩:∃ m:Int,l=m * 2^i:=⟨l / 2^i,(Int.ediv_mul_cancel (Int.dvd_of_emod_eq_zero h7)).symm⟩
 have p:(0:Int) < 2^i:=Int.pow_pos (by decide)
 have e1:l / 2^i=m:=by rw [hm];exact Int.mul_ediv_cancel _ (by omega)
 obtain ⟨b,hb⟩:∃ b,l / 9223372036854775808=b:=⟨_,rfl⟩
 have hb01:b=0∨b=1:=by omega
 have e2:2 * l % 18446744073709551616=2 * l - b * 18446744073709551616:=by omega
 have hp:(2:Int)^(64 - i)=2 * 2^(64 - (i+1)):=by
  rw [show 64 - i=(64 - (i+1))+1 by omega,Int.pow_succ];omega
 have hpp:(2:Int)^(64 - (i+1)) * 2^(i+1)=18446744073709551616:=by
  rw [← Int.pow_add,show 64 - (i+1)+(i+1)=64 by omega];decide
 have hp1:(2:Int)^(i+1)=2 * 2^i:=by rw [Int.pow_succ];omega
 obtain ⟨P,hP⟩:∃ P:Int,(2:Int)^(64 - (i+1))=P:=⟨_,rfl⟩
 obtain ⟨Q,hQ⟩:∃ Q:Int,(2:Int)^i=Q:=⟨_,rfl⟩
 rw [hp1,hQ,hP] at hpp
 rw [hQ] at hm p e1 h5 h1
 rw [hP] at hp
 have e3:2 * l - b * 18446744073709551616=(m - b * P) * (2 * Q):=by
  rw [← hpp,hm,Int.sub_mul]
  have:2 * (m * Q)=m * (2 * Q):=by rw [Int.mul_left_comm]
  rw [this,Int.mul_assoc]
 have e4:(2 * l % 18446744073709551616) / 2^(i+1)=m - b * P:=by
  rw [e2,e3,hp1,hQ];exact Int.mul_ediv_cancel _ (by omega)
 have e5:(2 * l % 18446744073709551616) % 2^(i+1)=0:=by
  rw [e2,e3,hp1,hQ];exact Int.mul_emod_left _ _
 have hU:U (2 * l % 18446744073709551616):=by unfold U;omega
 rw [hb]
 rw [hp,e1] at h1
 have key:(2 * (q * c+r)+b) * P+(m - b * P)=N:=by
  rw [← h1,Int.add_mul]
  have:2 * (q * c+r) * P=(q * c+r) * (2 * P):=by rw [Int.mul_comm 2,Int.mul_assoc]
  omega
 refine ⟨fun h=>⟨?_,by omega,h,by omega,by rw [hp1,hQ];omega,hU,e5,by omega⟩,fun h=>⟨?_,by omega,by omega,by omega,by rw [hp1,hQ];omega,hU,e5,by omega⟩⟩
 ·rw [e4,hP,← key]
  have:2 * q * c+(2 * r+b)=2 * (q * c+r)+b:=by rw [Int.mul_assoc];omega
  rw [this]
 ·rw [e4,hP,← key]
  have:(2 * q+1) * c+(2 * r+b - c)=2 * (q * c+r)+b:=by rw [Int.add_mul,Int.mul_assoc];omega
  rw [this]
def rateI (bw g:Int):Int:=mdI bw g 256
def bdpI (bw rtt g:Int):Int:=mdI (mdI bw rtt 1000000000) g 256
def winI (bw rtt g tso mss:Int):Int:=if rtt=0 then mulI 10 mss else if mulI 4 mss > addI (bdpI bw rtt g) (mulI 3 tso) then mulI 4 mss else addI (bdpI bw rtt g) (mulI 3 tso)
theorem U_lit (x:Int) (h:0≤x∧x < 18446744073709551616:=by omega):U x:=h
theorem U_rate {bw g:Int} (hb:U bw) (hg:U g):U (rateI bw g):=U_md hb hg (U_lit 256)
theorem U_bdp {bw rtt g:Int} (hb:U bw) (hq:U rtt) (hg:U g):U (bdpI bw rtt g):=U_md (U_md hb hq (U_lit _)) hg (U_lit 256)
theorem U_win {bw rtt g tso mss:Int} (hb:U bw) (hq:U rtt) (hg:U g) (ht:U tso) (hm:U mss):U (winI bw rtt g tso mss):=by
 unfold winI
 split
 ·exact U_mul (U_lit _) hm
 ·split
  ·exact U_mul (U_lit _) hm
  ·exact U_add (U_bdp hb hq hg) (U_mul (U_lit _) ht)
end Arith

namespace Wf
open Arith
theorem u {n:Int} (h:(Lit.int .u64 n).wf=true):U n:=by
 have h:IntKind.u64.min≤n∧n≤IntKind.u64.max:=by simpa [Lit.wf] using h
 have e1:IntKind.u64.min=0:=by decide
 have e2:IntKind.u64.max=18446744073709551615:=by decide
 unfold U
 omega
theorem i {n:Int} (h:(Lit.int .i64 n).wf=true):-9223372036854775808≤n∧n < 9223372036854775808:=by
 have h:IntKind.i64.min≤n∧n≤IntKind.i64.max:=by simpa [Lit.wf] using h
 have e1:IntKind.i64.min=-9223372036854775808:=by decide
 have e2:IntKind.i64.max=9223372036854775807:=by decide
 omega
end Wf

namespace BbrM
open Arith
structure Wn where
 w:Int
 t0:Int
 v0:Int
 t1:Int
 v1:Int
 t2:Int
 v2:Int
 la:Int
structure OkW (v:Wn):Prop where
 w:U v.w
 t0:U v.t0
 v0:U v.v0
 t1:U v.t1
 v1:U v.v1
 t2:U v.t2
 v2:U v.v2
 la:U v.la
def Wn.all (v:Wn) (t x:Int):Wn:={ v with t0:=t,v0:=x,t1:=t,v1:=x,t2:=t,v2:=x }
def Wn.s12 (v:Wn) (t x:Int):Wn:={ v with t1:=t,v1:=x,t2:=t,v2:=x }
def Wn.s2 (v:Wn) (t x:Int):Wn:={ v with t2:=t,v2:=x }
def Wn.push (v:Wn) (t x:Int):Wn:={ v with t0:=v.t1,v0:=v.v1,t1:=v.t2,v1:=v.v2,t2:=t,v2:=x }
def far (t s w:Int):Prop:=subI t s > w
instance (t s w:Int):Decidable (far t s w):=by unfold far;infer_instance
def wS1 (v:Wn) (t x:Int):Wn:=if x ≥ v.v1 then v.s12 t x else if x ≥ v.v2 then v.s2 t x else v
def wS2 (v:Wn) (t x:Int):Wn :=
 if far t v.t0 v.w then (if far t v.t1 v.w then (v.push t x).push t x else v.push t x)
 else if v.t1=v.t0∧far t v.t0 (v.w / 4) then v.s12 t x
 else if v.t2=v.t1∧far t v.t0 (v.w / 2) then v.s2 t x else v
def Wn.tick (v:Wn) (t:Int):Wn:={ v with la:=if t > v.la then t else v.la }
def wU (v:Wn) (t x:Int):Wn:=if x ≥ v.v0∨far t v.t2 v.w then v.all t x else wS2 (wS1 v t x) t x
def wUpd (v:Wn) (t x:Int):Wn:=wU (v.tick t) (v.tick t).la x
theorem OkW.all {v:Wn} (h:OkW v) {t x:Int} (ht:U t) (hx:U x):OkW (v.all t x):=⟨h.w,ht,hx,ht,hx,ht,hx,h.la⟩
theorem OkW.s12 {v:Wn} (h:OkW v) {t x:Int} (ht:U t) (hx:U x):OkW (v.s12 t x):=⟨h.w,h.t0,h.v0,ht,hx,ht,hx,h.la⟩
theorem OkW.s2 {v:Wn} (h:OkW v) {t x:Int} (ht:U t) (hx:U x):OkW (v.s2 t x):=⟨h.w,h.t0,h.v0,h.t1,h.v1,ht,hx,h.la⟩
theorem OkW.push {v:Wn} (h:OkW v) {t x:Int} (ht:U t) (hx:U x):OkW (v.push t x):=⟨h.w,h.t1,h.v1,h.t2,h.v2,ht,hx,h.la⟩
theorem OkW.tick {v:Wn} (h:OkW v) {t:Int} (ht:U t):OkW (v.tick t):=⟨h.w,h.t0,h.v0,h.t1,h.v1,h.t2,h.v2,by
 show U (if _ then _ else _);split
 ·exact ht
 ·exact h.la⟩
theorem OkW.wS1 {v:Wn} (h:OkW v) {t x:Int} (ht:U t) (hx:U x):OkW (wS1 v t x):=by
 unfold BbrM.wS1;split
 ·exact h.s12 ht hx
 ·split
  ·exact h.s2 ht hx
  ·exact h
theorem OkW.wS2 {v:Wn} (h:OkW v) {t x:Int} (ht:U t) (hx:U x):OkW (wS2 v t x):=by
 unfold BbrM.wS2;split
 ·split
  ·exact (h.push ht hx).push ht hx
  ·exact h.push ht hx
 ·split
  ·exact h.s12 ht hx
  ·split
   ·exact h.s2 ht hx
   ·exact h
theorem OkW.wU {v:Wn} (h:OkW v) {t x:Int} (ht:U t) (hx:U x):OkW (wU v t x):=by
 unfold BbrM.wU;split
 ·exact h.all ht hx
 ·exact (h.wS1 ht hx).wS2 ht hx
theorem OkW.wUpd {v:Wn} (h:OkW v) {t x:Int} (ht:U t) (hx:U x):OkW (wUpd v t x):=(h.tick ht).wU (h.tick ht).la hx
abbrev Sm:Type:=Int × Int × Int × Int × Int × Int × Int × Int × Bool
abbrev sNow (s:Sm):Int:=s.1
abbrev sDel (s:Sm):Int:=s.2.1
abbrev sPri (s:Sm):Int:=s.2.2.1
abbrev sTim (s:Sm):Int:=s.2.2.2.1
abbrev sRtt (s:Sm):Int:=s.2.2.2.2.1
abbrev sAck (s:Sm):Int:=s.2.2.2.2.2.1
abbrev sLost (s:Sm):Int:=s.2.2.2.2.2.2.1
abbrev sFli (s:Sm):Int:=s.2.2.2.2.2.2.2.1
abbrev sLim (s:Sm):Bool:=s.2.2.2.2.2.2.2.2
structure OkS (s:Sm):Prop where
 now:U (sNow s)
 del:U (sDel s)
 pri:U (sPri s)
 tim:U (sTim s)
 rtt:U (sRtt s)
 ack:U (sAck s)
 lost:U (sLost s)
 fli:U (sFli s)
structure Rnd where
 n:Int
 nx:Int
structure OkR (r:Rnd):Prop where
 n:U r.n
 nx:U r.nx
def rB (r:Rnd) (s:Sm):Bool:=decide (sAck s > 0) && !decide (sPri s < r.nx)
def rU (r:Rnd) (s:Sm):Rnd:=if rB r s then ⟨IntKind.u64.wrap (r.n+1),sDel s⟩ else r
theorem OkR.rU {r:Rnd} (h:OkR r) {s:Sm} (hs:OkS s):OkR (rU r s):=by
 unfold BbrM.rU;split
 ·exact ⟨U_wrap _,hs.del⟩
 ·exact h
structure Pp where
 best:Int
 n:Int
 full:Bool
structure OkP (p:Pp):Prop where
 best:U p.best
 n:0≤p.n∧p.n≤3
 full:p.full=false→p.n < 3
def pU (p:Pp) (start limited:Bool) (bw:Int):Pp :=
 if !p.full && start && !limited then
  (if bw ≥ mdI p.best 320 256 then ⟨bw,0,p.full⟩ else ⟨p.best,p.n+1,decide (p.n+1=3)⟩)
 else p
theorem OkP.pU {p:Pp} (h:OkP p) {a b:Bool} {bw:Int} (hb:U bw):OkP (pU p a b bw):=by
 unfold BbrM.pU;split
 ·rename_i hc
  have hf:p.full=false:=by simp at hc;exact hc.1.1
  have hn:=h.full hf
  have:=h.n
  split
  ·exact ⟨hb,by simp,fun _=>by simp⟩
  ·exact ⟨h.best,by simp;omega,fun hh=>by simp at hh ⊢;omega⟩
 ·exact h
structure Cy where
 ph:Int
 at':Int
structure OkC (c:Cy):Prop where
 ph:0≤c.ph∧c.ph < 8
 at':U c.at'
def cSt (now ph:Int):Cy:=⟨ph % 8,now⟩
def cB (c:Cy) (now rtt lost fl up one:Int):Bool :=
 if c.ph=0 then decide (subI now c.at' > rtt) && (decide (lost > 0) || decide (fl ≥ up))
 else if c.ph=1 then decide (subI now c.at' > rtt) || decide (fl≤one) else decide (subI now c.at' > rtt)
def cU (c:Cy) (now rtt lost fl up one:Int):Cy:=if cB c now rtt lost fl up one then cSt now (c.ph+1) else c
def cG (c:Cy):Int:=if c.ph=0 then 320 else if c.ph=1 then 192 else 256
theorem OkC.st {now ph:Int} (h:U now):OkC (cSt now ph):=⟨by unfold cSt;dsimp only;omega,h⟩
theorem OkC.cU {c:Cy} (h:OkC c) {now rtt lost fl up one:Int} (hn:U now):OkC (cU c now rtt lost fl up one):=by
 unfold BbrM.cU;split
 ·exact OkC.st hn
 ·exact h
structure Pb where
 best:Int
 at':Int
 on:Bool
 til:Int
 rd:Bool
structure OkB (b:Pb):Prop where
 best:U b.best
 at':U b.at'
 til:U b.til
def bOld (b:Pb) (now:Int):Bool:=decide (b.best > 0) && decide (now > addI b.at' 10000000000)
def bTake (b:Pb) (now rtt:Int):Bool:=decide (rtt > 0) && (decide (b.best=0) || (decide (rtt≤b.best) || bOld b now))
def bNew (b:Pb) (now rtt:Int):Pb:=if bTake b now rtt then { b with best:=rtt,at':=now } else b
def bLv (b:Pb) (now:Int) (start:Bool) (fl floor:Int):Bool × Pb :=
 if b.til=0 then (if fl≤floor then (false,{ b with til:=addI now 200000000,rd:=false }) else (false,b))
 else if !(b.rd || start) then (false,{ b with rd:=b.rd || start })
 else if now≤b.til then (false,{ b with rd:=b.rd || start })
 else (true,{ b with rd:=b.rd || start,at':=now,on:=false })
def bU (b:Pb) (now rtt:Int) (start:Bool) (fl floor:Int):(Bool × Bool) × Pb :=
 if bOld b now && !b.on then ((true,false),{ bNew b now rtt with on:=true,til:=0,rd:=false })
 else if b.on then ((false,(bLv (bNew b now rtt) now start fl floor).1),(bLv (bNew b now rtt) now start fl floor).2)
 else ((false,false),bNew b now rtt)
theorem OkB.new {b:Pb} (h:OkB b) {now rtt:Int} (hn:U now) (hr:U rtt):OkB (bNew b now rtt):=by
 unfold bNew;split
 ·exact ⟨hr,hn,h.til⟩
 ·exact h
theorem OkB.lv {b:Pb} (h:OkB b) {now fl floor:Int} {st:Bool} (hn:U now):OkB (bLv b now st fl floor).2:=by
 unfold bLv;split
 ·split
  ·exact ⟨h.best,h.at',U_add hn (U_lit _)⟩
  ·exact h
 ·split
  ·exact ⟨h.best,h.at',h.til⟩
  ·split
   ·exact ⟨h.best,h.at',h.til⟩
   ·exact ⟨h.best,hn,h.til⟩
theorem OkB.bU {b:Pb} (h:OkB b) {now rtt fl floor:Int} {st:Bool} (hn:U now) (hr:U rtt):OkB (bU b now rtt st fl floor).2:=by
 have:=h.new hn hr
 unfold BbrM.bU;split
 ·exact ⟨this.best,this.at',U_lit 0⟩
 ·split
  ·exact this.lv hn
  ·exact this
structure Pl where
 use:Bool
 mea:Bool
 bw:Int
 n:Int
 lost:Int
 t0:Int
 d0:Int
 l0:Int
structure OkL (q:Pl):Prop where
 bw:U q.bw
 n:0≤q.n∧q.n≤48
 lost:U q.lost
 t0:U q.t0
 d0:U q.d0
 l0:U q.l0
 nu:q.use=true→q.n < 48
 nm:q.use=false→q.mea=true→q.n≤16
def avg (a b:Int):Int:=a / 2+b / 2+(a % 2+b % 2) / 2
def apart (a b:Int):Int:=if a < b then b - a else a - b
theorem U_avg {a b:Int} (ha:U a) (hb:U b):U (avg a b):=by unfold U avg at *;omega
def qMeas (q:Pl) (s:Sm):Option Int :=
 if subI (sDel s) q.d0=0∨subI (sNow s) q.t0=0 then none
 else if subI q.lost q.l0 < mdI (subI (sDel s) q.d0) 50 256 then none
 else some (mdI (subI (sDel s) q.d0) 1000000000 (subI (sNow s) q.t0))
def qBegin (q:Pl) (s:Sm):Pl:={ q with mea:=true,n:=0,t0:=sNow s,d0:=sDel s,l0:=q.lost }
def qLeave (q:Pl):Pl:={ q with use:=false,mea:=false,bw:=0 }
def qGot (q:Pl) (s:Sm) (r:Int):Pl:=if q.bw > 0∧apart q.bw r≤q.bw / 8 then { q with bw:=avg q.bw r,use:=true,n:=0 } else qBegin { q with bw:=r } s
def qEnd (q:Pl) (s:Sm):Pl:=match qMeas q s with
 | none=>q
 | some r=>qGot q s r
def qAdd (q:Pl) (s:Sm):Pl:={ q with lost:=addI q.lost (sLost s) }
def qTick (q:Pl) (o:Bool):Pl:=if o then { q with n:=q.n+1 } else q
def qGo (q:Pl) (o:Bool) (s:Sm):Pl :=
 if q.use then (if o=true∧q.n=48 then { qLeave q with n:=0 } else q)
 else if q.n > 16 then qLeave q
 else if q.n ≥ 4∧sLost s > 0 then qEnd q s else q
def qUpd (q:Pl) (o:Bool) (s:Sm):Pl :=
 if q.use=false∧q.mea=false then (if sLost s > 0 then qBegin (qAdd q s) s else qAdd q s)
 else if q.use=false∧sLim s=true then qLeave (qAdd q s)
 else qGo (qTick (qAdd q s) o) o s
theorem OkL.begin {q:Pl} {s:Sm} (hb:U q.bw) (hl:U q.lost) (hs:OkS s):OkL (qBegin q s) :=
 ⟨hb,by simp [qBegin],hl,hs.now,hs.del,hl,fun _=>by simp [qBegin],fun _ _=>by simp [qBegin]⟩
theorem OkL.leave {q:Pl} (h:OkL q):OkL (qLeave q):=⟨U_lit 0,h.n,h.lost,h.t0,h.d0,h.l0,fun hh=>by simp [qLeave] at hh,fun _ hh=>by simp [qLeave] at hh⟩
theorem OkL.add {q:Pl} (h:OkL q) {s:Sm} (hs:OkS s):OkL (qAdd q s):=⟨h.bw,h.n,U_add h.lost hs.lost,h.t0,h.d0,h.l0,h.nu,h.nm⟩
theorem U_meas {q:Pl} (h:OkL q) {s:Sm} (hs:OkS s) {r:Int} (hr:qMeas q s=some r):U r:=by
 unfold qMeas at hr
 split at hr
 ·cases hr
 ·split at hr
  ·cases hr
  ·cases hr;exact U_md (U_sub hs.del h.d0) (U_lit _) (U_sub hs.now h.t0)
theorem OkL.got {q:Pl} (h:OkL q) {s:Sm} (hs:OkS s) {r:Int} (hr:U r):OkL (qGot q s r):=by
 unfold qGot
 split
 ·exact ⟨U_avg h.bw hr,by simp,h.lost,h.t0,h.d0,h.l0,fun _=>by simp,fun _ _=>by simp⟩
 ·exact OkL.begin hr h.lost hs
theorem OkL.end' {q:Pl} (h:OkL q) {s:Sm} (hs:OkS s):OkL (qEnd q s):=by
 unfold qEnd
 split
 ·exact h
 ·rename_i r hr
  exact h.got hs (U_meas h hs hr)
theorem qGo_ok {q:Pl} (h:OkL q) {o:Bool} {s:Sm} (hs:OkS s) (hm:q.use=false→q.mea=true):OkL (qGo (qTick q o) o s):=by
 obtain ⟨use,mea,bw,n,lost,t0,d0,l0⟩:=q
 have h1:=h.n
 have h2:=h.nu
 have h3:=h.nm
 dsimp only at h1 h2 h3 hm
 cases o with
 | false =>
  show OkL (qGo _ false s)
  unfold qGo
  simp only [qTick,Bool.false_eq_true,if_false,false_and]
  split
  ·exact h
  ·split
   ·exact h.leave
   ·split
    ·exact h.end' hs
    ·exact h
 | true =>
  unfold qGo
  simp only [qTick,if_true,true_and]
  split
  ·rename_i hu
   have hu:use=true:=hu
   have:=h2 hu
   split
   ·exact ⟨U_lit 0,by simp,h.lost,h.t0,h.d0,h.l0,(fun hh=>by simp [qLeave] at hh),(fun _ hh=>by simp [qLeave] at hh)⟩
   ·rename_i h48
    exact ⟨h.bw,(by dsimp only;omega),h.lost,h.t0,h.d0,h.l0,(fun _=>by dsimp only;omega),(fun hh=>by dsimp only at hh;rw [hu] at hh;cases hh)⟩
  ·rename_i hu
   have hu:use=false:=by simpa using hu
   have:=h3 hu (hm hu)
   split
   ·exact ⟨U_lit 0,(by simp [qLeave];omega),h.lost,h.t0,h.d0,h.l0,(fun hh=>by simp [qLeave] at hh),(fun _ hh=>by simp [qLeave] at hh)⟩
   ·rename_i h16
    have hk:OkL ⟨use,mea,bw,n+1,lost,t0,d0,l0⟩:=⟨h.bw,(by dsimp only;omega),h.lost,h.t0,h.d0,h.l0,(fun hh=>by dsimp only at hh;rw [hu] at hh;cases hh),(fun _ _=>by dsimp only;omega)⟩
    split
    ·exact hk.end' hs
    ·exact hk
theorem OkL.upd {q:Pl} (h:OkL q) {o:Bool} {s:Sm} (hs:OkS s):OkL (qUpd q o s):=by
 unfold qUpd
 split
 ·split
  ·exact OkL.begin h.bw (U_add h.lost hs.lost) hs
  ·exact h.add hs
 ·rename_i h0
  split
  ·exact (h.add hs).leave
  ·exact qGo_ok (h.add hs) hs (fun hu=>by
    have hu:q.use=false:=hu
    cases hm:q.mea with
    | false=>exact absurd ⟨hu,hm⟩ h0
    | true=>exact hm)
end BbrM

namespace BbrMm
open Arith BbrM
structure Md where
 w:Wn
 r:Rnd
 p:Pp
 c:Cy
 b:Pb
 q:Pl
 mss:Int
 mode:Int
 rate:Int
 win:Int
 sav:Int
 rec':Bool
 first:Bool
 til:Int
structure OkM (m:Md):Prop where
 w:OkW m.w
 r:OkR m.r
 p:OkP m.p
 c:OkC m.c
 b:OkB m.b
 q:OkL m.q
 mss:100≤m.mss∧m.mss≤9000
 mode:0≤m.mode∧m.mode≤3
 rate:U m.rate
 win:U m.win
 sav:U m.sav
 til:U m.til
def mBw (m:Md):Int:=if m.q.use then m.q.bw else m.w.v0
def mBdp (m:Md) (g:Int):Int:=bdpI (mBw m) m.b.best g
def mGain (m:Md):Int:=if m.mode=0 then 739 else if m.mode=1 then 88 else if m.mode=2∧m.q.use=false then cG m.c else 256
def mWide (m:Md):Int:=if m.mode=2 then 512 else if m.mode=3 then 256 else 739
def mFloor (m:Md):Int:=4 * m.mss
theorem OkM.bw {m:Md} (h:OkM m):U (mBw m):=by
 unfold mBw;split
 ·exact h.q.bw
 ·exact h.w.v0
theorem U_cG (c:Cy):U (cG c):=by
 unfold cG;split
 ·exact U_lit _
 ·split<;>exact U_lit _
theorem U_gain (m:Md):U (mGain m):=by
 unfold mGain;split
 ·exact U_lit _
 ·split
  ·exact U_lit _
  ·split
   ·exact U_cG _
   ·exact U_lit _
theorem U_wide (m:Md):U (mWide m):=by
 unfold mWide;split
 ·exact U_lit _
 ·split<;>exact U_lit _
theorem OkM.mssU {m:Md} (h:OkM m):U m.mss:=by have:=h.mss;unfold U;omega
theorem OkM.floor {m:Md} (h:OkM m):U (mFloor m):=by have:=h.mss;unfold U mFloor;omega
def mK (s:Sm):Int:=mdI (subI (sDel s) (sPri s)) 1000000000 (sTim s)
def mMeas (m:Md) (s:Sm):Md:=if sAck s=0∨sTim s=0 then m else if sLim s=false∨mK s ≥ m.w.v0 then { m with w:=wUpd m.w m.r.n (mK s) } else m
def mCyc (m:Md) (s:Sm):Md:=if m.mode=2∧m.q.use=false then { m with c:=cU m.c (sNow s) m.b.best (sLost s) (sFli s) (mBdp m 320) (mBdp m 256) } else m
abbrev mPipe (m:Md) (o:Bool) (s:Sm):Md:={ m with p:=pU m.p o (sLim s) m.w.v0 }
abbrev mCruise (m:Md) (now:Int):Md:={ m with mode:=2,c:=cSt now 2 }
def mM1 (m:Md):Md:=if m.mode=0∧m.p.full=true then { m with mode:=1 } else m
def mM2 (m:Md) (s:Sm):Md:=if m.mode=1∧m.b.best > 0∧sFli s≤mBdp m 256 then mCruise m (sNow s) else m
abbrev mBack (m:Md):Md:={ m with win:=if m.sav > m.win then m.sav else m.win,sav:=0 }
abbrev mPr (m:Md) (s:Sm) (o:Bool):(Bool × Bool) × Pb:=bU m.b (sNow s) (sRtt s) o (sFli s) (mFloor m)
def mProbed (m:Md) (r:Bool × Bool) (now:Int):Md :=
 if r.1 then { m with sav:=if m.win > m.sav then m.win else m.sav,mode:=3 }
 else if r.2 then (if m.p.full then mCruise { mBack m with mode:=0 } now else { mBack m with mode:=0 })
 else m
def mLook (m:Md) (s:Sm) (o:Bool):Md:=mProbed { m with b:=(mPr m s o).2 } (mPr m s o).1 (sNow s)
def mRt (m:Md):Int:=if 1 > rateI (mBw m) (mGain m) then 1 else rateI (mBw m) (mGain m)
def mPace (m:Md):Md:=if mBw m=0 then m else if m.p.full=true∨mRt m > m.rate then { m with rate:=mRt m } else m
def mOver (m:Md):Md:=if m.mode≠3 then mBack { m with rec':=false,first:=false } else { m with rec':=false,first:=false }
def mRecover (m:Md) (s:Sm) (o:Bool):Md :=
 if sLost s > 0∧m.rec'=false then { m with rec':=true,first:=true,til:=addI (sDel s) (sFli s),sav:=if m.win > m.sav then m.win else m.sav }
 else if m.rec'=true then (if sDel s < m.til then { m with first:=m.first && !o } else mOver { m with first:=m.first && !o })
 else m
abbrev mW1 (m:Md) (s:Sm):Md:={ m with win:=if m.mss > subI m.win (sLost s) then m.mss else subI m.win (sLost s) }
def mTar (m:Md) (tso:Int):Int:=winI (mBw m) m.b.best (mWide m) tso m.mss
def mW2 (m : Md) (s : Sm) (tso : Int) : Md :=
  if m.first then { m with win := if addI (sFli s) (sAck s) > m.win then addI (sFli s) (sAck s) else m.win }
  else if sAck s > 0 then
    (if m.p.full then { m with win := if mTar m tso < addI m.win (sAck s) then mTar m tso else addI m.win (sAck s) }
     else if m.win < mTar m tso ∨ sDel s < 10 * m.mss then { m with win := addI m.win (sAck s) } else m)
  else m
abbrev mW3 (m:Md):Md:={ m with win:=if mFloor m > m.win then mFloor m else m.win }
def mW4 (m:Md):Md:=if m.mode=3 then { m with win:=mFloor m } else m
def mWindow (m:Md) (s:Sm) (tso:Int):Md:=mW4 (mW3 (mW2 (mW1 m s) s tso))
abbrev mU1 (m:Md) (s:Sm):Md:={ m with r:=rU m.r s,q:=qUpd m.q (rB m.r s) s }
def mU2 (m:Md) (o:Bool) (s:Sm):Md:=mLook (mM2 (mM1 (mPipe (mCyc (mMeas m s) s) o s)) s) s o
def mU3 (m:Md) (o:Bool) (s:Sm) (tso:Int):Md:=mWindow (mRecover (mPace m) s o) s tso
def mUpd (m:Md) (s:Sm) (tso:Int):Md:=mU3 (mU2 (mU1 m s) (rB m.r s) s) (rB m.r s) s tso
abbrev St:Type:=Int × Int × Int × Int × Int × Int × Int × Int × Bool × Bool
def mSt (m:Md):St:=(m.mode,m.c.ph,m.rate,m.win,mBw m,m.b.best,mGain m,m.r.n,m.p.full,m.q.use)
theorem U_if {p:Prop} [Decidable p] {a b:Int} (ha:U a) (hb:U b):U (if p then a else b):=by split<;>assumption
theorem OkM.meas {m:Md} (h:OkM m) {s:Sm} (hs:OkS s):OkM (mMeas m s):=by
 unfold mMeas;split
 ·exact h
 ·split
  ·exact { h with w:=h.w.wUpd h.r.n (U_md (U_sub hs.del hs.pri) (U_lit _) hs.tim) }
  ·exact h
theorem OkM.cyc {m:Md} (h:OkM m) {s:Sm} (hs:OkS s):OkM (mCyc m s):=by
 unfold mCyc;split
 ·exact { h with c:=h.c.cU hs.now }
 ·exact h
theorem OkM.pipe {m:Md} (h:OkM m) {o:Bool} {s:Sm}:OkM (mPipe m o s):={ h with p:=h.p.pU h.w.v0 }
theorem OkM.cruise {m:Md} (h:OkM m) {now:Int} (hn:U now):OkM (mCruise m now):={ h with c:=OkC.st hn,mode:=by simp [mCruise] }
theorem OkM.m1 {m:Md} (h:OkM m):OkM (mM1 m):=by
 unfold mM1;split
 ·exact { h with mode:=by simp }
 ·exact h
theorem OkM.m2 {m:Md} (h:OkM m) {s:Sm} (hs:OkS s):OkM (mM2 m s):=by
 unfold mM2;split
 ·exact h.cruise hs.now
 ·exact h
theorem OkM.back {m:Md} (h:OkM m):OkM (mBack m):={ h with win:=U_if h.sav h.win,sav:=U_lit 0 }
theorem OkM.probed {m:Md} (h:OkM m) {r:Bool × Bool} {now:Int} (hn:U now):OkM (mProbed m r now):=by
 unfold mProbed;split
 ·exact { h with sav:=U_if h.win h.sav,mode:=by simp }
 ·split
  ·have hb:OkM { mBack m with mode:=0 }:={ h.back with mode:=by simp }
   split
   ·exact hb.cruise hn
   ·exact hb
  ·exact h
theorem OkM.look {m:Md} (h:OkM m) {s:Sm} (hs:OkS s) {o:Bool}:OkM (mLook m s o):=by
 have:OkM { m with b:=(mPr m s o).2 }:={ h with b:=h.b.bU hs.now hs.rtt }
 exact this.probed hs.now
theorem U_rt {m:Md} (h:OkM m):U (mRt m):=U_if (U_lit 1) (U_rate h.bw (U_gain m))
theorem OkM.pace {m:Md} (h:OkM m):OkM (mPace m):=by
 unfold mPace;split
 ·exact h
 ·split
  ·exact { h with rate:=U_rt h }
  ·exact h
theorem OkM.recover {m:Md} (h:OkM m) {s:Sm} (hs:OkS s) {o:Bool}:OkM (mRecover m s o):=by
 unfold mRecover;split
 ·exact { h with til:=U_add hs.del hs.fli,sav:=U_if h.win h.sav }
 ·split
  ·split
   ·exact { h with }
   ·unfold mOver
    have h2:OkM { m with rec':=false,first:=false }:={ h with }
    split
    ·exact h2.back
    ·exact h2
  ·exact h
theorem OkM.w1 {m:Md} (h:OkM m) {s:Sm} (hs:OkS s):OkM (mW1 m s):={ h with win:=U_if h.mssU (U_sub h.win hs.lost) }
theorem OkM.tar {m:Md} (h:OkM m) {tso:Int} (ht:U tso):U (mTar m tso):=U_win h.bw h.b.best (U_wide m) ht h.mssU
theorem OkM.w2 {m:Md} (h:OkM m) {s:Sm} (hs:OkS s) {tso:Int} (ht:U tso):OkM (mW2 m s tso):=by
 unfold mW2;split
 ·exact { h with win:=U_if (U_add hs.fli hs.ack) h.win }
 ·split
  ·split
   ·exact { h with win:=U_if (h.tar ht) (U_add h.win hs.ack) }
   ·split
    ·exact { h with win:=U_add h.win hs.ack }
    ·exact h
  ·exact h
theorem OkM.w3 {m:Md} (h:OkM m):OkM (mW3 m):={ h with win:=U_if h.floor h.win }
theorem OkM.w4 {m:Md} (h:OkM m):OkM (mW4 m):=by
 unfold mW4;split
 ·exact { h with win:=h.floor }
 ·exact h
theorem OkM.window {m:Md} (h:OkM m) {s:Sm} (hs:OkS s) {tso:Int} (ht:U tso):OkM (mWindow m s tso):=((h.w1 hs).w2 hs ht).w3.w4
theorem OkM.u1 {m:Md} (h:OkM m) {s:Sm} (hs:OkS s):OkM (mU1 m s):={ h with r:=h.r.rU hs,q:=h.q.upd hs }
theorem OkM.upd {m:Md} (h:OkM m) {s:Sm} (hs:OkS s) {tso:Int} (ht:U tso):OkM (mUpd m s tso) :=
 (((((((h.u1 hs).meas hs).cyc hs).pipe.m1.m2 hs).look hs).pace.recover hs).window hs ht)
def mMss (n:Int):Int:=if 9000 < (if 100 > n then 100 else n) then 9000 else (if 100 > n then 100 else n)
abbrev mNew (n:Int):Md:={ w:=⟨10,0,0,0,0,0,0,0⟩,r:=⟨0,0⟩,p:=⟨0,0,false⟩,c:=⟨0,0⟩,b:=⟨0,0,false,0,false⟩,q:=⟨false,false,0,0,0,0,0,0⟩,mss:=mMss n,mode:=0,rate:=rateI (10 * mMss n * 1000) 739,win:=10 * mMss n,sav:=0,rec':=false,first:=false,til:=0 }
theorem mss_r (n:Int):100≤mMss n∧mMss n≤9000:=by unfold mMss;split<;>split<;>omega
theorem OkM.new (n:Int):OkM (mNew n):=by
 have:=mss_r n
 exact { w:=⟨U_lit 10,U_lit 0,U_lit 0,U_lit 0,U_lit 0,U_lit 0,U_lit 0,U_lit 0⟩,r:=⟨U_lit 0,U_lit 0⟩,p:=⟨U_lit 0,(by simp [mNew]),fun _=>by simp [mNew]⟩,c:=⟨(by simp [mNew]),U_lit 0⟩,b:=⟨U_lit 0,U_lit 0,U_lit 0⟩,q:=⟨U_lit 0,(by simp [mNew]),U_lit 0,U_lit 0,U_lit 0,U_lit 0,(fun h=>by simp [mNew] at h),fun _ h=>by simp [mNew] at h⟩,mss:=this,mode:=(by simp [mNew]),rate:=U_rate ⟨by omega,by omega⟩ (U_lit 739),win:=⟨(by show 0≤10 * mMss n;omega),by show 10 * mMss n < _;omega⟩,sav:=U_lit 0,til:=U_lit 0 }
end BbrMm

namespace BbrG
open Arith BbrM BbrMm
structure Inv (m:Md):Prop where
 on:m.b.on=true↔m.mode=3
 full:m.mode=1∨m.mode=2→m.p.full=true
end BbrG

namespace BbrLs
open BbrM BbrMm
abbrev lsW (v:Wn):List Lf:=[.int .u64 v.w,.int .u64 v.t0,.int .u64 v.v0,.int .u64 v.t1,.int .u64 v.v1,.int .u64 v.t2,.int .u64 v.v2,.int .u64 v.la]
abbrev lsR (v:Rnd):List Lf:=[.int .u64 v.n,.int .u64 v.nx]
abbrev lsP (v:Pp):List Lf:=[.int .u64 v.best,.int .i64 v.n,.bool v.full]
abbrev lsC (v:Cy):List Lf:=[.int .i64 v.ph,.int .u64 v.at']
abbrev lsB (v:Pb):List Lf:=[.int .u64 v.best,.int .u64 v.at',.bool v.on,.int .u64 v.til,.bool v.rd]
abbrev lsL (v:Pl):List Lf:=[.bool v.use,.bool v.mea,.int .u64 v.bw,.int .i64 v.n,.int .u64 v.lost,.int .u64 v.t0,.int .u64 v.d0,.int .u64 v.l0]
abbrev lsM (n1 n2 n3 n4 n5 n6:Nat) (v:Md):List Lf:=[.ptr (some ⟨n1,0⟩),.ptr (some ⟨n2,0⟩),.ptr (some ⟨n3,0⟩),.ptr (some ⟨n4,0⟩),.ptr (some ⟨n5,0⟩),.ptr (some ⟨n6,0⟩),.int .u64 v.mss,.int .i64 v.mode,.int .u64 v.rate,.int .u64 v.win,.int .u64 v.sav,.bool v.rec',.bool v.first,.int .u64 v.til]
end BbrLs

end Go.X
