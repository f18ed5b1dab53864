/- Contracts and plain facts: Arith Plain ScM. -/
import Derived.Lib.ItoaNum
import Derived.Test.YtniflenfpbbikaaDoorK
set_option linter.unusedVariables false
set_option linter.unusedSimpArgs false
set_option linter.unusedSectionVars false
namespace Go.X
namespace Arith
abbrev M:Int:=18446744073709551616
end Arith

abbrev KI:Ks:=[.int .i64]
abbrev KR:Ks:=[.int .u64,.int .u64]
section
variable {w0 w : World} {S0 R0 : Nat → Prop} {F G : SP}
theorem w_setTo {p:Pt} {ls:List Lf} {A:WP} {L:List Lf} (h:Own w0 S0 R0 w F) (b:Nat) (L':List Lf) [t:TakeB b F L G] (hp:p.b=b) (hx:Nat.ble (p.o+ls.length) L.length=true) (e:upd L p.o ls=L')
  (k:∀ w',Own w0 S0 R0 w' (X.blk b L'^G)→A w'):st p ls A w:=by
 subst hp
 subst e
 exact w_set h hx k
end
theorem least {α:Type} (P:α→Prop) (μ:α→Nat) (h:∃ a,P a):∃ n,(∃ a,P a∧μ a=n)∧∀ a,P a→n≤μ a:=by
 obtain ⟨a,ha⟩:=h
 have key:∀ k a,P a→μ a≤k→∃ n,(∃ a,P a∧μ a=n)∧∀ a,P a→n≤μ a:=by
  intro k
  induction k with
  | zero=>intro a ha hk;exact ⟨0,⟨a,ha,by omega⟩,fun _ _=>Nat.zero_le _⟩
  | succ k ih =>
   intro a ha hk
   by_cases hc:∃ c,P c∧μ c < μ a
   ·obtain ⟨c,hc,hlt⟩:=hc
    exact ih c hc (by omega)
   ·exact ⟨μ a,⟨a,ha,rfl⟩,fun c hc'=>Nat.le_of_not_lt fun hlt=>hc ⟨c,hc',hlt⟩⟩
 exact key _ a ha (Nat.le_refl _)
open Classical in
theorem w_loopE {w0 w:World} {S0 R0:Nat→Prop} {α:Type} {cs:List CK} {x₀:Ks.T cs} {B:(Ks.T cs→WP)→Ks.T cs→WP} (I:Ks.T cs→α→SP) (φ:Ks.T cs→α→Prop) (μ:Ks.T cs→α→Nat) (a₀:α) (h:Own w0 S0 R0 w (I x₀ a₀)) (h0:φ x₀ a₀)
  (hr:∀ (K:Ks.T cs→WP) x a w,φ x a→Own w0 S0 R0 w (I x a)→(∀ y c w',φ y c→Own w0 S0 R0 w' (I y c)→μ y c < μ x a→K y w')→B K x w):loop cs x₀ B w:=by
 refine ⟨fun x w=>∃ a,φ x a∧Own w0 S0 R0 w (I x a),fun x w=>if h:∃ a,φ x a∧Own w0 S0 R0 w (I x a) then Classical.choose (least _ (μ x) h) else 0,⟨a₀,h0,h⟩,?_⟩
 intro x w hx
 have hs:=Classical.choose_spec (least _ (μ x) hx)
 obtain ⟨⟨a,⟨hp,ha⟩,hn⟩,_⟩:=hs
 refine hr _ x a w hp ha fun y c w' hy ho hlt=>⟨⟨c,hy,ho⟩,?_⟩
 have hx':∃ c,φ y c∧Own w0 S0 R0 w' (I y c):=⟨c,hy,ho⟩
 have e1:(if h:∃ a,φ y a∧Own w0 S0 R0 w' (I y a) then Classical.choose (least _ (μ y) h) else 0)=Classical.choose (least _ (μ y) hx'):=dif_pos hx'
 have e2:(if h:∃ a,φ x a∧Own w0 S0 R0 w (I x a) then Classical.choose (least _ (μ x) h) else 0)=Classical.choose (least _ (μ x) hx):=dif_pos hx
 show (if h:∃ a,φ y a∧Own w0 S0 R0 w' (I y a) then Classical.choose (least _ (μ y) h) else 0) < (if h:∃ a,φ x a∧Own w0 S0 R0 w (I x a) then Classical.choose (least _ (μ x) h) else 0)
 rw [e1,e2,← hn]
 have:=(Classical.choose_spec (least _ (μ y) hx')).2 c ⟨hy,ho⟩
 omega

namespace ScM
def dg (n:Int):List UInt8:=_root_.Go.Lib.decDigits n.toNat
def bA (l:List UInt8):ByteArray:=⟨l.toArray⟩
theorem bA_app (a b:List UInt8):bA a++bA b=bA (a++b):=by
 apply ByteArray.ext
 simp [bA,ByteArray.data_append]
theorem bA_size (l:List UInt8):(bA l).size=l.length:=by
 show l.toArray.size=_
 simp
abbrev Sg:=Int × Int × Int × Int × Bool
def sgT (s:Sg):List UInt8:=dg s.1++[58]++dg s.2.1++[58]++dg s.2.2.1
def sgL (sign:List UInt8) (l:List Sg):List UInt8:=l.flatMap fun s=>sign++sgT s
theorem sgL_take {sign:List UInt8} {l:List Sg} {i:Nat} {x:Sg} (h:l[i]?=some x):sgL sign (l.take (i+1))=sgL sign (l.take i)++(sign++sgT x):=by
 unfold sgL;rw [List.take_add_one,h];simp
abbrev Ot:=List Sg × List Sg × Int
def outT (o:Ot):List UInt8:=sgL [32,43] o.1++(sgL [32,45] o.2.1++(if o.2.2=0 then [] else [32,64]++dg o.2.2))
def lnT (os:List Ot) (i:Nat) (e:Int):List UInt8:=dg e++((match os[i]? with
 | some o=>outT o
 | none=>[])++[10])
def txP (os:List Ot) (es:List Int):Nat→List UInt8
 | 0=>[]
 | n+1=>txP os es n++lnT os n (es.getD n 0)
def txF (os:List Ot) (es:List Int):List UInt8:=txP os es es.length
theorem dg_len {n:Int} (h:n < 18446744073709551616):(dg n).length≤20:=by
 unfold dg
 rw [_root_.Go.Lib.decDigits_length]
 by_cases h1:1≤n.toNat
 ·have:=_root_.Go.Lib.numDigits_eq n.toNat h1 (by omega)
  split at this<;>omega
 ·have:n.toNat=0:=by omega
  rw [this,_root_.Go.Lib.nDigits_small (by decide)];decide
structure OkS (s:Sg):Prop where
 k:s.1 < 9223372036854775808
 f:0≤s.2.1∧s.2.1 < 18446744073709551616
 n:s.2.2.1 < 9223372036854775808
theorem sgT_len {s:Sg} (h:OkS s):(sgT s).length≤62:=by
 have h1:=dg_len (n:=s.1) (by have:=h.k;omega)
 have h2:=dg_len h.f.2
 have h3:=dg_len (n:=s.2.2.1) (by have:=h.n;omega)
 unfold sgT
 simp only [List.length_append,List.length_cons,List.length_nil]
 omega
theorem sgL_len {sign:List UInt8} (hs:sign.length≤2):∀ {l:List Sg},(∀ s∈l,OkS s)→(sgL sign l).length≤64 * l.length
 | [],_=>Nat.zero_le _
 | x :: l,h=>by
  have h1:=sgT_len (h x (List.mem_cons_self ..))
  have h2:=sgL_len hs (l:=l) (fun s hs=>h s (List.mem_cons_of_mem _ hs))
  have e:sgL sign (x :: l)=sign++sgT x++sgL sign l:=by unfold sgL;simp
  rw [e]
  simp only [List.length_append,List.length_cons]
  omega
structure OkT (o:Ot):Prop where
 a:∀ s∈o.1,OkS s
 b:∀ s∈o.2.1,OkS s
 w:0≤o.2.2∧o.2.2 < 18446744073709551616
 la:o.1.length≤100000
 lb:o.2.1.length≤100000
theorem outT_len {o:Ot} (h:OkT o):(outT o).length≤12800022:=by
 have h1:=sgL_len (sign:=[32,43]) (by decide) h.a
 have h2:=sgL_len (sign:=[32,45]) (by decide) h.b
 have h3:=dg_len h.w.2
 have:=h.la
 have:=h.lb
 unfold outT
 simp only [List.length_append]
 split
 ·simp only [List.length_nil];omega
 ·simp only [List.length_append,List.length_cons,List.length_nil];omega
theorem lnT_len {os:List Ot} (h:∀ o∈os,OkT o) (i:Nat) {e:Int} (he:e < 18446744073709551616):(lnT os i e).length≤12800043:=by
 have h1:=dg_len he
 unfold lnT
 simp only [List.length_append,List.length_cons,List.length_nil]
 split
 ·rename_i o ho
  have:=outT_len (h o (List.mem_of_getElem? ho))
  omega
 ·simp only [List.length_nil];omega
theorem txP_len {os:List Ot} (h:∀ o∈os,OkT o) {es:List Int} (he:∀ e∈es,e < 18446744073709551616):∀ n,(txP os es n).length≤12800043 * n
 | 0=>Nat.le_refl _
 | n+1=>by
  have h1:=txP_len h he n
  have h2:=lnT_len h n (e:=es.getD n 0) (by
   rw [List.getD_eq_getElem?_getD]
   cases hh:es[n]? with
   | none=>show (0:Int) < _;decide
   | some x=>exact he x (List.mem_of_getElem? hh))
  unfold txP
  rw [List.length_append]
  omega
theorem txP_at {os:List Ot} {es:List Int} {i:Nat} {e:Int} (h:es[i]?=some e):txP os es (i+1)=txP os es i++lnT os i e:=by
 show txP os es i++lnT os i (es.getD i 0)=_
 rw [List.getD_eq_getElem?_getD,h];rfl
end ScM

end Go.X
