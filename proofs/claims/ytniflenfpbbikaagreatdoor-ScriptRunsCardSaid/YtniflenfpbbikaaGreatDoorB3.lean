/- Contracts. -/
import Derived.Test.YtniflenfpbbikaaGreatDoorB2
set_option linter.all false
set_option autoImplicit true
set_option relaxedAutoImplicit true
namespace Go.X
open IntKind (u64 i64)
open Go.Proofs
namespace F6
open bH bp fL _root_.Go.X.Tree iU kR lP ff lL lN Ej Cu xI Jx
def nS(d:Cf):Cf:=((if 100≤cQ d∧cQ d≤65536 then cQ d else 3000),(if 100≤cF d∧cF d≤65536 then cF d else 15000),(if 1≤cL d∧cL d≤512 then cL d else 100),(if 1≤cW d∧cW d≤512 then cW d else 50),(if cH d≤4611686018427387904 then cH d else 10000000000),(cR d),(cD d),(if 1≤dZ d∧dZ d≤1073741824 then dZ d else 100000),(if 100≤eU d∧eU d≤9000 then eU d else 1000))
abbrev zC:List Lf:=[aE 0,aE 0,aE 0,aE 0,aB 0,aB 0,bc false,aE 0,aE 0]
theorem Gz(d):bu (c7 d) bg (λr=>bs (r=nS d) bg):=
 bC λw0 S R h=>by
  refine aD h λn1 w h=>aD h λn2 w h=>ar KQ h λr w h=>?_;obtain⟨hr,h⟩:=h.aP;rw[hr];refine aD h λn4 w h=>az h (by rfl) λw h=>?_;have h:=h.dQ (b:=n4) (L':=[aE 3000,aE 15000,aE 100,aE 50,aB 10000000000,aB 0,bc false,aE 100000,aE 1000]) rfl;have h:=h.dQ (b:=n4) (L':=[aE 3000,aE 15000,aE 100,aE 50,aB 10000000000,aB 0,bc false,aE 100000,aE 1000]) rfl;have h:au w0 S R w (af n1 (Ks.mk KC d)^af n2 zC^af n4 [aE 3000,aE 15000,aE 100,aE 50,aB 10000000000,aB 0,bc false,aE 100000,aE 1000]):=h.aI;refine aQ h (λ_:Unit=>af n1 (Ks.mk KC d)^af n2 zC^af n4 [aE (if 100≤cQ d∧cQ d≤65536 then cQ d else 3000),aE 15000,aE 100,aE 50,aB 10000000000,aB 0,bc false,aE 100000,aE 1000]) (λ_=>True) ?_ ?_;rotate_left
  ·refine aQ h (λ_:Bool=>af n1 (Ks.mk KC d)^af n2 zC^af n4 [aE 3000,aE 15000,aE 100,aE 50,aB 10000000000,aB 0,bc false,aE 100000,aE 1000]) (λy:Bool=>y=decide (100≤cQ d∧cQ d≤65536)) (λy w hy h=>?_) ?_
   ·rw[hy];refine ae (λc=>?_) λc=>?_
    ·have c:=bV c;refine ah h rfl (aA h n4 [aE (if 100≤cQ d∧cQ d≤65536 then cQ d else 3000),aE 15000,aE 100,aE 50,aB 10000000000,aB 0,bc false,aE 100000,aE 1000] rfl rfl (by rw[aG c];rfl) λw h=>⟨trivial,h.aI⟩)
    ·have c:=bY c;have h:=h.dQ (b:=n4) (L':=[aE (if 100≤cQ d∧cQ d≤65536 then cQ d else 3000),aE 15000,aE 100,aE 50,aB 10000000000,aB 0,bc false,aE 100000,aE 1000]) (by rw[ay c]);exact⟨trivial,h.aI⟩
   ·refine ah h rfl (ae (λc=>ah h rfl ⟨?_,h.aI⟩) λc=>⟨?_,h.aI⟩)
    ·have c:cQ d≥100:=cC;show decide (cQ d≤65536)=_;rw[xk];exact⟨λx=>⟨c,x⟩,λx=>x.2⟩
    ·have c:¬cQ d≥100:=cC;exact(nO λx=>c x.1).symm
  rintro-w-h;refine aQ h (λ_:Unit=>af n1 (Ks.mk KC d)^af n2 zC^af n4 [aE (if 100≤cQ d∧cQ d≤65536 then cQ d else 3000),aE (if 100≤cF d∧cF d≤65536 then cF d else 15000),aE 100,aE 50,aB 10000000000,aB 0,bc false,aE 100000,aE 1000]) (λ_=>True) ?_ ?_;rotate_left
  ·refine aQ h (λ_:Bool=>af n1 (Ks.mk KC d)^af n2 zC^af n4 [aE (if 100≤cQ d∧cQ d≤65536 then cQ d else 3000),aE 15000,aE 100,aE 50,aB 10000000000,aB 0,bc false,aE 100000,aE 1000]) (λy:Bool=>y=decide (100≤cF d∧cF d≤65536)) (λy w hy h=>?_) ?_
   ·rw[hy];refine ae (λc=>?_) λc=>?_
    ·have c:=bV c;refine ah h rfl (aA h n4 [aE (if 100≤cQ d∧cQ d≤65536 then cQ d else 3000),aE (if 100≤cF d∧cF d≤65536 then cF d else 15000),aE 100,aE 50,aB 10000000000,aB 0,bc false,aE 100000,aE 1000] rfl rfl (by rw[aG c];rfl) λw h=>⟨trivial,h.aI⟩)
    ·have c:=bY c;have h:=h.dQ (b:=n4) (L':=[aE (if 100≤cQ d∧cQ d≤65536 then cQ d else 3000),aE (if 100≤cF d∧cF d≤65536 then cF d else 15000),aE 100,aE 50,aB 10000000000,aB 0,bc false,aE 100000,aE 1000]) (by rw[ay c]);exact⟨trivial,h.aI⟩
   ·refine ah h rfl (ae (λc=>ah h rfl ⟨?_,h.aI⟩) λc=>⟨?_,h.aI⟩)
    ·have c:cF d≥100:=cC;show decide (cF d≤65536)=_;rw[xk];exact⟨λx=>⟨c,x⟩,λx=>x.2⟩
    ·have c:¬cF d≥100:=cC;exact(nO λx=>c x.1).symm
  rintro-w-h;refine aQ h (λ_:Unit=>af n1 (Ks.mk KC d)^af n2 zC^af n4 [aE (if 100≤cQ d∧cQ d≤65536 then cQ d else 3000),aE (if 100≤cF d∧cF d≤65536 then cF d else 15000),aE (if 1≤cL d∧cL d≤512 then cL d else 100),aE 50,aB 10000000000,aB 0,bc false,aE 100000,aE 1000]) (λ_=>True) ?_ ?_;rotate_left
  ·refine aQ h (λ_:Bool=>af n1 (Ks.mk KC d)^af n2 zC^af n4 [aE (if 100≤cQ d∧cQ d≤65536 then cQ d else 3000),aE (if 100≤cF d∧cF d≤65536 then cF d else 15000),aE 100,aE 50,aB 10000000000,aB 0,bc false,aE 100000,aE 1000]) (λy:Bool=>y=decide (1≤cL d∧cL d≤512)) (λy w hy h=>?_) ?_
   ·rw[hy];refine ae (λc=>?_) λc=>?_
    ·have c:=bV c;refine ah h rfl (aA h n4 [aE (if 100≤cQ d∧cQ d≤65536 then cQ d else 3000),aE (if 100≤cF d∧cF d≤65536 then cF d else 15000),aE (if 1≤cL d∧cL d≤512 then cL d else 100),aE 50,aB 10000000000,aB 0,bc false,aE 100000,aE 1000] rfl rfl (by rw[aG c];rfl) λw h=>⟨trivial,h.aI⟩)
    ·have c:=bY c;have h:=h.dQ (b:=n4) (L':=[aE (if 100≤cQ d∧cQ d≤65536 then cQ d else 3000),aE (if 100≤cF d∧cF d≤65536 then cF d else 15000),aE (if 1≤cL d∧cL d≤512 then cL d else 100),aE 50,aB 10000000000,aB 0,bc false,aE 100000,aE 1000]) (by rw[ay c]);exact⟨trivial,h.aI⟩
   ·refine ah h rfl (ae (λc=>ah h rfl ⟨?_,h.aI⟩) λc=>⟨?_,h.aI⟩)
    ·have c:cL d≥1:=cC;show decide (cL d≤512)=_;rw[xk];exact⟨λx=>⟨c,x⟩,λx=>x.2⟩
    ·have c:¬cL d≥1:=cC;exact(nO λx=>c x.1).symm
  rintro-w-h;refine aQ h (λ_:Unit=>af n1 (Ks.mk KC d)^af n2 zC^af n4 [aE (if 100≤cQ d∧cQ d≤65536 then cQ d else 3000),aE (if 100≤cF d∧cF d≤65536 then cF d else 15000),aE (if 1≤cL d∧cL d≤512 then cL d else 100),aE (if 1≤cW d∧cW d≤512 then cW d else 50),aB 10000000000,aB 0,bc false,aE 100000,aE 1000]) (λ_=>True) ?_ ?_;rotate_left
  ·refine aQ h (λ_:Bool=>af n1 (Ks.mk KC d)^af n2 zC^af n4 [aE (if 100≤cQ d∧cQ d≤65536 then cQ d else 3000),aE (if 100≤cF d∧cF d≤65536 then cF d else 15000),aE (if 1≤cL d∧cL d≤512 then cL d else 100),aE 50,aB 10000000000,aB 0,bc false,aE 100000,aE 1000]) (λy:Bool=>y=decide (1≤cW d∧cW d≤512)) (λy w hy h=>?_) ?_
   ·rw[hy];refine ae (λc=>?_) λc=>?_
    ·have c:=bV c;refine ah h rfl (aA h n4 [aE (if 100≤cQ d∧cQ d≤65536 then cQ d else 3000),aE (if 100≤cF d∧cF d≤65536 then cF d else 15000),aE (if 1≤cL d∧cL d≤512 then cL d else 100),aE (if 1≤cW d∧cW d≤512 then cW d else 50),aB 10000000000,aB 0,bc false,aE 100000,aE 1000] rfl rfl (by rw[aG c];rfl) λw h=>⟨trivial,h.aI⟩)
    ·have c:=bY c;have h:=h.dQ (b:=n4) (L':=[aE (if 100≤cQ d∧cQ d≤65536 then cQ d else 3000),aE (if 100≤cF d∧cF d≤65536 then cF d else 15000),aE (if 1≤cL d∧cL d≤512 then cL d else 100),aE (if 1≤cW d∧cW d≤512 then cW d else 50),aB 10000000000,aB 0,bc false,aE 100000,aE 1000]) (by rw[ay c]);exact⟨trivial,h.aI⟩
   ·refine ah h rfl (ae (λc=>ah h rfl ⟨?_,h.aI⟩) λc=>⟨?_,h.aI⟩)
    ·have c:cW d≥1:=cC;show decide (cW d≤512)=_;rw[xk];exact⟨λx=>⟨c,x⟩,λx=>x.2⟩
    ·have c:¬cW d≥1:=cC;exact(nO λx=>c x.1).symm
  rintro-w-h;refine aQ h (λ_:Unit=>af n1 (Ks.mk KC d)^af n2 zC^af n4 [aE (if 100≤cQ d∧cQ d≤65536 then cQ d else 3000),aE (if 100≤cF d∧cF d≤65536 then cF d else 15000),aE (if 1≤cL d∧cL d≤512 then cL d else 100),aE (if 1≤cW d∧cW d≤512 then cW d else 50),aB (if cH d≤4611686018427387904 then cH d else 10000000000),aB 0,bc false,aE 100000,aE 1000]) (λ_=>True) ?_ ?_;rotate_left
  ·refine ah h rfl (ae (λc=>?_) λc=>?_)
   ·have c:cH d≤4611686018427387904:=cC;refine ah h rfl (aA h n4 [aE (if 100≤cQ d∧cQ d≤65536 then cQ d else 3000),aE (if 100≤cF d∧cF d≤65536 then cF d else 15000),aE (if 1≤cL d∧cL d≤512 then cL d else 100),aE (if 1≤cW d∧cW d≤512 then cW d else 50),aB (if cH d≤4611686018427387904 then cH d else 10000000000),aB 0,bc false,aE 100000,aE 1000] rfl rfl (by rw[aG c];rfl) λw h=>⟨trivial,h.aI⟩)
   ·have c:¬cH d≤4611686018427387904:=cC;have h:=h.dQ (b:=n4) (L':=[aE (if 100≤cQ d∧cQ d≤65536 then cQ d else 3000),aE (if 100≤cF d∧cF d≤65536 then cF d else 15000),aE (if 1≤cL d∧cL d≤512 then cL d else 100),aE (if 1≤cW d∧cW d≤512 then cW d else 50),aB (if cH d≤4611686018427387904 then cH d else 10000000000),aB 0,bc false,aE 100000,aE 1000]) (by rw[ay c]);exact⟨trivial,h.aI⟩
  rintro-w-h;refine aQ h (λ_:Unit=>af n1 (Ks.mk KC d)^af n2 zC^af n4 [aE (if 100≤cQ d∧cQ d≤65536 then cQ d else 3000),aE (if 100≤cF d∧cF d≤65536 then cF d else 15000),aE (if 1≤cL d∧cL d≤512 then cL d else 100),aE (if 1≤cW d∧cW d≤512 then cW d else 50),aB (if cH d≤4611686018427387904 then cH d else 10000000000),aB 0,bc false,aE (if 1≤dZ d∧dZ d≤1073741824 then dZ d else 100000),aE 1000]) (λ_=>True) ?_ ?_;rotate_left
  ·refine aQ h (λ_:Bool=>af n1 (Ks.mk KC d)^af n2 zC^af n4 [aE (if 100≤cQ d∧cQ d≤65536 then cQ d else 3000),aE (if 100≤cF d∧cF d≤65536 then cF d else 15000),aE (if 1≤cL d∧cL d≤512 then cL d else 100),aE (if 1≤cW d∧cW d≤512 then cW d else 50),aB (if cH d≤4611686018427387904 then cH d else 10000000000),aB 0,bc false,aE 100000,aE 1000]) (λy:Bool=>y=decide (1≤dZ d∧dZ d≤1073741824)) (λy w hy h=>?_) ?_
   ·rw[hy];refine ae (λc=>?_) λc=>?_
    ·have c:=bV c;refine ah h rfl (aA h n4 [aE (if 100≤cQ d∧cQ d≤65536 then cQ d else 3000),aE (if 100≤cF d∧cF d≤65536 then cF d else 15000),aE (if 1≤cL d∧cL d≤512 then cL d else 100),aE (if 1≤cW d∧cW d≤512 then cW d else 50),aB (if cH d≤4611686018427387904 then cH d else 10000000000),aB 0,bc false,aE (if 1≤dZ d∧dZ d≤1073741824 then dZ d else 100000),aE 1000] rfl rfl (by rw[aG c];rfl) λw h=>⟨trivial,h.aI⟩)
    ·have c:=bY c;have h:=h.dQ (b:=n4) (L':=[aE (if 100≤cQ d∧cQ d≤65536 then cQ d else 3000),aE (if 100≤cF d∧cF d≤65536 then cF d else 15000),aE (if 1≤cL d∧cL d≤512 then cL d else 100),aE (if 1≤cW d∧cW d≤512 then cW d else 50),aB (if cH d≤4611686018427387904 then cH d else 10000000000),aB 0,bc false,aE (if 1≤dZ d∧dZ d≤1073741824 then dZ d else 100000),aE 1000]) (by rw[ay c]);exact⟨trivial,h.aI⟩
   ·refine ah h rfl (ae (λc=>ah h rfl ⟨?_,h.aI⟩) λc=>⟨?_,h.aI⟩)
    ·have c:dZ d≥1:=cC;show decide (dZ d≤1073741824)=_;rw[xk];exact⟨λx=>⟨c,x⟩,λx=>x.2⟩
    ·have c:¬dZ d≥1:=cC;exact(nO λx=>c x.1).symm
  rintro-w-h;refine aQ h (λ_:Unit=>af n1 (Ks.mk KC d)^af n2 zC^af n4 [aE (if 100≤cQ d∧cQ d≤65536 then cQ d else 3000),aE (if 100≤cF d∧cF d≤65536 then cF d else 15000),aE (if 1≤cL d∧cL d≤512 then cL d else 100),aE (if 1≤cW d∧cW d≤512 then cW d else 50),aB (if cH d≤4611686018427387904 then cH d else 10000000000),aB 0,bc false,aE (if 1≤dZ d∧dZ d≤1073741824 then dZ d else 100000),aE (if 100≤eU d∧eU d≤9000 then eU d else 1000)]) (λ_=>True) ?_ ?_;rotate_left
  ·refine aQ h (λ_:Bool=>af n1 (Ks.mk KC d)^af n2 zC^af n4 [aE (if 100≤cQ d∧cQ d≤65536 then cQ d else 3000),aE (if 100≤cF d∧cF d≤65536 then cF d else 15000),aE (if 1≤cL d∧cL d≤512 then cL d else 100),aE (if 1≤cW d∧cW d≤512 then cW d else 50),aB (if cH d≤4611686018427387904 then cH d else 10000000000),aB 0,bc false,aE (if 1≤dZ d∧dZ d≤1073741824 then dZ d else 100000),aE 1000]) (λy:Bool=>y=decide (100≤eU d∧eU d≤9000)) (λy w hy h=>?_) ?_
   ·rw[hy];refine ae (λc=>?_) λc=>?_
    ·have c:=bV c;refine ah h rfl (aA h n4 [aE (if 100≤cQ d∧cQ d≤65536 then cQ d else 3000),aE (if 100≤cF d∧cF d≤65536 then cF d else 15000),aE (if 1≤cL d∧cL d≤512 then cL d else 100),aE (if 1≤cW d∧cW d≤512 then cW d else 50),aB (if cH d≤4611686018427387904 then cH d else 10000000000),aB 0,bc false,aE (if 1≤dZ d∧dZ d≤1073741824 then dZ d else 100000),aE (if 100≤eU d∧eU d≤9000 then eU d else 1000)] rfl rfl (by rw[aG c];rfl) λw h=>⟨trivial,h.aI⟩)
    ·have c:=bY c;have h:=h.dQ (b:=n4) (L':=[aE (if 100≤cQ d∧cQ d≤65536 then cQ d else 3000),aE (if 100≤cF d∧cF d≤65536 then cF d else 15000),aE (if 1≤cL d∧cL d≤512 then cL d else 100),aE (if 1≤cW d∧cW d≤512 then cW d else 50),aB (if cH d≤4611686018427387904 then cH d else 10000000000),aB 0,bc false,aE (if 1≤dZ d∧dZ d≤1073741824 then dZ d else 100000),aE (if 100≤eU d∧eU d≤9000 then eU d else 1000)]) (by rw[ay c]);exact⟨trivial,h.aI⟩
   ·refine ah h rfl (ae (λc=>ah h rfl ⟨?_,h.aI⟩) λc=>⟨?_,h.aI⟩)
    ·have c:eU d≥100:=cC;show decide (eU d≤9000)=_;rw[xk];exact⟨λx=>⟨c,x⟩,λx=>x.2⟩
    ·have c:¬eU d≥100:=cC;exact(nO λx=>c x.1).symm
  rintro-w-h;refine aM h λw h=>ah h rfl (ah h rfl (aA h n4 [aE (if 100≤cQ d∧cQ d≤65536 then cQ d else 3000),aE (if 100≤cF d∧cF d≤65536 then cF d else 15000),aE (if 1≤cL d∧cL d≤512 then cL d else 100),aE (if 1≤cW d∧cW d≤512 then cW d else 50),aB (if cH d≤4611686018427387904 then cH d else 10000000000),aB (cR d),bc false,aE (if 1≤dZ d∧dZ d≤1073741824 then dZ d else 100000),aE (if 100≤eU d∧eU d≤9000 then eU d else 1000)] rfl rfl rfl λw h=>aN h rfl (aA h n4 [aE (if 100≤cQ d∧cQ d≤65536 then cQ d else 3000),aE (if 100≤cF d∧cF d≤65536 then cF d else 15000),aE (if 1≤cL d∧cL d≤512 then cL d else 100),aE (if 1≤cW d∧cW d≤512 then cW d else 50),aB (if cH d≤4611686018427387904 then cH d else 10000000000),aB (cR d),bc (cD d),aE (if 1≤dZ d∧dZ d≤1073741824 then dZ d else 100000),aE (if 100≤eU d∧eU d≤9000 then eU d else 1000)] rfl rfl rfl λw h=>?_)));refine aw (b:=n4) (x:=nS d) h rfl (az h (by rfl) λw h=>aw (b:=n2) (x:=nS d) h rfl ?_);exact au.aH rfl h.gm
theorem Gy(d):may (nS d)=true:=by
 unfold may nS;simp only[d_,iZ];refine⟨?_,?_,?_,?_,?_,?_,?_⟩<;>dsimp only[cQ,cF,cL,cW,cH,dZ,eU]<;>split<;>omega
theorem J_(h0:0≤cH d)(hr:U (cR d)):yo (nS d):=C8 (Gy d) (by unfold nS;dsimp only[cH];split<;>(try assumption);omega) hr
theorem Yy{n:Int}(h:(Lit.int .u64 n).wf=true):U n:=by
 have h:u64.min≤n∧n≤u64.max:=by simpa [Lit.wf]using h
 have e1:u64.min=0:=by decide
 have e2:u64.max=18446744073709551615:=by decide
 unfold U;omega
theorem Wa(h:∀k n,Lf.int k n∈Ks.mk KC d→(Lit.int k n).wf=true):0≤cH d∧U (cR d):=
 ⟨(Yy (h .u64 (cH d) (gI (i:=4) rfl))).1,Yy (h .u64 (cR d) (gI (i:=5) rfl))⟩
end F6

namespace LC
open bH bp fL _root_.Go.X.Tree iU kR lP ff lL lN Ej Cu xI Jx F6
def one(c:Cf)(i:Nat)(f:Fl)(lv:LV)(ks:List Key):Qm:=⟨c,kz (λ_=>none) i (some f),lv,ks,f.sg.length⟩
theorem MC{aj:Int}(h:∀k∈v.ks,¬k.1≤aj):pI v aj=v:=by
 have h1:v.ks.takeWhile (λk=>decide (k.1≤aj))=[]:=by
  cases e:v.ks with
  |nil=>rfl
  |cons k l=>rw[Ax,ay (by have:=h k (by rw[e];simp);simpa using this)]
 have h2:v.ks.dropWhile (λk=>decide (k.1≤aj))=v.ks:=by
  cases e:v.ks with
  |nil=>rfl
  |cons k l=>rw[Hg,ay (by have:=h k (by rw[e];simp);simpa using this)]
 show(⟨v.c,v.fl,(v.lv.1,v.lv.2++(iS v aj).map Prod.snd),v.ks.dropWhile _,v.n⟩:Qm)=v;unfold iS;rw[h1,h2];simp
def XS(aj:Int)(rates:List Int)(u:Qm):Option Sg×Qm:=lX aj rates (mu u+1) u
theorem VL(v)(aj:Int)(rates:List Int):jW v aj rates=XS aj rates (pI v aj):=rfl
end LC

namespace Lt
open bH bp fL _root_.Go.X.Tree iU kR lP ff lL lN Ej Cu xI Jx F6 LC
abbrev tD(n:Int):Sg:=(0,0,n,0,false)
abbrev l0:LV:=([((0:Nat):Int)],[])
theorem MB(hv:jv v){aj:Int}(hn:U aj){rates:List Int}(hr:∀x∈rates,U x):jv (jW v aj rates).2:=by
 rw[VL];unfold XS
 suffices ∀k u,jv u→jv (lX aj rates k u).2 from this _ _ (hv.due aj)
 intro k
 induction k with
 |zero=>intro u hu;exact hu
 |succ k ih=>
  intro u hu;cases hh:(cd u.lv).2.2 with
  |false=>rw[zt hh];exact hu
  |true=>
   have hmm:=lB hh;have hx:=hu.lv.2 _ hmm;obtain⟨i,hi⟩:∃i:Nat,(cd u.lv).1=(i:Int):=⟨(cd u.lv).1.toNat,by omega⟩;obtain⟨f,hf⟩:=hu.th i (by rw[hi]at hmm;exact hmm);have hA:yn u i f:=⟨hu,hi,hh,hf⟩;rw[zr hA];by_cases c:f.cr≤0
   ·rw[aG c];exact ih _ (hA.GA c)
   ·rw[ay c];cases hs:f.sg with
    |nil=>
     simp only;split
     ·exact ih _ hA.back
     ·rw[←hs];exact ih _ (hA.De hs hn)
    |cons s l=>
     simp only;split
     ·exact ih _ (hA.wait (by rw[hs];simp)).1
     ·have hF:=(hu.fl i f hf).2;exact hA.Yj hs (by omega) hn (oU (by have:=(hF.sg s (by rw[hs];simp)).2.ln;omega) (CA (CB hr i) hu.cf.r))
end Lt

namespace PL
open bH bp fL _root_.Go.X.Tree iU kR lP ff lL lN Ej Cu xI Jx F6 LC Lt
def Xr(u v:Qm):Prop:=∀i,(v.fl i).map (λf=>(f.nx,f.sg))=(u.fl i).map λf=>(f.nx,f.sg)
end PL

namespace SB
open bH bp fL _root_.Go.X.Tree iU kR lP ff lL lN Ej Cu xI Jx F6 LC Lt PL
abbrev KD:Ks:=[.int .i64,.int .u64,.int .i64,.int .u64,.int .i64,.int .u64,.bool,.sl,.int .i64,.int .i64,.int .i64,.int .i64,.int .u64,.int .u64,.bool,.int .i64,.int .i64,.bool]
abbrev DD:=Ks.T KD
abbrev dG(d:DD):Int:=d.2.1
abbrev dS(d:DD):Sg:=(d.2.2.1,d.2.2.2.1,d.2.2.2.2.1,d.2.2.2.2.2.1,d.2.2.2.2.2.2.1)
abbrev dR(d:DD):Sl:=d.2.2.2.2.2.2.2.1
abbrev dC(d:DD):Cf:=(d.2.2.2.2.2.2.2.2.1,d.2.2.2.2.2.2.2.2.2.1,d.2.2.2.2.2.2.2.2.2.2.1,d.2.2.2.2.2.2.2.2.2.2.2.1,d.2.2.2.2.2.2.2.2.2.2.2.2.1,d.2.2.2.2.2.2.2.2.2.2.2.2.2.1,d.2.2.2.2.2.2.2.2.2.2.2.2.2.2.1,d.2.2.2.2.2.2.2.2.2.2.2.2.2.2.2.1,d.2.2.2.2.2.2.2.2.2.2.2.2.2.2.2.2.1)
abbrev OpD:=DD×List Int
structure JD(p:OpD):Prop where
 g:U (dG p.1)
 s:U (R5 (dS p.1))∧U (ve (dS p.1))
 c:0≤cH (dC p.1)∧U (cR (dC p.1))
 r:∀y∈p.2,U y
theorem rT(g x l):bu (Gn g) (bg^aV g.2.2.2.2.2 KS (x::l)) (λr=>bs (r=if ve x>g.2.2.2.1 then ve x else g.2.2.2.1) bg):=
 bC λw0 S R h=>by
  refine aD h λn1 w h=>aM h λw h=>ah h rfl (ah h rfl ?_);refine bS (s:=g.2.2.2.2.2) h (by decide) (by simp) ?_;refine fj h g.2.2.2.2.2 0 3 x rfl rfl (by decide) rfl ?_;exact au.aH rfl h.gm
end SB

namespace FqT
open bH bp fL _root_.Go.X.Tree iU kR lP ff lL lN Ej Cu xI Jx F6 LC Lt PL SB
def gZ(g:Nat→List Int)(i:Nat)(x:List Int):Nat→List Int:=λj=>if j=i then x else g j
abbrev sL(s:Nat→Sl):List Lf:=[aY (s 0),aY (s 1),aY (s 2),aY (s 3),aY (s 4),aY (s 5),aY (s 6),aY (s 7)]
section
variable {w0 w:World} {S0 R0:Nat→Prop} {F G:SP}
end
end FqT

namespace fb
abbrev Pc:=Ks.T aF
def kT(b:Nat)(v:List Pc×Int):SP:=ex λs=>af b [aY s,aB v.2]^aS s aF v.1
abbrev PE:=Ks.T cw
def uP(f t:Int)(s:PE):Pc:=(f,t,s.1,s.2.1,s.2.2.1,s.2.2.2.1,s.2.2.2.2,false,false)
def ej(v:List Pc×Int)(f t:Int)(s:PE):Int×(List Pc×Int):=
 if f≠v.2∨t≤f then(1,v)else if 4096≤v.1.length then(5,v)else(0,(v.1++[uP f t s],t))
instance(b:Nat)(v:List Pc×Int):nl (kT b v):=by unfold kT;infer_instance
theorem _root_.Go.X.au.kT{v:List Pc×Int}(h:au w0 S0 R0 w F)(b)[t:ol fb.kT b F v G]:∃s,au w0 S0 R0 w (af b [aY s,aB v.2]^aS s aF v.1^G):=by
 obtain⟨s,h⟩:=(h.le t.le).lV;exact⟨s,h.le (bZ _ _ _)⟩
theorem _root_.Go.X.au.pf(h:au w0 S0 R0 w F)(b s l)(e:Int)[t:Take (af b [aY s,aB e]^aS s aF l) F G]:au w0 S0 R0 w (fb.kT b (l,e)^G):=
 (h.le t.le).tQ (f:=λs=>af b [aY s,aB e]^aS s aF l) s
theorem jD:bu TP bg (λr=>ex λb=>bs (r=some ⟨b,0⟩) (kT b ([],0))):=
 bC λw S R h=>by
  refine aD h λn1 w h=>?_;exact au.ie n1 (au.aH rfl ((h.nil aF).pf n1 ⟨none,0,0⟩ [] 0).br)
theorem sJ(b)(f t:Int)(s)(v:List Pc×Int):
  bu (EB (some ⟨b,0⟩) f t s) (kT b v)
   (λr=>bs (r=(ej v f t s).1) (kT b (ej v f t s).2)):=
 bC λw S R h=>by
  refine aD h λn1 w h=>?_;refine ae (by simp) λ_=>?_;obtain⟨sl,h⟩:=h.kT b;have hlen:=(h.rd (s:=sl)).2;refine ac (ah h rfl ?_);refine ae (λhc=>?_) λhc=>?_
  ·have e1:ej v f t s=(1,v):=(by simp at hc;simp[ej,hc]);rw[e1];exact au.aH rfl (h.pf b sl v.1 v.2).br
  ·refine ac (ah h rfl ?_);refine ae (λhc2=>?_) λhc2=>?_
   ·have e1:ej v f t s=(5,v):=by
     simp at hc hc2;rw[ej,ay (by omega),aG (by omega)]
    rw[e1];exact au.aH rfl (h.pf b sl v.1 v.2).br
   ·have e1:ej v f t s=(0,(v.1++[uP f t s],t)):=by
     simp at hc hc2;rw[ej,ay (by omega),ay (by omega)]
    rw[e1];refine aM h λw h=>?_;refine ah h rfl ?_;refine ac (ah h rfl ?_);refine aD h λn9 w h=>?_;refine aN h rfl ?_;have h:=h.co n9 aF [uP f t s] rfl (by simp);refine dF h rfl (by simp at hc2⊢;omega) λs10 w hl h=>?_;refine ac (bh h rfl λw h=>?_);dsimp only[dE,over]at h;refine ac (bh h rfl λw h=>?_);dsimp only[dE,over]at h;exact au.aH rfl (h.pf b s10 (v.1++[uP f t s]) t).br
theorem DP(s f C xs p)(hl:xs.length≤4294967296)(hf:∀x∈xs,vq Tryz.prog f [.agg (Ks.mk KR x)] [.lf .bool] C (λr=>bs (r=p x) C)):
  bu (Vs s f) (C^aV s KR xs) (λr=>bs (r=fI p xs) C):=
 bC λw S R h=>by
  have hsl:=(h.rd (s:=s)).2;refine cS (λ_=>C^aV s KR xs) (λ(y:Int)=>0≤y∧y.toNat≤xs.length∧∀j y',j<y.toNat→xs[j]?=some y'→p y'=false) (λ(y:Int)=>xs.length-y.toNat) h ⟨gQ 0,by simp,λj _ hj=>by simp at hj⟩ ?_;rintro(y:Int) w ⟨h0,h1,h2⟩ h;refine ae (λc=>?_) λc=>?_
  ·have hy:y.toNat<xs.length:=(by simp at c;omega);refine bS h h0 hy ?_;refine fj h s y.toNat 0 _ (bK hy) rfl (by decide) (Jl (ks:=KR)) ?_;refine mT (hf _ (qy hy)) h λr w h=>?_;obtain⟨hr,h⟩:=h.aP;have hw:i64.wrap (y+1)=y+1:=gi;refine ae (λc=>?_) λc=>?_
   ·refine au.aH ?_ h.aI;rw[ER (bK hy) (by rw[←hr];exact c) h2];exact(Ah h0).symm
   ·rw[hw];refine⟨⟨⟨(by show(0:Int)≤y+1;omega),(by show(y+1).toNat≤_;omega),λj y' hj hy'=>?_⟩,h⟩,(by show _-(y+1).toNat<_;omega)⟩;have hj:j<(y+1).toNat:=hj;by_cases hjy:j=y.toNat
    ·subst hjy;rw[bK hy]at hy';cases hy';rw[←hr];exact c
    ·exact h2 j y' (by omega) hy'
  ·refine au.aH ?_ h.aI;rw[vC];intro x hx;obtain⟨j,hj,rfl⟩:=Cd.1 hx;refine h2 j _ ?_ (bK hj);simp at c;omega
theorem rv(s f C xs p)(hl:xs.length≤4294967296)(hf:∀x∈xs,vq Tryz.prog f [.agg (Ks.mk KR x)] [.lf .bool] C (λr=>bs (r=p x) C)):
  bu (QC s f) (C^aV s KR xs) (λr=>bs (r=xs.any p) C):=
 bC λw S R h=>by
  refine aK (DP s f C xs p hl hf) h λw h=>?_;exact au.aH (MJ p xs) h.br
def vQ(n:Nat):Fv:=.mk (.func h_) [] [V1.enc (.lf (.ptr (some ⟨n,0⟩)))]
theorem jd(b):bu (QD (some ⟨b,0⟩)) bg (λf=>ex λn=>bs (f=vQ n) (af n [.ptr (some ⟨b,0⟩)])):=
 bC λw S R h=>by
  refine aD h λn1 w h=>?_;exact au.ie n1 (au.aH rfl h.br)
theorem lQ(n b)(v:List Pc×Int)(hl:v.1.length≤4294967296):Iter Tryz.prog (vQ n) (af n [.ptr (some ⟨b,0⟩)]^kT b v) [.agg aF] v.1:=by
 intro y I D hy;refine tT.g (f:=h_) (args:=[.lf (.fn y)]) (caps:=[.lf (.ptr (some ⟨n,0⟩))]) (bC (c:=Vz y ⟨n,0⟩) λw S R h=>?_);refine ah h rfl ?_;refine ae (λc=>(by cases c)) λc=>?_;refine ah h rfl ?_;obtain⟨s,h⟩:=h.kT b;have hs:=(h.rd (s:=s)).2;refine ac (ah h rfl ?_);have h:au _ _ _ _ (af b [aY s,aB v.2]^aS s aF v.1^af n [.ptr (some ⟨b,0⟩)]^I 0):=h.aI;refine cS (λ(y:Int)=>af b [aY s,aB v.2]^aS s aF v.1^af n [.ptr (some ⟨b,0⟩)]^I y.toNat) (λ(y:Int)=>0≤y∧y.toNat≤v.1.length) (λ(y:Int)=>v.1.length-y.toNat) h ⟨gQ 0,by simp⟩ ?_;rintro(i:Int) w ⟨h0,h1⟩ h;refine ae (λc=>?_) λc=>?_
 ·have hi:i.toNat<v.1.length:=by simp at c;omega
  refine bS h h0 hi ?_;refine dP h s i.toNat (bK hi) rfl ?_;refine aD h λn9 w h=>?_;refine az h (by rfl) λw h=>?_;refine aw h rfl ?_;refine mT (hy i.toNat _ (bK hi)) h λr w h=>?_;refine ae (λc=>?_) λc=>?_
  ·have hr:r=false:=cC;rw[hr]at h;have h:au _ _ _ _ (D^_):=h;have h:=(h.yr (I v.1.length)).pf b s v.1 v.2;exact h.aI
  ·have hr:r=true:=cC;rw[hr]at h;have h:au _ _ _ _ (I (i.toNat+1)^_):=h;rw[gi];have e:(i+1).toNat=i.toNat+1:=(by omega);refine⟨⟨⟨(by show(0:Int)≤i+1;omega),(by show(i+1).toNat≤_;omega)⟩,?_⟩,(by show _-(i+1).toNat<_;omega)⟩;show au _ _ _ _ (af b [aY s,aB v.2]^aS s aF v.1^af n [.ptr (some ⟨b,0⟩)]^I (i+1).toNat);rw[e];exact h.aI
 ·have hi:i.toNat=v.1.length:=by simp at c;omega
  rw[hi]at h;have h:=h.take (I v.1.length);have h:=(h.vz D).pf b s v.1 v.2;exact h.aI
abbrev iX(p:Pc):Int:=p.1
abbrev xU(p:Pc):Int:=p.2.1
abbrev yC(p:Pc):Bool:=p.2.2.2.2.2.2.2.1
abbrev jO(p:Pc):Bool:=p.2.2.2.2.2.2.2.2
def lG(p:Pc):Bool:=!yC p&&!jO p
theorem uE(p):bu (Mf p) bg (λr=>bs (r=lG p) bg):=
 bC λw S R h=>by
  refine aD h λn1 w h=>?_;refine ah h rfl ?_;refine ae (λc=>?_) λc=>?_
  ·refine ah h rfl ?_;refine au.aH ?_ h.aI;show(!jO p)=lG p;have c:(!yC p)=true:=c;simp[lG,c]
  ·refine au.aH ?_ h.aI;have c:(!yC p)=false:=c;simp[lG,c]
def uu(n:Int)(p:Pc):Int:=if lG p then u64.wrap (n+u64.wrap (xU p-iX p))else n
def dz(l:List Pc):Int:=l.foldl uu 0
theorem oZ{l:List Pc}{i:Nat}{x:Pc}(h:l[i]?=some x):dz (l.take (i+1))=uu (dz (l.take i)) x:=by rw[lC,h];simp[dz]
theorem GJ(b)(v:List Pc×Int)(hl:v.1.length≤4294967296):bu (UW (some ⟨b,0⟩)) (kT b v) (λr=>bs (r=dz v.1) (kT b v)):=
 Tl λw S R h=>by
  refine aD h λn1 w h=>?_;refine bh h rfl λw h=>?_;dsimp only[dE,over]at h;refine ar (jd b) (h.le (aJ _)) λf w h=>?_;obtain⟨n,h⟩:=h.lV;obtain⟨hf,h⟩:=h.aP;rw[hf];have h:=h.take (af n1 [aB 0]);have h:au _ _ _ _ (af n1 [aB (dz (v.1.take 0))]^_):=h;refine pw (lQ n b v hl) (λi=>af n1 [aB (dz (v.1.take i))]) (λ_=>bs False bg) h ?_ ?_ ?_
  ·intro i x hx w S R B7 next jump rdy bsy hmid hnext hjump h
   refine aD h λn7 w h=>?_;refine az h (by rfl) λw h=>?_;refine hmid h λw h=>?_;refine aw h rfl ?_;refine ar (uE x) h λr w h=>?_;obtain⟨hr,h⟩:=h.aP;refine ae (λc=>?_) λc=>?_
   ·refine ah h rfl ?_;refine ah h rfl ?_;refine ah h rfl ?_;refine bh h rfl λw h=>?_;dsimp only[dE,over]at h;have e:dz (v.1.take (i+1))=u64.wrap (dz (v.1.take i)+u64.wrap (xU x-iX x)):=by rw[oZ hx,uu,aG (by rw[←hr];exact c)]
    rw[←e]at h;exact hnext h
   ·have e:dz (v.1.take (i+1))=dz (v.1.take i):=(by rw[oZ hx,uu,ay (by rw[←hr,c];simp)]);rw[←e]at h;exact hnext h
  ·intro w h;have h:=h.take (af n1 [aB (dz (v.1.take v.1.length))]);refine ah h rfl ?_;refine aT h λw h=>?_;rw[sE];exact au.aH rfl h.aI
  ·intro j w hj h;exact(h.take (bs False bg)).aP.1.elim
def dM(e:Int)(r:Int×Int):Bool:=decide (r.2>e)||decide (r.1≥r.2)
theorem Nq(r:Int×Int)(n b)(v:List Pc×Int):bu (XK r ⟨n,0⟩) (af n [.ptr (some ⟨b,0⟩)]^kT b v) (λx=>bs (x=dM v.2 r) (af n [.ptr (some ⟨b,0⟩)]^kT b v)):=
 bC λw S R h=>by
  refine aD h λn1 w h=>?_;refine aM h λw h=>?_;refine ah h rfl ?_;refine ah h rfl ?_;obtain⟨s,h⟩:=h.kT b;refine ac (ah h rfl ?_);have h:=h.pf b s v.1 v.2;refine ae (λc=>?_) λc=>?_
  ·refine au.aH ?_ h.aI;simp at c;simp[dM,c]
  ·refine ah h rfl ?_;refine ah h rfl ?_;refine au.aH ?_ h.aI;simp at c;simp[dM];intro;omega
def uN(v:List Pc×Int)(upto:Int)(xs:List (Int×Int)):Bool:=decide (upto≤v.2)&&!xs.any (dM v.2)
theorem nV(b)(v:List Pc×Int)(upto:Int)(s xs)(hl:xs.length≤4294967296):
  bu (UN (some ⟨b,0⟩) upto s) (kT b v^aV s KR xs) (λx=>bs (x=uN v upto xs) (kT b v)):=
 bC λw S R h=>by
  refine aD h λn1 w h=>?_;refine ah h rfl ?_;obtain⟨s',h⟩:=h.kT b;refine ac (ah h rfl ?_);have h:=h.pf b s' v.1 v.2;refine ae (λc=>?_) λc=>?_
  ·refine ar (rv s _ (af n1 [.ptr (some ⟨b,0⟩)]^kT b v) xs (dM v.2) hl (λx _=>(tT.g (f:=mU) (args:=[.agg (Ks.mk KR x)]) (caps:=[.lf (.ptr (some ⟨n1,0⟩))]) (Nq x n1 b v)).v)) h λr w h=>?_;obtain⟨hr,h⟩:=h.aP;refine au.aH ?_ h.aI;simp at c;simp[uN,c,hr]
  ·refine au.aH ?_ h.aI;simp at c;simp[uN];intro;omega
def tX(p:Pc)(r:Int×Int):Bool:=decide (r.1≤p.1)&&decide (r.2≥p.2.1)
theorem GN(r:Int×Int)(n p):bu (XL r ⟨n,0⟩) (af n (Ks.mk aF p)) (λx=>bs (x=tX p r) (af n (Ks.mk aF p))):=
 bC λw S R h=>by
  refine aD h λn1 w h=>?_;refine ah h rfl ?_;refine ah h rfl ?_;refine ae (λc=>?_) λc=>?_
  ·refine ah h rfl ?_;refine ah h rfl ?_;refine au.aH ?_ h.aI;simp at c;simp[tX,c]
  ·refine au.aH ?_ h.aI;simp at c;simp[tX];intro;omega
theorem Kn(p s xs)(hl:xs.length≤4294967296):
  bu (UO s p) (bg^aV s KR xs) (λx=>bs (x=xs.any (tX p)) bg):=
 bC λw S R h=>by
  refine aD h λn1 w h=>?_;refine ar (rv s _ (af n1 (Ks.mk aF p)) xs (tX p) hl (λx _=>(tT.g (f:=pR) (args:=[.agg (Ks.mk KR x)]) (caps:=[.lf (.ptr (some ⟨n1,0⟩))]) (GN x n1 p)).v)) h λr w h=>?_;obtain⟨hr,h⟩:=h.aP;exact au.aH hr h.aI
def iA(p:Pc)(x:Bool):Pc:=(p.1,p.2.1,p.2.2.1,p.2.2.2.1,p.2.2.2.2.1,p.2.2.2.2.2.1,p.2.2.2.2.2.2.1,p.2.2.2.2.2.2.2.1,x)
def yT(p:Pc)(a:Int):Int:=if yC p then i64.wrap (a+1)else a
def w7(p:Pc)(a:Int):Bool:=lG p&&decide (yT p a≥3)
def cI:List Pc→List Pc×Int×Int
 |[]=>([],0,0)
 |p::l=>let r:=cI l
  (if w7 p r.2.2 then iA p true::r.1 else p::r.1,if w7 p r.2.2 then u64.wrap (r.2.1+u64.wrap (p.2.1-p.1))else r.2.1,yT p r.2.2)
theorem Fo:∀l:List Pc,(cI l).1.length=l.length
 |[]=>rfl
 |p::l=>by simp only[cI];split<;>simp[Fo l]
theorem G3(b)(v:List Pc×Int)(hl:v.1.length≤4294967296):
  bu (UP (some ⟨b,0⟩)) (kT b v) (λx=>bs (x=(cI v.1).2.1) (kT b ((cI v.1).1,v.2))):=
 bC λw S R h=>by
  obtain⟨s,h⟩:=(h.le (aJ _)).kT b;have hs:=(h.rd (s:=s)).2;refine ac (ah h rfl ?_);rw[wi (n:=((s.len:Nat):Int)-1) (by omega) (by omega)];have e0:v.1.take (((s.len:Nat):Int)-1+1).toNat++(cI (v.1.drop (((s.len:Nat):Int)-1+1).toNat)).1=v.1:=by
   have e:(((s.len:Nat):Int)-1+1).toNat=v.1.length:=(by omega);rw[e];simp[cI]
  have e1:cI (v.1.drop (((s.len:Nat):Int)-1+1).toNat)=([],0,0):=by
   have e:(((s.len:Nat):Int)-1+1).toNat=v.1.length:=(by omega);rw[e];simp[cI]
  have h:=h.take (af b [aY s,aB v.2]^aS s aF v.1);have h:=h.br;refine cS (λ(y:Int×Int×Int)=>af b [aY s,aB v.2]^aS s aF (v.1.take (y.2.2+1).toNat++(cI (v.1.drop (y.2.2+1).toNat)).1))
   (λ(y:Int×Int×Int)=>(-1≤y.2.2∧y.2.2<v.1.length)∧y.1=(cI (v.1.drop (y.2.2+1).toNat)).2.1∧y.2.1=(cI (v.1.drop (y.2.2+1).toNat)).2.2) (λ(y:Int×Int×Int)=>(y.2.2+1).toNat) (by rw[e0];exact h) ⟨⟨by show(-1:Int)≤_-1;omega,by show((s.len:Nat):Int)-1<_;omega⟩,by rw[e1],by rw[e1]⟩ ?_
  rintro(⟨bo,above,i⟩:Int×Int×Int) w ⟨⟨h0,h1⟩,h2,h3⟩ h;dsimp only at h0 h1 h2 h3 h⊢;refine ae (λc=>?_) λc=>?_
  ·have c:0≤i:=cC;obtain⟨k,hk⟩:∃k:Nat,i=k:=⟨i.toNat,by omega⟩;have hk1:(i+1).toNat=k+1:=(by omega);have hk0:i.toNat=k:=(by omega);have hkl:k<v.1.length:=(by omega);rw[hk1]at h2 h3 h;obtain⟨p,hp⟩:∃p,v.1[k]?=some p:=⟨_,bK hkl⟩;have hd:=qI hp;obtain⟨xs,hxs⟩:∃xs,xs=v.1.take (k+1)++(cI (v.1.drop (k+1))).1:=⟨_,rfl⟩;have hxk:xs[i.toNat]?=some p:=(by rw[hk0,hxs,pn (by rw[fO];omega),po,aG (by omega),hp]);have hxl:i.toNat<xs.length:=(iy.1 hxk).1;rw[←hxs]at h;have hpass:cI (v.1.drop k)=(if w7 p above then iA p true::(cI (v.1.drop (k+1))).1 else p::(cI (v.1.drop (k+1))).1,if w7 p above then u64.wrap (bo+u64.wrap (p.2.1-p.1))else bo,yT p above):=(by rw[hd,cI,h2,h3]);refine ac (ah h rfl ?_);refine bS h c hxl ?_;refine aQ h (λ_=>af b [aY s,aB v.2]^aS s aF xs) (λ(y:Int)=>y=yT p above) (λ(y:Int) w hy h=>?_) ?_
   ·refine ac (dP h s i.toNat hxk rfl ?_);refine ar (uE p) h λr w h=>?_;obtain⟨hr,h⟩:=h.aP;have hw:i64.wrap (i-1)=i-1:=gi;have hhit:(r&&decide (y≥3))=w7 p above:=by rw[hr,hy];rfl
    have hk2:(i-1+1).toNat=k:=(by omega);have ht:v.1.take (k+1)=v.1.take k++[p]:=(by rw[lC,hp];rfl);have hlt:(v.1.take k).length=k:=(by rw[fO];omega);refine ae (λc2=>?_) λc2=>?_
    ·rw[hhit]at c2;rw[c2]at hpass;simp only[iz]at hpass;refine ac (mG h s i.toNat 8 p (iA p true) hxk rfl (by decide) (by simp) rfl λw h=>?_);have hset:xs.set i.toNat (iA p true)=v.1.take k++(cI (v.1.drop k)).1:=by
      rw[hpass,hxs,hk0,ht,jF,Hd _ _ (by omega),hlt];simp
     have hx2:(xs.set i.toNat (iA p true))[i.toNat]?=some (iA p true):=(by rw[sD hxl]);refine aM h λw h=>?_;refine ac (ac ?_);refine fj h s i.toNat 1 _ hx2 rfl (by decide) rfl ?_;refine fj h s i.toNat 0 _ hx2 rfl (by decide) rfl ?_;rw[hw];refine⟨⟨⟨⟨by show(-1:Int)≤i-1;omega,by show i-1<_;omega⟩,?_,?_⟩,?_⟩,by show(i-1+1).toNat<(i+1).toNat;omega⟩
     ·show _=(cI (v.1.drop (i-1+1).toNat)).2.1;rw[hk2,hpass];rfl
     ·show y=(cI (v.1.drop (i-1+1).toNat)).2.2;rw[hk2,hpass];exact hy
     ·show au _ _ _ _ (af b [aY s,aB v.2]^aS s aF (v.1.take (i-1+1).toNat++(cI (v.1.drop (i-1+1).toNat)).1));rw[hk2,←hset];exact h.aI
    ·rw[hhit]at c2;rw[c2]at hpass;simp only[jo,jp]at hpass;rw[hw];have hsame:xs=v.1.take k++(cI (v.1.drop k)).1:=by rw[hpass,hxs,ht];simp
     refine⟨⟨⟨⟨by show(-1:Int)≤i-1;omega,by show i-1<_;omega⟩,?_,?_⟩,?_⟩,by show(i-1+1).toNat<(i+1).toNat;omega⟩
     ·show _=(cI (v.1.drop (i-1+1).toNat)).2.1;rw[hk2,hpass]
     ·show y=(cI (v.1.drop (i-1+1).toNat)).2.2;rw[hk2,hpass];exact hy
     ·show au _ _ _ _ (af b [aY s,aB v.2]^aS s aF (v.1.take (i-1+1).toNat++(cI (v.1.drop (i-1+1).toNat)).1));rw[hk2,←hsame];exact h.aI
   ·refine ac (fj h s i.toNat 7 p hxk rfl (by decide) rfl ?_);refine ae (λc2=>?_) λc2=>?_
    ·exact⟨by have c2:yC p=true:=c2;simp[yT,c2],h⟩
    ·exact⟨by have c2:yC p=false:=c2;simp[yT,c2],h⟩
  ·have c:i=-1:=(by simp at c;omega);rw[c]at h2 h3 h;simp only[show((-1:Int)+1).toNat=0 from rfl,v8,DF,pr]at h2 h;refine au.aH h2 ?_;exact(h.pf b s (cI v.1).1 v.2).aI
def ya(p:Pc):Pc:=(p.1,p.2.1,p.2.2.1,p.2.2.2.1,p.2.2.2.2.1,p.2.2.2.2.2.1,p.2.2.2.2.2.2.1,true,false)
def sN(upto:Int)(xs:List (Int×Int))(p:Pc):Bool:=!yC p&&(decide (p.2.1≤upto)||xs.any (tX p))
def pe(upto:Int)(xs:List (Int×Int))(p:Pc):Pc:=if sN upto xs p then ya p else p
def fQ(upto:Int)(xs:List (Int×Int))(l:List Pc):List Pc:=l.filter (sN upto xs)
def eR(upto:Int)(xs:List (Int×Int))(l:List Pc):List Pc:=(l.filter (λp=>!decide (p.2.1≤upto))).map (pe upto xs)
theorem AY{upto:Int}{xs:List (Int×Int)}{l:List Pc}{k:Nat}{p:Pc}(h:l[k]?=some p):fQ upto xs (l.take (k+1))=fQ upto xs (l.take k)++(if sN upto xs p then [p]else []):=by
 rw[lC,h,fQ,Du,fQ];congr 1;simp[Am]
theorem AK{upto:Int}{xs:List (Int×Int)}{l:List Pc}{k:Nat}{p:Pc}(h:l[k]?=some p):eR upto xs (l.take (k+1))=eR upto xs (l.take k)++(if p.2.1≤upto then []else [pe upto xs p]):=by
 rw[lC,h,eR,Du,me,eR];congr 1;by_cases hc:p.2.1≤upto<;>simp[hc]
theorem Cp(upto:Int)(xs:List (Int×Int))(l:List Pc)(k:Nat):(fQ upto xs (l.take k)).length≤k:=kW (Ac _ _) (by rw[fO];omega)
theorem qA(upto:Int)(xs:List (Int×Int))(l:List Pc)(k:Nat):(eR upto xs (l.take k)).length≤k:=by rw[eR,fz];exact kW (Ac _ _) (by rw[fO];omega)
theorem Er(b)(v:List Pc×Int)(upto:Int)(s xs)(hx:xs.length≤4294967296)(hm:uN v upto xs=false):
  bu (Qh (some ⟨b,0⟩) upto s) (kT b v^aV s KR xs) (λr=>bs (r.1=⟨none,0,0⟩∧r.2.1=0∧r.2.2=11) (kT b v)):=
 bC λw S R h=>by
  refine ae (λc=>(by cases c)) λc=>?_;refine bP (nV b v upto s xs hx) h λr w h=>?_;obtain⟨hr,h⟩:=h.aP;refine ae (λc=>?_) λc=>?_
  ·exact au.aH ⟨rfl,rfl,rfl⟩ h.aI
  ·rw[hr,hm]at c;cases c
theorem PR(b)(v:List Pc×Int)(upto:Int)(a xs)(hl:v.1.length≤4294967295)(hx:xs.length≤4294967296)(hm:uN v upto xs=true):
  bu (Qh (some ⟨b,0⟩) upto a) (kT b v^aV a KR xs)
   (λr=>bs (r.2.1=(cI (eR upto xs v.1)).2.1∧r.2.2=0) (aS r.1 aF (fQ upto xs v.1)^kT b ((cI (eR upto xs v.1)).1,v.2))):=
 bC λw S R h=>by
  refine ae (λc=>(by cases c)) λc=>?_;refine bP (Q:=aV a KR xs) (nV b v upto a xs hx) h λr w h=>?_;obtain⟨hr,h⟩:=h.aP;refine ae (λc=>by rw[hr,hm]at c;cases c) λc=>?_;obtain⟨s,h⟩:=h.kT b;have hs:=(h.rd (s:=s)).2;refine ac (ah h rfl ?_);have h:=(h.nil aF);have h:=(h.nil aF);have h:=(h.take (af b [aY s,aB v.2]^aS s aF v.1^aS ⟨none,0,0⟩ aF []^aS ⟨none,0,0⟩ aF []^aV a KR xs)).br;refine cS (λ(y:Sl×Sl×Int)=>af b [aY s,aB v.2]^aS s aF v.1^aS y.1 aF (fQ upto xs (v.1.take y.2.2.toNat))^aS y.2.1 aF (eR upto xs (v.1.take y.2.2.toNat))^aV a KR xs)
   (λ(y:Sl×Sl×Int)=>0≤y.2.2∧y.2.2.toNat≤v.1.length) (λ(y:Sl×Sl×Int)=>v.1.length-y.2.2.toNat) h ⟨gQ 0,gJ _⟩ ?_
  rintro(⟨ts,rs,i⟩:Sl×Sl×Int) w ⟨h0,h1⟩ h;dsimp only at h0 h1 h⊢;refine ae (λc=>?_) λc=>?_
  ·have hi:i.toNat<v.1.length:=(by simp at c;omega);obtain⟨p,hp⟩:∃p,v.1[i.toNat]?=some p:=⟨_,bK hi⟩;have ht:=AY (upto:=upto) (xs:=xs) hp;have hrt:=AK (upto:=upto) (xs:=xs) hp;have hw:i64.wrap (i+1)=i+1:=gi;have hi1:(i+1).toNat=i.toNat+1:=(by omega);refine bS h h0 hi ?_;refine dP h s i.toNat hp rfl ?_;refine aD h λn8 w h=>?_;refine az h (by rfl) λw h=>?_;refine ah h rfl ?_;refine aQ h (λ(y:Sl)=>af n8 (Ks.mk aF (pe upto xs p))^af b [aY s,aB v.2]^aS s aF v.1^aS y aF (fQ upto xs (v.1.take (i.toNat+1)))^aS rs aF (eR upto xs (v.1.take i.toNat))^aV a KR xs) (λ_=>True) (λ(y:Sl) w _ h=>?_) ?_
   ·refine ae (λc2=>?_) λc2=>?_
    ·have c2:p.2.1≤upto:=gK;rw[hw];rw[aG c2,rn]at hrt;refine⟨⟨⟨by show(0:Int)≤i+1;omega,by show(i+1).toNat≤_;omega⟩,?_⟩,by show _-(i+1).toNat<_;omega⟩;show au _ _ _ _ (af b [aY s,aB v.2]^aS s aF v.1^aS y aF (fQ upto xs (v.1.take (i+1).toNat))^aS rs aF (eR upto xs (v.1.take (i+1).toNat))^aV a KR xs);rw[hi1,hrt];exact h.aI
    ·have c2:¬p.2.1≤upto:=gK;rw[ay c2]at hrt;refine aw h rfl ?_;refine aD h λn21 w h=>?_;have h:=h.co n21 aF [pe upto xs p] rfl (by simp);have hlr:=qA upto xs v.1 i.toNat;refine dF (K:=aF) h rfl (by simp;omega) λs22 w hl2 h=>?_;rw[hw];refine⟨⟨⟨by show(0:Int)≤i+1;omega,by show(i+1).toNat≤_;omega⟩,?_⟩,by show _-(i+1).toNat<_;omega⟩;show au _ _ _ _ (af b [aY s,aB v.2]^aS s aF v.1^aS y aF (fQ upto xs (v.1.take (i+1).toNat))^aS s22 aF (eR upto xs (v.1.take (i+1).toNat))^aV a KR xs);rw[hi1,hrt];exact h.aI
   ·refine aQ h (λ_=>af n8 (Ks.mk aF p)^af b [aY s,aB v.2]^aS s aF v.1^aS ts aF (fQ upto xs (v.1.take i.toNat))^aS rs aF (eR upto xs (v.1.take i.toNat))^aV a KR xs) (λ(y:Bool)=>y=sN upto xs p) (λ(y:Bool) w hy h=>?_) ?_
    ·refine ae (λc2=>?_) λc2=>?_
     ·rw[c2]at hy;rw[←hy,aG rfl]at ht;have hmk:pe upto xs p=ya p:=by rw[pe,←hy];rfl
      refine aw h rfl ?_;refine aD h λn18 w h=>?_;have h:=h.co n18 aF [p] rfl (by simp);have hlr:=Cp upto xs v.1 i.toNat;refine dF (K:=aF) h rfl (by simp;omega) λs19 w hl2 h=>?_;refine bh h rfl λw h=>?_;refine bh h rfl λw h=>?_;refine⟨trivial,?_⟩;rw[ht,hmk];have h:au _ _ _ _ (af n8 (Ks.mk aF (ya p))^_):=h;exact h.aI
     ·rw[c2]at hy;rw[←hy]at ht;have hmk:pe upto xs p=p:=by rw[pe,←hy];rfl
      refine⟨trivial,?_⟩;rw[ht,hmk];simp only[jo,jp,rn];exact h.aI
    ·refine ah h rfl ?_;refine ae (λc2=>?_) λc2=>?_
     ·have c2:(!yC p)=true:=c2;refine ae (λc3=>?_) λc3=>?_
      ·exact⟨by have c3:decide (p.2.1≤upto)=true:=c3;simp[sN,c2,c3],h.aI⟩
      ·refine aw h rfl ?_;refine bP (A:=bg) (Q:=aV a KR xs) (Kn p a xs hx) h λr w h=>?_;obtain⟨hr2,h⟩:=h.aP;exact⟨by have c3:decide (p.2.1≤upto)=false:=c3;rw[hr2,sN,c2,c3];simp,h.aI⟩
     ·exact⟨by have c2:(!yC p)=false:=c2;simp[sN,c2],h.aI⟩
  ·have hi:i.toNat=v.1.length:=(by simp at c;omega);rw[hi,sE]at h;refine ac (bh h rfl λw h=>?_);dsimp only[dE,over]at h;have h:=h.pf b rs (eR upto xs v.1) v.2;have hrl:(eR upto xs v.1).length≤4294967296:=by
    have:=qA upto xs v.1 v.1.length;rw[sE]at this;omega
   refine ar (G3 b (eR upto xs v.1,v.2) hrl) h λr w h=>?_;obtain⟨hr2,h⟩:=h.aP;exact au.aH ⟨hr2,rfl⟩ h.aI
abbrev s0:PE:=(0,0,0,0,false)
def pK(z:Int)(k:Nat):Pc:=uP ((k:Int)*z) (((k:Int)+1)*z) ((k:Int),0,0,0,false)
def c1(z y:Int):List (Int×Int):=[(z+1,2*z+y),(2*z+1,3*z)]
def c2(z y:Int):List (Int×Int):=[(z,2*z+y)]
abbrev q1(z:Int):Pc:=ya (pK z 1)
def fo(p:Pc):Pc:=if lG p then iA p true else p
theorem Nk(b)(v:List Pc×Int)(hl:v.1.length≤4294967296):bu (Uj (some ⟨b,0⟩)) (kT b v) (λr=>bs (r=dz v.1) (kT b (v.1.map fo,v.2))):=
 bC λw S R h=>by
  refine ae (λc=>(by cases c)) λc=>?_;obtain⟨s,h⟩:=h.kT b;have hs:=(h.rd (s:=s)).2;refine ac (ah h rfl ?_);have h:=(h.take (af b [aY s,aB v.2]^aS s aF v.1)).br;refine cS (λ(y:Int×Int)=>af b [aY s,aB v.2]^aS s aF ((v.1.take y.2.toNat).map fo++v.1.drop y.2.toNat)) (λ(y:Int×Int)=>(0≤y.2∧y.2.toNat≤v.1.length)∧y.1=dz (v.1.take y.2.toNat)) (λ(y:Int×Int)=>v.1.length-y.2.toNat) h ⟨⟨gQ 0,gJ _⟩,rfl⟩ ?_;rintro(⟨t,i⟩:Int×Int) w ⟨⟨h0,h1⟩,h2⟩ h;dsimp only at h0 h1 h2 h⊢;obtain⟨xs,hxs⟩:∃xs,xs=(v.1.take i.toNat).map fo++v.1.drop i.toNat:=⟨_,rfl⟩;rw[←hxs]at h;have hxl:xs.length=v.1.length:=by rw[hxs];simp;omega
  refine ae (λc=>?_) λc=>?_
  ·have hi:i.toNat<v.1.length:=(by simp at c;omega);obtain⟨p,hp⟩:∃p,v.1[i.toNat]?=some p:=⟨_,bK hi⟩;have hml:((v.1.take i.toNat).map fo).length=i.toNat:=(by simp;omega);have hxp:xs[i.toNat]?=some p:=(by rw[hxs,t_ (by omega),hml,qI hp];simp);have hw:i64.wrap (i+1)=i+1:=gi;have hi1:(i+1).toNat=i.toNat+1:=(by omega);have hset:(v.1.take (i.toNat+1)).map fo++v.1.drop (i.toNat+1)=xs.set i.toNat (fo p):=(by rw[hxs,Hd _ _ (by omega),hml,qI hp,lC,hp];simp);have hft:=oZ hp;refine bS h h0 (by omega) ?_;refine dP h s i.toNat hxp rfl ?_;refine aD h λn7 w h=>?_;refine az h (by rfl) λw h=>?_;refine aw h rfl ?_;refine ar (uE p) h λr w h=>?_;obtain⟨hr,h⟩:=h.aP;refine ae (λc2=>?_) λc2=>?_
   ·have hf:lG p=true:=(by rw[←hr];exact c2);refine ac (ah h rfl ?_);refine bS h h0 (by omega) ?_;refine mG h s i.toNat 8 p (iA p true) hxp rfl (by decide) (by simp) rfl λw h=>?_;refine ah h rfl ?_;refine ah h rfl ?_;rw[hw];have hlp:fo p=iA p true:=(by rw[fo,aG hf]);refine⟨⟨⟨⟨by show(0:Int)≤i+1;omega,by show(i+1).toNat≤_;omega⟩,?_⟩,?_⟩,by show _-(i+1).toNat<_;omega⟩
    ·show _=dz (v.1.take (i+1).toNat);rw[hi1,hft,uu,aG hf,h2]
    ·show au _ _ _ _ (af b [aY s,aB v.2]^aS s aF ((v.1.take (i+1).toNat).map fo++v.1.drop (i+1).toNat));rw[hi1,hset,hlp];exact h.aI
   ·have hf:lG p=false:=(by rw[←hr];exact c2);rw[hw];have hlp:fo p=p:=(by rw[fo,ay (by rw[hf];simp)]);refine⟨⟨⟨⟨by show(0:Int)≤i+1;omega,by show(i+1).toNat≤_;omega⟩,?_⟩,?_⟩,by show _-(i+1).toNat<_;omega⟩
    ·show t=dz (v.1.take (i+1).toNat);rw[hi1,hft,uu,ay (by rw[hf];simp),h2]
    ·show au _ _ _ _ (af b [aY s,aB v.2]^aS s aF ((v.1.take (i+1).toNat).map fo++v.1.drop (i+1).toNat));have hself:xs.set i.toNat p=xs:=by
      obtain⟨hl2,he⟩:=iy.1 hxp;rw[←he];exact List.set_getElem_self hl2
     rw[hi1,hset,hlp,hself];exact h.aI
  ·have hi:i.toNat=v.1.length:=(by simp at c;omega);rw[hi]at h2 hxs;simp at hxs h2;rw[hxs]at h;exact au.aH h2 (h.pf b s (v.1.map fo) v.2).aI
theorem Nl(b)(v:List Pc×Int)(hl:v.1.length≤4294967296):bu (Mg (some ⟨b,0⟩)) (kT b v) (λr=>bs (r=fI jO v.1) (kT b v)):=
 Tl λw S R h=>by
  refine aD h λn1 w h=>?_;refine aD h λn2 w h=>?_;refine bh h rfl λw h=>?_;dsimp only[dE,over]at h;refine ar (jd b) (h.le (aJ _)) λf w h=>?_;obtain⟨n,h⟩:=h.lV;obtain⟨hf,h⟩:=h.aP;rw[hf];have h:=(h.take (af n1 [aE 0]^af n2 [aE ((0:Nat):Int)])).i_ (p:=∀j y,j<0→v.1[j]?=some y→jO y=false) (λj y hj=>by omega);refine pw (lQ n b v hl) (λi=>bs (∀j y,j<i→v.1[j]?=some y→jO y=false) (af n1 [aE 0]^af n2 [aE (i:Int)])) (λj=>bs (j=1) (af n1 [aE (fI jO v.1)])) h ?_ ?_ ?_
  ·intro i x hx w S R B7 next jump rdy bsy hmid hnext hjump h
   have hi:i<v.1.length:=(iy.1 hx).1;refine aD h λn8 w h=>?_;refine az h (by rfl) λw h=>?_;refine hmid h λw h=>?_;have h:=h.take (bs (∀j y,j<i→v.1[j]?=some y→jO y=false) (af n1 [aE 0]^af n2 [aE (i:Int)]));obtain⟨hno,h⟩:=h.aP;refine ah h rfl ?_;refine ae (λc=>?_) λc=>?_
   ·refine ah h rfl ?_;refine bh h rfl λw h=>?_;dsimp only[dE,over]at h;have e:fI jO v.1=(i:Int):=ER hx c hno;rw[←e]at h;have h:=(h.take (af n1 [aE (fI jO v.1)])).i_ (p:=1=1) rfl;exact hjump 1 (by decide) h
   ·refine ah h rfl ?_;refine bh h rfl λw h=>?_;dsimp only[dE,over]at h;rw[gi]at h;have h:au _ _ _ _ (af n2 [aE ((i+1:Nat):Int)]^_):=h;have h:=(h.take (af n1 [aE 0]^af n2 [aE ((i+1:Nat):Int)])).i_ (p:=∀j y,j<i+1→v.1[j]?=some y→jO y=false) (λj y hj hy=>by
     by_cases hji:j=i
     ·rw[hji,hx]at hy;cases hy;exact c
     ·exact hno j y (by omega) hy)
    exact hnext h
  ·intro w h;have h:=h.take (bs (∀j y,j<v.1.length→v.1[j]?=some y→jO y=false) (af n1 [aE 0]^af n2 [aE (v.1.length:Int)]));obtain⟨hno,h⟩:=h.aP;refine bh h rfl λw h=>?_;dsimp only[dE,over]at h;refine ah h rfl ?_;refine aT h λw h=>?_;refine au.aH ?_ h.aI;rw[vC];intro y hy;obtain⟨j,hj,rfl⟩:=Cd.1 hy;exact hno j _ hj (bK hj)
  ·intro j w hj h;have h:=h.take (bs (j=1) (af n1 [aE (fI jO v.1)]));obtain⟨hj1,h⟩:=h.aP;rw[hj1];refine ah h rfl ?_;refine aT h λw h=>?_;exact au.aH rfl h.aI
theorem sY(h:0≤fI p xs):∃x,xs[(fI p xs).toNat]?=some x∧p x=true∧(fI p xs).toNat<xs.length∧((fI p xs).toNat:Int)=fI p xs:=by
 unfold fI at h⊢;cases hf:xs.findIdx? p with
 |none=>rw[hf]at h;simp at h
 |some i=>
  obtain⟨hl,hp,_⟩:=FA.1 hf;exact⟨xs[i],by simp[hl],hp,by simpa using hl,by simp⟩
def bE(l:List Pc):(Int×Int)×Bool:=match l[(fI jO l).toNat]? with
 |some p=>if fI jO l<0 then((0,0),false)else((p.1,p.2.1),true)
 |none=>((0,0),false)
theorem su(h:fI jO l<0):bE l=((0,0),false):=by
 unfold bE;split
 ·rw[aG h]
 ·rfl
theorem ti(h:0≤fI jO l)(hp:l[(fI jO l).toNat]?=some p):bE l=((p.1,p.2.1),true):=by
 unfold bE;rw[hp];simp only;rw[ay (by omega)]
theorem Em(b)(v:List Pc×Int)(hl:v.1.length≤4294967296):bu (Qs (some ⟨b,0⟩)) (kT b v) (λr=>bs (r=bE v.1) (kT b v)):=
 bC λw S R h=>by
  refine aD h λn1 w h=>?_;refine aK (Nl b v hl) h λw h=>?_;refine ae (λc=>?_) λc=>?_
  ·refine bh h rfl λw h=>?_;dsimp only[dE,over]at h;refine aw (x:=(0,0)) h rfl ?_;exact au.aH (su cC).symm h.aI
  ·have c:0≤fI jO v.1:=cC;obtain⟨p,hp,hpl,hlt,_⟩:=sY c;refine aM h λw h=>?_;obtain⟨s,h⟩:=h.kT b;refine ac (ac (ah h rfl (ah h rfl ?_)));refine bS h c hlt ?_;refine bS h c hlt ?_;refine fj h s _ 0 p hp rfl (by decide) rfl ?_;refine fj h s _ 1 p hp rfl (by decide) rfl ?_;refine bh h rfl λw h=>?_;dsimp only[dE,over]at h;refine aw (x:=(p.1,p.2.1)) h rfl ?_;exact au.aH (ti c hp).symm (h.pf b s v.1 v.2).aI
theorem JL(n b:Nat)(s:Sl)(v:List Pc×Int)(hl:v.1.length≤4294967296):Iter Tryz.prog (vQ n) (af n [.ptr (some ⟨b,0⟩)]^af b [aY s,aB v.2]^aS s aF v.1) [.agg aF] v.1:=by
 intro y I D hy;refine tT.g (f:=h_) (args:=[.lf (.fn y)]) (caps:=[.lf (.ptr (some ⟨n,0⟩))]) (bC (c:=Vz y ⟨n,0⟩) λw S R h=>?_);refine ah h rfl ?_;refine ae (λc=>(by cases c)) λc=>?_;refine ah h rfl ?_;have hs:=(h.rd (s:=s)).2;refine ac (ah h rfl ?_);have h:au _ _ _ _ (af b [aY s,aB v.2]^aS s aF v.1^af n [.ptr (some ⟨b,0⟩)]^I 0):=h.aI;refine cS (λ(y:Int)=>af b [aY s,aB v.2]^aS s aF v.1^af n [.ptr (some ⟨b,0⟩)]^I y.toNat) (λ(y:Int)=>0≤y∧y.toNat≤v.1.length) (λ(y:Int)=>v.1.length-y.toNat) h ⟨gQ 0,by simp⟩ ?_;rintro(i:Int) w ⟨h0,h1⟩ h;refine ae (λc=>?_) λc=>?_
 ·have hi:i.toNat<v.1.length:=by simp at c;omega
  refine bS h h0 hi ?_;refine dP h s i.toNat (bK hi) rfl ?_;refine aD h λn9 w h=>?_;refine az h (by rfl) λw h=>?_;refine aw h rfl ?_;refine mT (hy i.toNat _ (bK hi)) h λr w h=>?_;refine ae (λc=>?_) λc=>?_
  ·have hr:r=false:=cC;rw[hr]at h;have h:au _ _ _ _ (D^_):=h;have h:=h.yr (I v.1.length);exact h.aI
  ·have hr:r=true:=cC;rw[hr]at h;have h:au _ _ _ _ (I (i.toNat+1)^_):=h;rw[gi];have e:(i+1).toNat=i.toNat+1:=(by omega);refine⟨⟨⟨(by show(0:Int)≤i+1;omega),(by show(i+1).toNat≤_;omega)⟩,?_⟩,(by show _-(i+1).toNat<_;omega)⟩;show au _ _ _ _ (af b [aY s,aB v.2]^aS s aF v.1^af n [.ptr (some ⟨b,0⟩)]^I (i+1).toNat);rw[e];exact h.aI
 ·have hi:i.toNat=v.1.length:=by simp at c;omega
  rw[hi]at h;have h:=h.take (I v.1.length);have h:=h.vz D;exact h.aI
theorem Kv(b:Nat)(s:Sl)(v:List Pc×Int)(hl:v.1.length≤4294967296):bu (Mg (some ⟨b,0⟩)) (af b [aY s,aB v.2]^aS s aF v.1) (λr=>bs (r=fI jO v.1) (af b [aY s,aB v.2]^aS s aF v.1)):=
 Tl λw S R h=>by
  refine aD h λn1 w h=>?_;refine aD h λn2 w h=>?_;refine bh h rfl λw h=>?_;dsimp only[dE,over]at h;refine ar (jd b) (h.le (aJ _)) λf w h=>?_;obtain⟨n,h⟩:=h.lV;obtain⟨hf,h⟩:=h.aP;rw[hf];have h:=(h.take (af n1 [aE 0]^af n2 [aE ((0:Nat):Int)])).i_ (p:=∀j y,j<0→v.1[j]?=some y→jO y=false) (λj y hj=>by omega);refine pw (JL n b s v hl) (λi=>bs (∀j y,j<i→v.1[j]?=some y→jO y=false) (af n1 [aE 0]^af n2 [aE (i:Int)])) (λj=>bs (j=1) (af n1 [aE (fI jO v.1)])) h ?_ ?_ ?_
  ·intro i x hx w S R B7 next jump rdy bsy hmid hnext hjump h
   have hi:i<v.1.length:=(iy.1 hx).1;refine aD h λn8 w h=>?_;refine az h (by rfl) λw h=>?_;refine hmid h λw h=>?_;have h:=h.take (bs (∀j y,j<i→v.1[j]?=some y→jO y=false) (af n1 [aE 0]^af n2 [aE (i:Int)]));obtain⟨hno,h⟩:=h.aP;refine ah h rfl ?_;refine ae (λc=>?_) λc=>?_
   ·refine ah h rfl ?_;refine bh h rfl λw h=>?_;dsimp only[dE,over]at h;have e:fI jO v.1=(i:Int):=ER hx c hno;rw[←e]at h;have h:=(h.take (af n1 [aE (fI jO v.1)])).i_ (p:=1=1) rfl;exact hjump 1 (by decide) h
   ·refine ah h rfl ?_;refine bh h rfl λw h=>?_;dsimp only[dE,over]at h;rw[gi]at h;have h:au _ _ _ _ (af n2 [aE ((i+1:Nat):Int)]^_):=h;have h:=(h.take (af n1 [aE 0]^af n2 [aE ((i+1:Nat):Int)])).i_ (p:=∀j y,j<i+1→v.1[j]?=some y→jO y=false) (λj y hj hy=>by
     by_cases hji:j=i
     ·rw[hji,hx]at hy;cases hy;exact c
     ·exact hno j y (by omega) hy)
    exact hnext h
  ·intro w h;have h:=h.take (bs (∀j y,j<v.1.length→v.1[j]?=some y→jO y=false) (af n1 [aE 0]^af n2 [aE (v.1.length:Int)]));obtain⟨hno,h⟩:=h.aP;refine bh h rfl λw h=>?_;dsimp only[dE,over]at h;refine ah h rfl ?_;refine aT h λw h=>?_;refine au.aH ?_ h.aI;rw[vC];intro y hy;obtain⟨j,hj,rfl⟩:=Cd.1 hy;exact hno j _ hj (bK hj)
  ·intro j w hj h;have h:=h.take (bs (j=1) (af n1 [aE (fI jO v.1)]));obtain⟨hj1,h⟩:=h.aP;rw[hj1];refine ah h rfl ?_;refine aT h λw h=>?_;exact au.aH rfl h.aI
def mI(p:Pc)(s:PE):Pc:=(p.1,p.2.1,s.1,s.2.1,s.2.2.1,s.2.2.2.1,s.2.2.2.2,p.2.2.2.2.2.2.2.1,false)
def dN(l:List Pc)(s:PE):List Pc:=match l[(fI jO l).toNat]? with
 |some p=>if fI jO l<0 then l else l.set (fI jO l).toNat (mI p s)
 |none=>l
theorem BC(b s)(v:List Pc×Int)(hl:v.1.length≤4294967296):bu (Ez (some ⟨b,0⟩) s) (kT b v) (λr=>bs (r=bE v.1) (kT b (dN v.1 s,v.2))):=
 bC λw S R h=>by
  refine aD h λn1 w h=>?_;refine aD h λn2 w h=>?_;refine aK (Em b v hl) h λw h=>?_;refine aD h λn4 w h=>?_;refine az h (by rfl) λw h=>?_;refine aQ h (λ_=>af n4 (Ks.mk KR (bE v.1).1)^af n2 [aB 0,aB 0]^kT b (dN v.1 s,v.2)) (λ_=>True) (λx w _ h=>?_) ?_
  ·refine aw h rfl ?_;refine az h (by rfl) λw h=>?_;refine aw h rfl ?_;exact au.aH rfl h.aI
  ·by_cases c:0≤fI jO v.1
   ·obtain⟨p,hp,hpl,hlt,_⟩:=sY c;have he:=ti c hp;have ha:dN v.1 s=v.1.set (fI jO v.1).toNat (mI p s):=by
     unfold dN;rw[hp];simp only;rw[ay (by omega)]
    refine ae (λc2=>?_) λc2=>by rw[he]at c2;cases c2
    refine aM h λw h=>?_;obtain⟨sl,h⟩:=h.kT b;refine ac (ah h rfl ?_);refine ar (Kv b sl v hl) h λr9 w h=>?_;obtain⟨hr9,h⟩:=h.aP;rw[hr9];refine aN h rfl ?_;refine bS h c hlt ?_;refine aM h λw h=>?_;refine aw (x:=s) h rfl ?_;refine ac ?_;refine mG h sl (fI jO v.1).toNat 8 p (iA p false) hp rfl (by decide) (by simp) rfl λw h=>?_;refine aO h ?_;refine ac ?_;have hp2:(v.1.set (fI jO v.1).toNat (iA p false))[(fI jO v.1).toNat]?=some (iA p false):=by rw[sD hlt]
    refine mG h sl (fI jO v.1).toNat 2 (iA p false) (mI p s) hp2 rfl (by rw[Ks.len];decide) (by simp[Ks.mk]) rfl λw h=>?_;rw[Hy]at h;rw[ha];exact⟨trivial,(h.pf b sl (v.1.set (fI jO v.1).toNat (mI p s)) v.2).aI⟩
   ·have c:fI jO v.1<0:=(by omega);have he:=su c;have ha:dN v.1 s=v.1:=by
     unfold dN;split
     ·rw[aG c]
     ·rfl
    refine ae (λc2=>by rw[he]at c2;cases c2) λc2=>?_;rw[ha];exact⟨trivial,h.aI⟩
theorem vG:∀(B:List Pc) (n:Int),(∀p∈B,lG p=false)→B.foldl uu n=n
 |[],_,_=>rfl
 |p::B,n,h=>by
  have hp:=h p pq;rw[Dz,uu,ay (by rw[hp];simp)];exact vG B n (λq hq=>h q (nb _ hq))
def f1(i:Nat)(p:Pc):Pc:=match i with|0=>p|_=>ya p
def f2(_:Nat)(p:Pc):Pc:=ya p
theorem Ku(l:List Pc):dz (l.map fo)=0:=by
 rw[dz];refine vG _ 0 λp hp=>?_;obtain⟨q,_,rfl⟩:=pu.1 hp;rw[fo];split
 ·simp[lG,jO,iA]
 ·rename_i h;simpa using h
end fb

namespace Target
open bH bp
abbrev KP:Ks:=[.int .u64,.int .u64]
def Xe:Int→List (Int×Int)→Int
 |v,[]=>v
 |v,p::r=>if v=0 then v else Xe (qN v p.1 p.2) r
theorem OS(v:Int)(s:Sl)(ps:List (Int×Int))(hv:U v)(hp:∀p∈ps,U p.1∧U p.2)(hl:ps.length≤1000000):
  bu (Qq v s) (aS s KP ps) (λr=>bs (r=Xe v ps) (aS s KP ps)):=
 bC λw0 S R h=>by
  have h:au w0 S R w0 (aS s KP ps^bg):=h.le (aJ _);have hs:=(h.rd (s:=s)).2;refine cS (λ(_:Int×Int)=>aS s KP ps^bg) (λ(y:Int×Int)=>((0≤y.2∧y.2≤ps.length)∧U y.1)∧Xe y.1 (ps.drop y.2.toNat)=Xe v ps) (λ(y:Int×Int)=>ps.length-y.2.toNat) h ⟨⟨⟨by simp,by simp⟩,hv⟩,rfl⟩ ?_;rintro(⟨n,i⟩:Int×Int) w ⟨⟨⟨h0,h1⟩,hn⟩,h2⟩ h;dsimp only at h0 h1 h2 hn h⊢;refine ae (λc=>?_) λc=>?_
  ·have hi:i.toNat<ps.length:=(by simp at c;omega);obtain⟨p,hpp⟩:∃p,ps[i.toNat]?=some p:=⟨_,bK hi⟩;have hU:=hp p (gI hpp);rw[qI hpp,Xe]at h2;refine bS h h0 hi (dP h s i.toNat hpp rfl ?_);refine aD h λn5 w h=>?_;refine az h (by rfl) λw h=>?_;refine ae (λc2=>?_) λc2=>?_
   ·have c2:n=0:=gK;rw[aG c2]at h2;exact au.aH h2 h.aI
   have c2:¬n=0:=gK;rw[ay c2]at h2;have h:au w0 S R w (af n5 [aB p.1,aB p.2]^aS s KP ps^bg):=h;refine⟨by decide,ah h rfl ⟨by decide,ah h rfl ?_⟩⟩;refine ar (uO n p.1 p.2 hn hU.1 hU.2) h λr w h=>?_;obtain⟨hr,h⟩:=h.aP;rw[hr,gi (n:=i+1)];refine⟨⟨⟨⟨⟨by show 0≤i+1;omega,by show i+1≤_;omega⟩,yS hn hU.1 hU.2⟩,?_⟩,h.aI⟩,by show _-(i+1).toNat<_;omega⟩;show Xe (qN n p.1 p.2) (ps.drop (i+1).toNat)=_;rw[show(i+1).toNat=i.toNat+1 by omega];exact h2
  ·have hi:i.toNat=ps.length:=(by simp at c;omega);rw[hi,v7]at h2;exact au.aH h2 h.aI
theorem X_(b c:Int):qN 0 b c=0:=by unfold qN;simp
theorem wc(bw g:Int)(hb:U bw)(hg:U g):bu (Qg bw g) bg (λr=>bs (r=AA bw g) bg):=
 bC λw0 S R h=>by
  refine aD h λn1 w h=>?_;have h:=h.SN ⟨some ⟨n1,0⟩,1,1⟩ ⟨n1,0⟩ KP [(g,(256:Int))] rfl rfl (eE _) (by simp) (by simp) (λi hi=>by
   have:i<2:=hi
   match i with|0=>rfl|1=>rfl)
  refine ar (OS bw ⟨some ⟨n1,0⟩,1,1⟩ [(g,256)] hb (by intro p hp;rw[j_]at hp;rw[hp];exact⟨hg,bm _⟩) (by simp)) h λr w h=>?_;obtain⟨hr,h⟩:=h.aP;refine au.aH ?_ h.aI;rw[hr];show(if bw=0 then bw else qN bw g 256)=_;split
  ·rename_i h;rw[h,AA,X_]
  ·rfl
theorem Ir(bw bT g:Int)(hb:U bw)(hq:U bT)(hg:U g):bu (QJ bw bT g) bg (λr=>bs (r=CF bw bT g) bg):=
 bC λw0 S R h=>by
  refine aD h λn1 w h=>?_;have h:=h.SN ⟨some ⟨n1,0⟩,2,2⟩ ⟨n1,0⟩ KP [(bT,(1000000000:Int)),(g,(256:Int))] rfl rfl (eE _) (by simp) (by simp) (λi hi=>by
   have:i<4:=hi
   match i with|0=>rfl|1=>rfl|2=>rfl|3=>rfl)
  refine ar (OS bw ⟨some ⟨n1,0⟩,2,2⟩ [(bT,1000000000),(g,256)] hb (by
   intro p hp;simp only[ec,List.not_mem_nil,or_false]at hp;rcases hp with hp|hp<;>rw[hp]
   ·exact⟨hq,bm _⟩
   ·exact⟨hg,bm _⟩) (by simp)) h λr w h=>?_
  obtain⟨hr,h⟩:=h.aP;refine au.aH ?_ h.aI;rw[hr];show(if bw=0 then bw else if qN bw bT 1000000000=0 then qN bw bT 1000000000 else qN (qN bw bT 1000000000) g 256)=_;unfold CF;split
  ·rename_i h;rw[h,X_,X_]
  ·split
   ·rename_i h;rw[h,X_]
   ·rfl
theorem Sv(bw bT g tso bt:Int)(hb:U bw)(hq:U bT)(hg:U g)(ht:U tso)(hm:U bt):bu (Vx bw bT g tso bt) bg (λr=>bs (r=BA bw bT g tso bt) bg):=
 bC λw0 S R h=>by
  refine ae (λc=>?_) λc=>?_
  ·repeat' (first
    |(refine aM h λw h=>?_)
    |(refine ac ?_)
    |(refine aw h rfl ?_)
    |(refine ah h rfl ?_)
    |(refine aO h ?_)
    |(refine aN h rfl ?_)
    |(refine az h (by rfl) λw h=>?_)
    |(refine aD h λn w h=>?_)
    |(refine aT h λw h=>?_)
    |(refine bh h rfl λw h=>?_;dsimp only[dE,over]at h)
    |(refine ar (u9 10 bt (bm _) hm) h λr w h=>?_;obtain⟨hr,h⟩:=h.aP;(try dsimp only at hr h);try rw[hr]))
   exact au.aH (by unfold BA;rw[aG (show bT=0 by simpa using c)]) h.aI
  ·repeat' (first
    |(refine aM h λw h=>?_)
    |(refine ac ?_)
    |(refine aw h rfl ?_)
    |(refine ah h rfl ?_)
    |(refine aO h ?_)
    |(refine aN h rfl ?_)
    |(refine az h (by rfl) λw h=>?_)
    |(refine aD h λn w h=>?_)
    |(refine aT h λw h=>?_)
    |(refine bh h rfl λw h=>?_;dsimp only[dE,over]at h)
    |(refine ar (Ir bw bT g hb hq hg) h λr w h=>?_;obtain⟨hr,h⟩:=h.aP;(try dsimp only at hr h);try rw[hr])
    |(refine ar (u9 3 tso (bm _) ht) h λr w h=>?_;obtain⟨hr,h⟩:=h.aP;(try dsimp only at hr h);try rw[hr])
    |(refine ar (u9 4 bt (bm _) hm) h λr w h=>?_;obtain⟨hr,h⟩:=h.aP;(try dsimp only at hr h);try rw[hr])
    |(refine ar (e_ (CF bw bT g) (rE 3 tso) (LK hb hq hg) (Eo (bm _) ht)) h λr w h=>?_;obtain⟨hr,h⟩:=h.aP;(try dsimp only at hr h);try rw[hr]))
   exact au.aH (by unfold BA;rw[ay (show ¬bT=0 by simpa using c)]) h.aI
theorem Cl(bw g:Int)(hb:U bw)(hg:U g):bu (Qj bw g) bg (λr=>bs (r=AA bw g) bg):=
 bC λw0 S R h=>by
  repeat' (first
   |(refine aM h λw h=>?_)
   |(refine ac ?_)
   |(refine aw h rfl ?_)
   |(refine ah h rfl ?_)
   |(refine aO h ?_)
   |(refine aN h rfl ?_)
   |(refine az h (by rfl) λw h=>?_)
   |(refine aD h λn w h=>?_)
   |(refine aT h λw h=>?_)
   |(refine bh h rfl λw h=>?_;dsimp only[dE,over]at h)
   |(refine ar (nY bw g 256 hb hg (bm _)) h λr w h=>?_;obtain⟨hr,h⟩:=h.aP;(try dsimp only at hr h);try rw[hr]))
  exact au.aH rfl h.aI
theorem we(bw bT g:Int)(hb:U bw)(hq:U bT)(hg:U g):bu (JX bw bT g) bg (λr=>bs (r=CF bw bT g) bg):=
 bC λw0 S R h=>by
  repeat' (first
   |(refine aM h λw h=>?_)
   |(refine ac ?_)
   |(refine aw h rfl ?_)
   |(refine ah h rfl ?_)
   |(refine aO h ?_)
   |(refine aN h rfl ?_)
   |(refine az h (by rfl) λw h=>?_)
   |(refine aD h λn w h=>?_)
   |(refine aT h λw h=>?_)
   |(refine bh h rfl λw h=>?_;dsimp only[dE,over]at h)
   |(refine ar (nY bw bT 1000000000 hb hq (bm _)) h λr w h=>?_;obtain⟨hr,h⟩:=h.aP;(try dsimp only at hr h);try rw[hr])
   |(refine ar (nY (qN bw bT 1000000000) g 256 (yS hb hq (bm _)) hg (bm _)) h λr w h=>?_;obtain⟨hr,h⟩:=h.aP;(try dsimp only at hr h);try rw[hr]))
  exact au.aH rfl h.aI
theorem OO(bw bT g tso bt:Int)(hb:U bw)(hq:U bT)(hg:U g)(ht:U tso)(hm:U bt):bu (U9 bw bT g tso bt) bg (λr=>bs (r=BA bw bT g tso bt) bg):=
 bC λw0 S R h=>by
  refine ae (λc=>?_) λc=>?_
  ·repeat' (first
    |(refine aM h λw h=>?_)
    |(refine ac ?_)
    |(refine aw h rfl ?_)
    |(refine ah h rfl ?_)
    |(refine aO h ?_)
    |(refine aN h rfl ?_)
    |(refine az h (by rfl) λw h=>?_)
    |(refine aD h λn w h=>?_)
    |(refine aT h λw h=>?_)
    |(refine bh h rfl λw h=>?_;dsimp only[dE,over]at h)
    |(refine ar (wj 10 bt (bm _) hm) h λr w h=>?_;obtain⟨hr,h⟩:=h.aP;(try dsimp only at hr h);try rw[hr]))
   exact au.aH (by unfold BA;rw[aG (show bT=0 by simpa using c)]) h.aI
  ·repeat' (first
    |(refine aM h λw h=>?_)
    |(refine ac ?_)
    |(refine aw h rfl ?_)
    |(refine ah h rfl ?_)
    |(refine aO h ?_)
    |(refine aN h rfl ?_)
    |(refine az h (by rfl) λw h=>?_)
    |(refine aD h λn w h=>?_)
    |(refine aT h λw h=>?_)
    |(refine bh h rfl λw h=>?_;dsimp only[dE,over]at h)
    |(refine ar (we bw bT g hb hq hg) h λr w h=>?_;obtain⟨hr,h⟩:=h.aP;(try dsimp only at hr h);try rw[hr])
    |(refine ar (wj 3 tso (bm _) ht) h λr w h=>?_;obtain⟨hr,h⟩:=h.aP;(try dsimp only at hr h);try rw[hr])
    |(refine ar (wj 4 bt (bm _) hm) h λr w h=>?_;obtain⟨hr,h⟩:=h.aP;(try dsimp only at hr h);try rw[hr])
    |(refine ar (fP (CF bw bT g) (rE 3 tso) (LK hb hq hg) (Eo (bm _) ht)) h λr w h=>?_;obtain⟨hr,h⟩:=h.aP;(try dsimp only at hr h);try rw[hr]))
   exact au.aH (by unfold BA;rw[ay (show ¬bT=0 by simpa using c)]) h.aI
end Target

namespace Js
open bH bp _root_.Go.X.Target gM
theorem Pv(w:Int):bu (T9 w) bg (λr=>ex λn:Nat=>bs (r=some ⟨n,0⟩) (af n (ad.gD ((Wn.mk w 0 0 0 0 0 0 0))))):=
 bC λw0 S R h=>by
  refine aD h λn w h=>?_;exact au.ie n (au.aH rfl h.aI)
theorem y5(b v):bu (Mn (some ⟨b,0⟩)) (af b (ad.gD v)) (λr=>bs (r=v.v0) (af b (ad.gD v))):=
 bC λw0 S R h=>by
  refine ae (λc=>(by cases c)) λ_=>?_;refine ac ⟨by decide,ah h rfl ?_⟩;exact au.aH rfl h.aI
theorem sC(t s v w:Int)(ht:U t)(hs:U s):bu (Gu t (s,v) w) bg (λr=>bs (r=!decide (pQ t s w)) bg):=
 bC λw0 S R h=>by
  refine aD h λn w h=>?_;refine ah h rfl ?_;rw[I_ ht hs];exact au.aH (by unfold pQ;rw[jG];simp) h.aI
theorem qo(b v)(t x:Int):bu (QM (some ⟨b,0⟩) (t,x)) (af b (ad.gD v)) (λ_=>af b (ad.gD ((v.push t x)))):=
 bC λw0 S R h=>by
  refine aD h λn w h=>?_;refine aM h λw h=>?_;refine aw h rfl ?_;refine ac (ac (ac (ac (ac ⟨by decide,by decide,ah h rfl (ah h rfl ⟨by decide,?_⟩)⟩))));refine bh h rfl λw h=>?_;dsimp only[dE,over]at h;refine aO h ⟨by decide,?_⟩;refine bh h rfl λw h=>?_;dsimp only[dE,over]at h;refine aO h ⟨by decide,?_⟩;refine bh h rfl λw h=>?_;dsimp only[dE,over]at h;exact au.br (A:=af b (ad.gD ((v.push t x)))) h
def Xf(v:Wn)(f t x:Int)(i:Int):Wn:={ v with
 t0:=if f=0∧0<i then t else v.t0,v0:=if f=0∧0<i then x else v.v0
 t1:=if f≤1∧1<f+i then t else v.t1,v1:=if f≤1∧1<f+i then x else v.v1
 t2:=if 2<f+i then t else v.t2,v2:=if 2<f+i then x else v.v2}
theorem jd(b v)(f t x:Int)(hf:f=0∨f=1∨f=2):bu (Mr (some ⟨b,0⟩) f (t,x)) (af b (ad.gD v))
    (λ_=>af b (ad.gD ((if f=0 then v.all t x else if f=1 then v.Ef t x else v.s2 t x)))):=
  bC λw0 S R h=>by
    refine aD h λn w h=>?_;refine ac ?_;refine⟨⟨rfl,λ_=>by simp⟩,f.toNat,3,3,?_,rfl,rfl,⟨by omega,eE _,eE _⟩,?_⟩
    · show f=f.toNat;omega
    have h:au w0 S R w (af b (ad.gD ((Xf v f t x 0)))^af n (Ks.mk KP (t,x))^bg):=by
      have h:=h.dQ (b:=b) (L':=(ad.gD ((Xf v f t x 0)))) (by rcases hf with rfl|rfl|rfl<;>simp[Xf]);exact h
    have hlen:((Sl.sub ⟨some ⟨b,0+1⟩,3,3⟩ f.toNat 3 3 2).len:Int)=3-f:=(by show((3-f.toNat:Nat):Int)=_;omega);refine cS (λi:Int=>af b (ad.gD ((Xf v f t x i)))^af n (Ks.mk KP (t,x))^bg) (λi:Int=>0≤i∧i≤3-f) (λi:Int=>3-i.toNat) h ⟨gQ _,by omega⟩ ?_;rintro(i:Int) w ⟨h0,h1⟩ h;rw[hlen];refine ae (λc=>?_) λc=>?_
    · have c:i<3-f:=cC
      refine aM h λw h=>aw h rfl (ac ?_);rw[gi (n:=f+i),gi (n:=i+1)];refine⟨by omega,?_⟩;have hi:(f=0∧i=0)∨(f=0∧i=1)∨(f=0∧i=2)∨(f=1∧i=0)∨(f=1∧i=1)∨(f=2∧i=0):=by omega
      refine aA h b (ad.gD ((Xf v f t x (i+1)))) rfl ?_ ?_ λw h=>?_
      · rcases hi with⟨rfl,rfl⟩|⟨rfl,rfl⟩|⟨rfl,rfl⟩|⟨rfl,rfl⟩|⟨rfl,rfl⟩|⟨rfl,rfl⟩<;>rfl
      · rcases hi with⟨rfl,rfl⟩|⟨rfl,rfl⟩|⟨rfl,rfl⟩|⟨rfl,rfl⟩|⟨rfl,rfl⟩|⟨rfl,rfl⟩<;>rfl
      · exact⟨⟨⟨by show 0≤i+1;omega,by show i+1≤_;omega⟩,h⟩,by show 3-(i+1).toNat<3-i.toNat;omega⟩
    · have c:i=3-f:=by
       have:¬i<3-f:=cC;omega
      subst c;refine au.br (A:=af b (ad.gD ((if f=0 then v.all t x else if f=1 then v.Ef t x else v.s2 t x)))) (h.dQ (b:=b) ?_);rcases hf with rfl|rfl|rfl<;>simp[Xf,Wn.all,Wn.Ef,Wn.s2]
theorem KZ(b v)(t x:Int):bu (VC (some ⟨b,0⟩) t x) (af b (ad.gD v)) (λ_=>af b (ad.gD (((v.tick t).all t x)))):=
 bC λw0 S R h=>by
  refine ae (λc=>(by cases c)) λ_=>?_;refine ac (ah h rfl (ac ?_));refine aA h b (ad.gD ((v.tick t))) rfl rfl rfl λw h=>?_;refine ar (jd b (v.tick t) 0 t x (.inl rfl)) h λr w h=>?_;exact au.br (A:=af b (ad.gD (((v.tick t).all t x)))) h
end Js

namespace Jt
open bH bp _root_.Go.X.Target gM Js
theorem U4{w:Int}(h:U w):u64.wrap (w.tdiv 4)=w/4:=by unfold U at h;rw[mD h.1,ja]
theorem U2{w:Int}(h:U w):u64.wrap (w.tdiv 2)=w/2:=by unfold U at h;rw[mD h.1,ja]
theorem GX(b:Nat)(v:Wn)(hv:va v)(t x:Int)(ht:U t)(hx:U x):bu (Vu (some ⟨b,0⟩) t x) (af b (ad.gD v))
    (λr=>bs (r=(A5 v t x).v0) (af b (ad.gD ((A5 v t x))))):=
  bC λw0 S R h=>by
    refine ae (λc=>(by cases c)) λ_=>?_;refine ac (ah h rfl (ac ?_));refine aA h b (ad.gD ((v.tick t))) rfl rfl rfl λw h=>?_;have hu:=hv.tick ht;have e0:A5 v t x=wU (v.tick t) (v.tick t).la x:=rfl;rw[e0];generalize v.tick t=u at*
    refine ac (ah h rfl ?_);refine aD h λn w h=>?_;refine aA h n [aB u.la,aB x] rfl rfl rfl λw h=>?_;have h:au w0 S R w (af b (ad.gD u)^af n [aB u.la,aB x]):=h.aI;refine aQ h (λ_=>af b (ad.gD u)^af n [aB u.la,aB x]) (λy:Bool=>y=decide (x≥u.v0∨pQ u.la u.t2 u.w)) (λ(y:Bool) w hy h=>?_) ?_
    · rw[hy]
      refine ae (λc=>?_) λc=>?_
      · have c:x≥u.v0∨pQ u.la u.t2 u.w:=cC
        refine ah h rfl ?_;refine ar (KZ b u u.la x) h λr w h=>?_;have e:wU u u.la x=u.all u.la x:=by unfold wU;rw[aG c]
        rw[e];have e2:u.tick u.la=u:=by unfold Wn.tick;simp
        rw[e2]at h;exact au.aH rfl h.br
      have c:¬(x≥u.v0∨pQ u.la u.t2 u.w):=cC;have e:wU u u.la x=wH (A4 u u.la x) u.la x:=(by unfold wU;rw[ay c]);rw[e];refine aQ h (λ_=>af b (ad.gD ((A4 u u.la x)))^af n [aB u.la,aB x]) (λ_=>True) (λ_ w _ h=>?_) ?_
      · have hs:=hu.A4 hu.la hx
        have hT:=hu.la;generalize u.la=T at*
        generalize A4 u T x=s at*
        refine aQ h (λ_=>af b (ad.gD ((wH s T x)))^af n [aB T,aB x]) (λ_=>True) (λ_ w _ h=>?_) ?_
        · refine ac ⟨by decide,ah h rfl ?_⟩
          exact au.aH rfl h.br
        refine aM h λw h=>ah h rfl (ac (ac ⟨by decide,ah h rfl (ah (x:=(s.t0,s.v0)) h rfl ?_)⟩));refine ar (sC T s.t0 s.v0 s.w hT hs.t0) h λr w h=>?_;obtain⟨hr,h⟩:=h.aP;rw[hr,xm];refine ae (λc1=>?_) λc1=>?_
        · have c1:pQ T s.t0 s.w:=by simpa using c1
          refine aw (x:=(T,x)) h rfl ?_;refine ar (qo b s T x) h λr w h=>?_;refine aM h λw h=>ah h rfl (ac (ac ⟨by decide,ah h rfl (ah (x:=(s.t1,s.v1)) h rfl ?_)⟩));refine ar (sC T s.t1 s.v1 s.w hT hs.t1) h λr w h=>?_;obtain⟨hr,h⟩:=h.aP;rw[hr,xm];refine ae (λc2=>?_) λc2=>?_
          · have c2:pQ T s.t1 s.w:=gK
            refine aw (x:=(T,x)) h rfl ?_;refine ar (qo b (s.push T x) T x) h λr w h=>?_;have e:wH s T x=(s.push T x).push T x:=by unfold wH;rw[aG c1,aG c2]
            rw[e];exact⟨trivial,h.aI⟩
          · have c2:¬pQ T s.t1 s.w:=gK
            have e:wH s T x=s.push T x:=(by unfold wH;rw[aG c1,ay c2]);rw[e];exact⟨trivial,h.aI⟩
        have c1:¬pQ T s.t0 s.w:=(by simpa using c1);have hf:∀k,(wH s T x=k)=((if s.t1=s.t0∧pQ T s.t0 (s.w/4)then s.Ef T x else if s.t2=s.t1∧pQ T s.t0 (s.w/2)then s.s2 T x else s)=k):=λk=>by unfold wH;rw[ay c1]
        refine aQ h (λ_=>af b (ad.gD s)^af n [aB T,aB x]) (λy:Bool=>y=decide (s.t1=s.t0∧pQ T s.t0 (s.w/4))) (λ(y:Bool) w hy h=>?_) ?_
        · rw[hy]
          refine ae (λc2=>?_) λc2=>?_
          · have c2:s.t1=s.t0∧pQ T s.t0 (s.w/4):=gK
            refine aw (x:=(T,x)) h rfl ?_;refine ar (jd b s 1 T x (.inr (.inl rfl))) h λr w h=>?_;have e:wH s T x=s.Ef T x:=by rw[hf,aG c2]
            rw[e];have h:au w0 S R w (af b (ad.gD ((s.Ef T x)))^af n [aB T,aB x]):=h;exact⟨trivial,h⟩
          have c2:¬(s.t1=s.t0∧pQ T s.t0 (s.w/4)):=gK;refine aQ h (λ_=>af b (ad.gD s)^af n [aB T,aB x]) (λy:Bool=>y=decide (s.t2=s.t1∧pQ T s.t0 (s.w/2))) (λ(y:Bool) w hy h=>?_) ?_
          · rw[hy]
            refine ae (λc3=>?_) λc3=>?_
            · have c3:s.t2=s.t1∧pQ T s.t0 (s.w/2):=by simpa using c3
              refine aw (x:=(T,x)) h rfl ?_;refine ar (jd b s 2 T x (.inr (.inr rfl))) h λr w h=>?_;have e:wH s T x=s.s2 T x:=by rw[hf,ay c2,aG c3]
              rw[e];have h:au w0 S R w (af b (ad.gD ((s.s2 T x)))^af n [aB T,aB x]):=h;exact⟨trivial,h⟩
            · have c3:¬(s.t2=s.t1∧pQ T s.t0 (s.w/2)):=by simpa using c3
              have e:wH s T x=s:=(by rw[hf,ay c2,ay c3]);rw[e];exact⟨trivial,h.aI⟩
          · refine aM h λw h=>ac (ac ⟨by decide,by decide,ah h rfl (ah h rfl ?_)⟩)
            refine ae (λc3=>?_) λc3=>?_
            · have c3:s.t2=s.t1:=by simpa using c3
              refine ah h rfl (ac (ac ⟨by decide,ah h rfl (ah (x:=(s.t0,s.v0)) h rfl ?_)⟩));rw[U2 hs.w];refine ar (sC T s.t0 s.v0 (s.w/2) hT hs.t0) h λr w h=>?_;obtain⟨hr,h⟩:=h.aP;exact⟨by rw[hr,xm];simp[c3],h.aI⟩
            · have c3:¬s.t2=s.t1:=by simpa using c3
              exact⟨by simp[c3],h.aI⟩
        · refine aM h λw h=>ac (ac ⟨by decide,by decide,ah h rfl (ah h rfl ?_)⟩)
          refine ae (λc3=>?_) λc3=>?_
          · have c3:s.t1=s.t0:=by simpa using c3
            refine ah h rfl (ac (ac ⟨by decide,ah h rfl (ah (x:=(s.t0,s.v0)) h rfl ?_)⟩));rw[U4 hs.w];refine ar (sC T s.t0 s.v0 (s.w/4) hT hs.t0) h λr w h=>?_;obtain⟨hr,h⟩:=h.aP;exact⟨by rw[hr,xm];simp[c3],h.aI⟩
          · have c3:¬s.t1=s.t0:=by simpa using c3
            exact⟨by simp[c3],h.aI⟩
      · refine cS (λ_:Int=>af b (ad.gD u)^af n [aB u.la,aB x]) (λi:Int=>(0≤i∧i≤3)∧(i≥2→¬x≥u.v1)∧(i≥3→¬x≥u.v2)) (λi:Int=>3-i.toNat) h ⟨⟨by simp,by simp⟩,by simp,by simp⟩ ?_
        rintro(i:Int) w ⟨⟨h0,h1⟩,h2,h3⟩ h;refine ae (λc=>?_) λc=>?_
        · have c:i<3:=cC
          have hi:i=0∨i=1∨i=2:=(by omega);refine aQ h (λ_=>af b (ad.gD u)^af n [aB u.la,aB x]) (λy:Bool=>y=(decide (i=1∧x≥u.v1)||decide (i=2∧x≥u.v2))) (λ(y:Bool) w hy h=>?_) ?_
          · rw[hy]
            refine ae (λc2=>?_) λc2=>?_
            · refine aw (x:=(u.la,x)) h rfl ?_
              refine ar (jd b u i u.la x hi) h λr w h=>?_;have c2:(i=1∧x≥u.v1)∨(i=2∧x≥u.v2):=gK;have e:A4 u u.la x=if i=0 then u.all u.la x else if i=1 then u.Ef u.la x else u.s2 u.la x:=by
                unfold A4;rcases c2 with⟨rfl,cc⟩|⟨rfl,cc⟩
                · rw[aG cc];rfl
                · rw[ay (h2 (by omega)),aG cc];rfl
              rw[e];exact⟨trivial,h.aI⟩
            · have c2:¬((i=1∧x≥u.v1)∨(i=2∧x≥u.v2)):=gK
              rw[gi (n:=i+1)];refine⟨⟨⟨⟨by omega,by omega⟩,λhh=>?_,λhh=>?_⟩,h⟩,by omega⟩
              · by_cases hi1:i=1
                · intro hx1;exact c2 (.inl ⟨hi1,hx1⟩)
                · exact h2 (by omega)
              · intro hx1;exact c2 (.inr ⟨by omega,hx1⟩)
          · refine ae (λc2=>?_) λc2=>?_
            · have c2:i>0:=gK
              refine ac ⟨⟨h0,c⟩,?_⟩;have hi:i=1∨i=2:=by omega
              rcases hi with rfl|rfl
              · exact ah h rfl ⟨by simp,h⟩
              · exact ah h rfl ⟨by simp,h⟩
            · have c2:i=0:=by
               have:¬i>0:=gK;omega
              exact⟨by simp[c2],h⟩
        · have c:i=3:=by
           have:¬i<3:=cC;omega
          have e:A4 u u.la x=u:=(by unfold A4;rw[ay (h2 (by omega)),ay (h3 (by omega))]);rw[e];exact⟨trivial,h⟩
    · refine aM h λw h=>ac ⟨by decide,ah h rfl ?_⟩
      refine ae (λc=>?_) λc=>?_
      · have c:x≥u.v0:=cC
        exact⟨by simp[c],h⟩
      · have c:¬x≥u.v0:=cC
        refine ah h rfl (ac (ac ⟨by decide,ah h rfl (ah (x:=(u.t2,u.v2)) h rfl ?_)⟩));refine ar (sC u.la u.t2 u.v2 u.w hu.la hu.t2) h λr w h=>?_;obtain⟨hr,h⟩:=h.aP;exact⟨by rw[hr,xm];simp[c],h.aI⟩
end Jt

namespace LA
open bH bp _root_.Go.X.Target gM
theorem AL:bu T_ bg (λr=>ex λn:Nat=>bs (r=some ⟨n,0⟩) (af n (ad.jK ((SG.mk 0 0))))):=
 bC λw0 S R h=>by
  refine aD h λn w h=>?_;exact au.ie n (au.aH rfl h.aI)
theorem NO:bu Ua bg (λr=>ex λn:Nat=>bs (r=some ⟨n,0⟩) (af n (ad.jA ((Pp.mk 0 0 false))))):=
 bC λw0 S R h=>by
  refine aD h λn w h=>?_;exact au.ie n (au.aH rfl h.aI)
theorem zb:bu Ub bg (λr=>ex λn:Nat=>bs (r=some ⟨n,0⟩) (af n (ad.iV ((Cy.mk 0 0))))):=
 bC λw0 S R h=>by
  refine aD h λn w h=>?_;exact au.ie n (au.aH rfl h.aI)
theorem y6:bu Uc bg (λr=>ex λn:Nat=>bs (r=some ⟨n,0⟩) (af n (ad.jk ((Pb.mk 0 0 false 0 false))))):=
 bC λw0 S R h=>by
  refine aD h λn w h=>?_;exact au.ie n (au.aH rfl h.aI)
theorem zH:bu Ud bg (λr=>ex λn:Nat=>bs (r=some ⟨n,0⟩) (af n (ad.gz ((Pl.mk false false 0 0 0 0 0 0))))):=
 bC λw0 S R h=>by
  refine aD h λn w h=>?_;exact au.ie n (au.aH rfl h.aI)
theorem BM(b r):bu (Qp (some ⟨b,0⟩)) (af b (ad.jK r)) (λx=>bs (x=r.n) (af b (ad.jK r))):=
 bC λw0 S R h=>by
  refine ae (λc=>(by cases c)) λ_=>ac (ah h rfl ?_);exact au.aH rfl h.aI
theorem KM(b c):bu (UL (some ⟨b,0⟩)) (af b (ad.iV c)) (λx=>bs (x=c.ph) (af b (ad.iV c))):=
 bC λw0 S R h=>by
  refine ae (λc=>(by cases c)) λ_=>ac (ah h rfl ?_);exact au.aH rfl h.aI
theorem qf(b p):bu (ED (some ⟨b,0⟩)) (af b (ad.jA p)) (λx=>bs (x=p.full) (af b (ad.jA p))):=
 bC λw0 S R h=>by
  refine ae (λ_=>ac (ah h rfl ?_)) λc=>(by cases c);exact au.aH rfl h.aI
theorem pZ(b v):bu (Gs (some ⟨b,0⟩)) (af b (ad.jk v)) (λx=>bs (x=v.dy) (af b (ad.jk v))):=
 bC λw0 S R h=>by
  refine ae (λc=>(by cases c)) λ_=>ac (ah h rfl ?_);exact au.aH rfl h.aI
theorem MR(b c):bu (Vf (some ⟨b,0⟩)) (af b (ad.iV c)) (λx=>bs (x=cG c) (af b (ad.iV c))):=
 bC λw0 S R h=>by
  refine ae (λ_=>ac (ah h rfl ?_)) λc=>(by cases c);refine ae (λc1=>?_) λc1=>?_
  ·exact au.aH (by unfold cG;rw[aG (by simpa using c1)]) h.aI
  refine ae (λc2=>?_) λc2=>?_
  ·exact au.aH (by unfold cG;rw[ay (by simpa using c1),aG gK]) h.aI
  ·exact au.aH (by unfold cG;rw[ay (by simpa using c1),ay gK]) h.aI
theorem E9(b q):bu (QB (some ⟨b,0⟩)) (af b (ad.gz q)) (λx=>bs (x=(if q.jh then q.bw else 0,q.jh)) (af b (ad.gz q))):=
 bC λw0 S R h=>by
  refine aQ h (λ_=>af b (ad.gz q)) (λ_=>q.jh=true) (λ_ w hu h=>?_) ?_
  ·refine ac (ah h rfl ?_);exact au.aH (by rw[hu];rfl) h
  ·refine ae (λc=>(by cases c)) λ_=>ac (ah h rfl ?_);refine ae (λc=>?_) λc=>?_
   ·have c:q.jh=false:=cC;exact au.aH (by rw[c];rfl) h
   ·exact⟨cC,h⟩
theorem AP(b r s):bu (Vg (some ⟨b,0⟩) s) (af b (ad.jK r)) (λx=>bs (x=rB r s) (af b (ad.jK ((rU r s))))):=
 bC λw0 S R h=>by
  refine aD h λn w h=>?_;refine cS (λ_:Bool=>af n (Ks.mk aW s)^af b (ad.jK r)) (λy:Bool=>y=false) (λ_=>0) h rfl ?_;rintro(y:Bool) w hy h;rw[hy];refine aQ h (λ_=>af n (Ks.mk aW s)^af b (ad.jK r)) (λ_=>fE s>0) (λ_ w c1 h=>?_) ?_
  ·refine aM h λw h=>ah h rfl (ac (ah h rfl ?_));refine ae (λc2=>?_) λc2=>?_
   ·have e:rB r s=false:=(by unfold rB;simp at c2⊢;intro _;exact c2);have e2:rU r s=r:=(by unfold rU;rw[e];rfl);rw[e2];exact au.aH e.symm h.aI
   ·have e:rB r s=true:=(by unfold rB;simp at c2⊢;exact⟨c1,c2⟩);have e2:rU r s=⟨u64.wrap (r.n+1),gO s⟩:=(by unfold rU;rw[e];rfl);rw[e2];refine ah h rfl (ac ?_);refine aA h b [aB r.n,aB (gO s)] rfl rfl rfl λw h=>?_;refine ac (ah h rfl (ac ?_));refine aA h b [aB (u64.wrap (r.n+1)),aB (gO s)] rfl rfl rfl λw h=>?_;exact au.aH e.symm h.aI
  ·refine ae (λ_=>ah h rfl ?_) λc=>(by cases c);refine ae (λc=>?_) λc=>?_
   ·exact⟨cC,h⟩
   ·have e:rB r s=false:=(by unfold rB;rw[show decide (fE s>0)=false from c];rfl);have e2:rU r s=r:=(by unfold rU;rw[e];rfl);rw[e2];exact au.aH e.symm h.aI
theorem NT(b p)(hp:WX p)(a l)(bw:Int)(hb:U bw):bu (Vk (some ⟨b,0⟩) a l bw) (af b (ad.jA p)) (λx=>bs (x=(pU p a l bw).full) (af b (ad.jA ((pU p a l bw))))):=
 bC λw0 S R h=>by
  refine aQ h (λ_=>af b (ad.jA ((pU p a l bw)))) (λ_=>True) (λ_ w _ h=>?_) ?_
  ·refine ar (qf b (pU p a l bw)) h λr w h=>?_;obtain⟨hr,h⟩:=h.aP;exact au.aH hr h.aI
  refine cS (λ_:Unit=>af b (ad.jA p)) (λ_:Unit=>True) (λ_=>0) h trivial ?_;rintro _ w _ h;refine aQ h (λ_=>af b (ad.jA p)) (λ_=>(!p.full&&a&&!l)=true) (λ_ w c h=>?_) ?_
  ·refine ac (ah h rfl ?_);refine aK (uO p.dy 320 256 hp.dy (bm _) (bm _)) h λw h=>?_;refine ae (λc2=>?_) λc2=>?_
   ·have c2:bw≥qN p.dy 320 256:=gK;have e:pU p a l bw=⟨bw,0,p.full⟩:=(by unfold pU;rw[aG c,aG c2]);rw[e];refine ac (aA h b [aB bw,aE p.n,bc p.full] rfl rfl rfl λw h=>?_);refine ac (aA h b [aB bw,aE 0,bc p.full] rfl rfl rfl λw h=>?_);exact⟨trivial,h.aI⟩
   ·have c2:¬bw≥qN p.dy 320 256:=gK;have e:pU p a l bw=⟨p.dy,p.n+1,decide (p.n+1=3)⟩:=(by unfold pU;rw[aG c,ay c2]);rw[e];have hn:=hp.n;refine ac (ah h rfl (ac ?_));rw[gi (n:=p.n+1)];refine aA h b [aB p.dy,aE (p.n+1),bc p.full] rfl rfl rfl λw h=>?_;refine ac (ah h rfl (ac ?_));refine aA h b [aB p.dy,aE (p.n+1),bc (decide (p.n+1=3))] rfl rfl rfl λw h=>?_;exact⟨trivial,h.aI⟩
  ·refine ae (λ_=>ac (ah h rfl ?_)) λc=>(by cases c);refine ae (λc=>?_) λc=>?_
   ·exact⟨c,h⟩
   ·have e:pU p a l bw=p:=(by unfold pU;rw[ay (by rw[c];simp)]);rw[e];exact⟨trivial,h⟩
theorem ph8{ph:Int}(h0:0≤ph)(h1:ph≤1000):(i64.wrap (ph.tmod 8+8)).tmod 8=ph%8:=by rw[FC h0,gi,FC (by omega)];omega
theorem Iw(b c)(aj ph:Int)(h0:0≤ph)(h1:ph≤1000):bu (QI (some ⟨b,0⟩) aj ph) (af b (ad.iV c)) (λ_=>af b (ad.iV ((Mu aj ph)))):=
 bC λw0 S R h=>by
  refine ae (λ_=>?_) λc=>(by cases c);rw[ph8 h0 h1];refine ac (aA h b [aE (ph%8),aB c.lg] rfl rfl rfl λw h=>?_);refine ac (aA h b [aE (ph%8),aB aj] rfl rfl rfl λw h=>?_);exact au.br (A:=af b (ad.iV ((Mu aj ph)))) h
def cE(c:Cy)(over:Bool)(bo fl up one:Int):Bool:=if c.ph=0 then over&&(decide (bo>0)||decide (fl≥up))else if c.ph=1 then over||decide (fl≤one)else over
theorem aaa(c)(aj bT bo fl up one:Int):cE c (decide (dX aj c.lg>bT)) bo fl up one=cB c aj bT bo fl up one:=rfl
theorem J0(b c over)(bo fl up one:Int):bu (Vv (some ⟨b,0⟩) over bo fl up one) (af b (ad.iV c)) (λx=>bs (x=cE c over bo fl up one) (af b (ad.iV c))):=
 bC λw0 S R h=>by
  refine ac (ah h rfl ?_);refine ae (λc1=>?_) λc1=>?_
  ·exact au.aH (by unfold cE;rw[aG (by simpa using c1)]) h.aI
  refine ae (λc2=>?_) λc2=>?_
  ·exact au.aH (by unfold cE;rw[ay (by simpa using c1),aG gK]) h.aI
  ·exact au.aH (by unfold cE;rw[ay (by simpa using c1),ay gK]) h.aI
theorem My(b c)(hc:yo c)(aj bT bo fl up one:Int)(hn:U aj):bu (Vj (some ⟨b,0⟩) aj bT bo fl up one) (af b (ad.iV c)) (λx=>af b (ad.iV ((cU c aj bT bo fl up one)))):=
 bC λw0 S R h=>by
  refine cS (λ_:Bool=>af b (ad.iV c)) (λ_:Bool=>True) (λ_=>0) h trivial ?_;rintro _ w _ h;refine aQ h (λ_=>af b (ad.iV c)) (λ_=>cB c aj bT bo fl up one=true) (λ_ w c1 h=>?_) ?_
  ·have hp:=hc.ph;refine ac (ah h rfl ?_);rw[gi (n:=c.ph+1)];refine ar (Iw b c aj (c.ph+1) (by omega) (by omega)) (h.le (aJ _)) λr w h=>?_;have e:cU c aj bT bo fl up one=Mu aj (c.ph+1):=(by unfold cU;rw[aG c1]);rw[e];exact h.br
  ·refine ae (λ_=>ac (ah h rfl ?_)) λc=>(by cases c);refine aK (jg aj c.lg hn hc.lg) h λw h=>?_;refine ar (J0 b c _ bo fl up one) h λr w h=>?_;obtain⟨hr,h⟩:=h.aP;rw[hr,aaa];refine ae (λc1=>?_) λc1=>?_
   ·exact⟨c1,h.aI⟩
   ·have e:cU c aj bT bo fl up one=c:=(by unfold cU;rw[c1];rfl);rw[e];exact h.aI
end LA

namespace Jq
open bH bp _root_.Go.X.Target gM
theorem P3(b v)(aj fl floor:Int)(st)(hn:U aj):bu (VD (some ⟨b,0⟩) aj st fl floor) (af b (ad.jk v))
  (λx=>bs (x=(CE v aj st fl floor).1) (af b (ad.jk ((CE v aj st fl floor).2)))):=
 bC λw0 S R h=>by
  refine ac (ah h rfl ?_);refine ae (λc1=>?_) λc1=>?_
  ·have c1:v.kj=0:=(by simpa using c1);refine ae (λc2=>?_) λc2=>?_
   ·have c2:fl≤floor:=gK;have e:CE v aj st fl floor=(false,{v with kj:=bJ aj 200000000,rd:=false}):=(by unfold CE;rw[aG c1,aG c2]);rw[e];refine aK (e_ aj 200000000 hn (bm _)) (h.le (aJ _)) λw h=>?_;refine ac (aA h b [aB v.dy,aB v.lg,bc v.on,aB (bJ aj 200000000),bc v.rd] rfl rfl rfl λw h=>?_);refine ac (aA h b [aB v.dy,aB v.lg,bc v.on,aB (bJ aj 200000000),bc false] rfl rfl rfl λw h=>?_);exact au.aH rfl h.aI
   ·have c2:¬fl≤floor:=gK;have e:CE v aj st fl floor=(false,v):=(by unfold CE;rw[aG c1,ay c2]);rw[e];exact au.aH rfl h.aI
  ·have c1:¬v.kj=0:=(by simpa using c1);refine ac (ah h rfl (ac ?_));refine aA h b [aB v.dy,aB v.lg,bc v.on,aB v.kj,bc (v.rd||st)] rfl rfl rfl λw h=>?_;have h:au w0 S R w (af b [aB v.dy,aB v.lg,bc v.on,aB v.kj,bc (v.rd||st)]):=h.aI;refine aQ h (λ_=>af b [aB v.dy,aB v.lg,bc v.on,aB v.kj,bc (v.rd||st)]) (λ_=>(v.rd||st)=true∧¬aj≤v.kj) (λ_ w hc h=>?_) ?_
   ·have e:CE v aj st fl floor=(true,{v with rd:=v.rd||st,lg:=aj,on:=false}):=(by unfold CE;rw[ay c1,ay (by rw[hc.1];simp),ay hc.2]);rw[e];refine ac (aA h b [aB v.dy,aB aj,bc v.on,aB v.kj,bc (v.rd||st)] rfl rfl rfl λw h=>?_);refine ac (aA h b [aB v.dy,aB aj,bc false,aB v.kj,bc (v.rd||st)] rfl rfl rfl λw h=>?_);exact au.aH rfl h.aI
   ·refine ac (ah h rfl ?_);refine ae (λc2=>?_) λc2=>?_
    ·have e:CE v aj st fl floor=(false,{v with rd:=v.rd||st}):=(by unfold CE;rw[ay c1,aG c2]);rw[e];exact au.aH rfl h.aI
    ·refine ac (ah h rfl ?_);refine ae (λc3=>?_) λc3=>?_
     ·have c3:aj≤v.kj:=(by simpa using c3);have e:CE v aj st fl floor=(false,{v with rd:=v.rd||st}):=(by unfold CE;rw[ay c1,ay (by rw[c2];simp),aG c3]);rw[e];exact au.aH rfl h.aI
     ·have c4:∀x:Bool,(!x)=false→x=true:=(by decide);exact⟨⟨c4 _ c2,by simpa using c3⟩,h⟩
theorem L0(b v)(hv:JC v)(aj bT fl floor:Int)(st)(hn:U aj)(hq:U bT):bu (Vw (some ⟨b,0⟩) aj bT st fl floor) (af b (ad.jk v))
  (λx=>bs (x=(bU v aj bT st fl floor).1) (af b (ad.jk ((bU v aj bT st fl floor).2)))):=
 bC λw0 S R h=>by
  refine cS (λ_:Bool×Bool=>af b (ad.jk v)) (λy:Bool×Bool=>y=(false,false)) (λ_=>0) h rfl ?_;rintro(⟨y1,y2⟩:Bool×Bool) w hy h;cases hy;refine ae (λ_=>?_) λc=>(by cases c);refine aQ h (λ_=>af b (ad.jk v)) (λy:Bool=>y=Bl v aj) (λ(y:Bool) w hy h=>?_) ?_
  ·rw[hy];refine aQ h (λ_=>af b (ad.jk ((lR v aj bT)))) (λ_=>True) (λ_ w _ h=>?_) ?_
   ·have on_eq:(lR v aj bT).on=v.on:=(by unfold lR;split<;>rfl);refine aQ h (λ_=>af b (ad.jk ((lR v aj bT)))) (λy:Bool=>y=(Bl v aj&&!v.on)) (λ(y:Bool) w hy h=>?_) ?_
    ·rw[hy];refine ae (λc=>?_) λc=>?_
     ·have e:bU v aj bT st fl floor=((true,false),{lR v aj bT with on:=true,kj:=0,rd:=false}):=(by unfold bU;rw[aG c]);rw[e];generalize lR v aj bT=u at*
      refine ac (aA h b [aB u.dy,aB u.lg,bc true,aB u.kj,bc u.rd] rfl rfl rfl λw h=>?_);refine ac (aA h b [aB u.dy,aB u.lg,bc true,aB 0,bc u.rd] rfl rfl rfl λw h=>?_);refine ac (aA h b [aB u.dy,aB u.lg,bc true,aB 0,bc false] rfl rfl rfl λw h=>?_);exact au.aH rfl h.aI
     ·refine ac (ah h rfl ?_);rw[on_eq];refine ae (λc2=>?_) λc2=>?_
      ·have e:bU v aj bT st fl floor=((false,(CE (lR v aj bT) aj st fl floor).1),(CE (lR v aj bT) aj st fl floor).2):=(by unfold bU;rw[ay (by rw[c];simp),aG c2]);rw[e];refine ar (P3 b (lR v aj bT) aj fl floor st hn) (h.le (aJ _)) λr w h=>?_;obtain⟨hr,h⟩:=h.aP;exact au.aH (by rw[hr]) h.aI
      ·have e:bU v aj bT st fl floor=((false,false),lR v aj bT):=(by unfold bU;rw[ay (by rw[c];simp),ay (by rw[c2];simp)]);rw[e];exact au.aH rfl h.aI
    ·refine ae (λc=>?_) λc=>?_
     ·refine ac (ah h rfl ?_);exact⟨by rw[on_eq,c];rfl,h⟩
     ·exact⟨by rw[c];rfl,h⟩
   ·refine aQ h (λ_=>af b (ad.jk v)) (λy:Bool=>y=yZ v aj bT) (λ(y:Bool) w hy h=>?_) ?_
    ·rw[hy];refine ae (λc=>?_) λc=>?_
     ·have e:lR v aj bT={v with dy:=bT,lg:=aj}:=(by unfold lR;rw[aG c]);rw[e];refine ac (aA h b [aB bT,aB v.lg,bc v.on,aB v.kj,bc v.rd] rfl rfl rfl λw h=>?_);refine ac (aA h b [aB bT,aB aj,bc v.on,aB v.kj,bc v.rd] rfl rfl rfl λw h=>?_);exact⟨trivial,h.aI⟩
     ·have e:lR v aj bT=v:=(by unfold lR;rw[ay (by rw[c];simp)]);rw[e];exact⟨trivial,h⟩
    ·refine ae (λc=>?_) λc=>?_
     ·refine ac (ah h rfl ?_);refine ae (λc2=>?_) λc2=>?_
      ·exact⟨by unfold yZ;rw[show decide (bT>0)=true from c,show decide (v.dy=0)=true by simpa using c2];rfl,h⟩
      ·refine ac (ah h rfl ?_);exact⟨by unfold yZ;rw[show decide (bT>0)=true from c,show decide (v.dy=0)=false by simpa using c2];rfl,h⟩
     ·exact⟨by unfold yZ;rw[show decide (bT>0)=false from c];rfl,h⟩
  ·refine ac (ah h rfl ?_);refine ae (λc=>?_) λc=>?_
   ·refine ac (ah h rfl ?_);refine ar (e_ v.lg 10000000000 hv.lg (bm _)) (h.le (aJ _)) λr w h=>?_;obtain⟨hr,h⟩:=h.aP;exact⟨by rw[hr];unfold Bl;rw[show decide (v.dy>0)=true from c];rfl,h.aI⟩
   ·exact⟨by unfold Bl;rw[show decide (v.dy>0)=false from c];rfl,h⟩
theorem zA(b q s):bu (QH (some ⟨b,0⟩) s) (af b (ad.gz q)) (λ_=>af b (ad.gz ((lr q s)))):=
 bC λw0 S R h=>by
  refine aD h λn w h=>?_;refine aM h λw h=>ah h rfl (ah h rfl (ac (ah h rfl (ac ?_))));refine aA h b [bc q.jh,bc true,aB q.bw,aE q.n,aB q.bo,aB q.t0,aB q.d0,aB q.l0] rfl rfl rfl λw h=>?_;refine aN h rfl (aN h rfl (ac ?_));refine aA h b [bc q.jh,bc true,aB q.bw,aE 0,aB q.bo,aB q.t0,aB q.d0,aB q.l0] rfl rfl rfl λw h=>?_;refine aN h rfl (aN h rfl (ac ?_));refine aA h b [bc q.jh,bc true,aB q.bw,aE 0,aB q.bo,aB (iT s),aB (gO s),aB q.bo] rfl rfl rfl λw h=>?_;exact au.br (A:=af b (ad.gz ((lr q s)))) h
theorem uL(b q):bu (Mp (some ⟨b,0⟩)) (af b (ad.gz q)) (λ_=>af b (ad.gz ((gH q)))):=
 bC λw0 S R h=>by
  refine ac (aA h b [bc false,bc q.vd,aB q.bw,aE q.n,aB q.bo,aB q.t0,aB q.d0,aB q.l0] rfl rfl rfl λw h=>?_);refine ac (aA h b [bc false,bc false,aB q.bw,aE q.n,aB q.bo,aB q.t0,aB q.d0,aB q.l0] rfl rfl rfl λw h=>?_);refine ac (aA h b [bc false,bc false,aB 0,aE q.n,aB q.bo,aB q.t0,aB q.d0,aB q.l0] rfl rfl rfl λw h=>?_);exact au.br (A:=af b (ad.gz ((gH q)))) h
theorem LO{a b:Int}(ha:U a)(hb:U b):u64.wrap ((if b>a then b else a)-(if b<a then b else a))=apart a b:=by
 unfold U apart at*
 by_cases h:a<b
 ·rw[aG (show b>a by omega),ay (show ¬b<a by omega),aG h,ja]
 ·rw[ay (show ¬b>a by omega),ay h];split
  ·rw[ja]
  ·rw[ja];omega
theorem JN(a b:Int)(ha:U a)(hb:U b):bu (VB a b) bg (λx=>bs (x=apart a b) bg):=
 bC λw0 S R h=>by exact au.aH (LO ha hb) h.aI
theorem U8{w:Int}(h:U w):u64.wrap (w.tdiv 8)=w/8:=by unfold U at h;rw[mD h.1,ja]
theorem Kt(b q)(hq:ry q)(s)(hs:oi s):bu (VA (some ⟨b,0⟩) s) (af b (ad.gz q))
  (λx=>bs (x=match oB q s with|none=>(0,false)|some r=>(r,true)) (af b (ad.gz q))):=
 bC λw0 S R h=>by
  refine aD h λn w h=>?_;have h:au w0 S R w (af n (Ks.mk aW s)^af b (ad.gz q)^bg):=h.le (bi Le.rfl (aJ _));refine aM h λw h=>ah h rfl (ac (ac (ac (ah h rfl (ac (ah h rfl (ah h rfl (ah h rfl (ah h rfl ?_)))))))));refine aK (jg (gO s) q.d0 hs.del hq.d0) h λw h=>?_;refine aN h rfl (aN h rfl (aN h rfl (aN h rfl ?_)));refine aK (jg q.bo q.l0 hq.bo hq.l0) h λw h=>?_;refine aN h rfl (aN h rfl ?_);refine aK (jg (iT s) q.t0 hs.aj hq.t0) h λw h=>?_;refine ae (λc=>?_) λc=>?_
  ·have c:dX (gO s) q.d0=0∨dX (iT s) q.t0=0:=cC;have e:oB q s=none:=(by unfold oB;rw[aG c]);rw[e];exact au.aH rfl h.aI
  have c:¬(dX (gO s) q.d0=0∨dX (iT s) q.t0=0):=λhh=>by rcases hh with hh|hh<;>simp[hh]at c
  refine aK (uO (dX (gO s) q.d0) 50 256 (nB hs.del hq.d0) (bm _) (bm _)) h λw h=>?_;refine ae (λc2=>?_) λc2=>?_
  ·have c2:dX q.bo q.l0<qN (dX (gO s) q.d0) 50 256:=gK;have e:oB q s=none:=(by unfold oB;rw[ay c,aG c2]);rw[e];exact au.aH rfl h.aI
  have c2:¬dX q.bo q.l0<qN (dX (gO s) q.d0) 50 256:=gK;refine aK (uO (dX (gO s) q.d0) 1000000000 (dX (iT s) q.t0) (nB hs.del hq.d0) (bm _) (nB hs.aj hq.t0)) h λw h=>?_;have e:oB q s=some (qN (dX (gO s) q.d0) 1000000000 (dX (iT s) q.t0)):=by unfold oB;rw[ay c,ay c2]
  rw[e];exact au.aH rfl h.aI
theorem Zp(a b:Int)(ha:U a)(hb:U b):((BitVec.ofInt u64.bits (u64.wrap ((BitVec.ofInt u64.bits a&&&BitVec.ofInt u64.bits b).toNat:Int))&&&BitVec.ofInt u64.bits (1:Int)).toNat:Int)=(a%2+b%2)/2:=by
 show((BitVec.ofInt 64 (u64.wrap ((BitVec.ofInt 64 a&&&BitVec.ofInt 64 b).toNat:Int))&&&BitVec.ofInt 64 1).toNat:Int)=_;obtain⟨x,hx⟩:∃x,(BitVec.ofInt 64 a&&&BitVec.ofInt 64 b).toNat=x:=⟨_,rfl⟩;have hx2:x%2=(a.toNat&&&b.toNat)%2:=by rw[←hx,Ho,XF ha,XF hb]
 have hlt:x<18446744073709551616:=by rw[←hx];exact BitVec.isLt _
 rw[hx,ja];rw[Ho,XF (show U (x:Int) by unfold U;omega),show(BitVec.ofInt 64 1).toNat=2^1-1 by decide,NY];have h3:(a.toNat&&&b.toNat)%2=(a.toNat%2)*(b.toNat%2):=by
  have e:=Nat.and_mod_two_pow (a:=a.toNat) (b:=b.toNat) (n:=1);rw[show(2:Nat)^1=2 from rfl]at e;rw[e];have h1:a.toNat%2=0∨a.toNat%2=1:=by omega
  have h2:b.toNat%2=0∨b.toNat%2=1:=by omega
  rcases h1 with h1|h1<;>rcases h2 with h2|h2<;>rw[h1,h2]<;>rfl
 show((((x:Int).toNat)%2:Nat):Int)=_;rw[eX,hx2,h3];unfold U at ha hb;have h1:a%2=0∨a%2=1:=by omega
 have h2:b%2=0∨b%2=1:=by omega
 rcases h1 with h1|h1<;>rcases h2 with h2|h2
 ·rw[show a.toNat%2=0 by omega,h1,h2];simp
 ·rw[show a.toNat%2=0 by omega,h1,h2];simp
 ·rw[show b.toNat%2=0 by omega,h1,h2];simp
 ·rw[show a.toNat%2=1 by omega,show b.toNat%2=1 by omega,h1,h2];simp
theorem TE{a b:Int}(ha:U a)(hb:U b):u64.wrap ((u64.wrap ((u64.wrap (a.tdiv (2:Int)))+(u64.wrap (b.tdiv (2:Int)))))+(u64.wrap (BitVec.ofInt u64.bits (u64.wrap (BitVec.ofInt u64.bits a&&&BitVec.ofInt u64.bits b).toNat)&&&BitVec.ofInt u64.bits (1:Int)).toNat))=JO a b:=by
 rw[Zp a b ha hb,mD ha.1,mD hb.1];unfold U JO at*
 simp only[wm];omega
theorem Nf(b q)(hq:ry q)(s)(hs:oi s):bu (Vt (some ⟨b,0⟩) s) (af b (ad.gz q)) (λ_=>af b (ad.gz ((tP q s)))):=
 bC λw0 S R h=>by
  refine aD h λn w h=>?_;refine aw (x:=s) h rfl ?_;refine ar (Kt b q hq s hs) h λr w h=>?_;obtain⟨hr,h⟩:=h.aP;rw[hr];cases hm:oB q s with
  |none=>
   have e:tP q s=q:=(by unfold tP;rw[hm]);rw[e];refine ae (λc=>?_) λc=>(by cases c);exact h.aI
  |some r=>
   have e:tP q s=xh q s r:=(by unfold tP;rw[hm]);rw[e];have hU:=Gf hq hs hm;refine ae (λc=>(by cases c)) λc=>?_;show join _ _ _ _;refine aQ h (λ_=>af b (ad.gz q)^af n (Ks.mk aW s)) (λy:Bool=>y=decide (q.bw>0∧apart q.bw r≤q.bw/8)) (λ(y:Bool) w hy h=>?_) ?_
   ·rw[hy];refine ae (λc=>?_) λc=>?_
    ·have c:q.bw>0∧apart q.bw r≤q.bw/8:=cC;have e:xh q s r={q with bw:=JO q.bw r,jh:=true,n:=0}:=(by unfold xh;rw[aG c]);rw[e];refine aM h λw h=>ac (ac (ah h rfl (ah h rfl (ac ?_))));dsimp only;rw[TE hq.bw hU];refine aA h b [bc q.jh,bc q.vd,aB (JO q.bw r),aE q.n,aB q.bo,aB q.t0,aB q.d0,aB q.l0] rfl rfl rfl λw h=>?_;refine ac (aA h b [bc true,bc q.vd,aB (JO q.bw r),aE q.n,aB q.bo,aB q.t0,aB q.d0,aB q.l0] rfl rfl rfl λw h=>?_);refine ac (aA h b [bc true,bc q.vd,aB (JO q.bw r),aE 0,aB q.bo,aB q.t0,aB q.d0,aB q.l0] rfl rfl rfl λw h=>?_);exact h.br
    ·have c:¬(q.bw>0∧apart q.bw r≤q.bw/8):=cC;have e:xh q s r=lr {q with bw:=r} s:=(by unfold xh;rw[ay c]);rw[e];refine ac (aA h b (ad.gz ({q with bw:=r})) rfl rfl rfl λw h=>?_);refine aw (x:=s) h rfl ?_;refine ar (zA b {q with bw:=r} s) h λ_ w h=>?_;exact h.br
   ·refine aM h λw h=>ac (ah h rfl ?_);refine ae (λc=>?_) λc=>?_
    ·have c:q.bw>0:=cC;refine ac (ac (ah h rfl (ah h rfl ?_)));refine ar (JN q.bw r hq.bw hU) (h.le ((bi Le.rfl (aJ _)))) λx w h=>?_;obtain⟨hx,h⟩:=h.aP;rw[hx,U8 hq.bw];refine aN h rfl ?_;exact⟨by simp[c],h.aI⟩
    ·have c:¬q.bw>0:=cC;exact⟨by simp[c],h.aI⟩
theorem Jg(h:ry q)(o)(hn:(gy q o).jh=false→(gy q o).n≤16)(hu:(gy q o).jh=false):ry (gy q o):=by
 cases o with
 |false=>exact h
 |true=>
  have h0:=h.n.1;have h1:=hn hu;have hu:q.jh=false:=hu;have h1:q.n+1≤16:=h1;exact⟨h.bw,⟨(by show 0≤q.n+1;omega),(by show q.n+1≤48;omega)⟩,h.bo,h.t0,h.d0,h.l0,(λhh=>by have hh:q.jh=true:=hh;rw[hu]at hh;cases hh),λ_ _=>h1⟩
theorem Nn(b q)(hq:ry q)(o s)(hs:oi s):bu (Vh (some ⟨b,0⟩) o s) (af b (ad.gz q)) (λ_=>af b (ad.gz ((yk q o s)))):=
  bC λw0 S R h=>by
    refine aD h λn w h=>?_;have h:au w0 S R w (af n (Ks.mk aW s)^af b (ad.gz q)^bg):=h.le (bi Le.rfl (aJ _));refine cS (λ_:Unit=>af n (Ks.mk aW s)^af b (ad.gz q)^bg) (λ_:Unit=>True) (λ_=>0) h trivial ?_;rintro _ w _ h;refine ae (λ_=>?_) λc=>(by cases c);refine aM h λw h=>ac (ah h rfl (ah h rfl ?_));refine aK (e_ q.bo (gT s) hq.bo hs.bo) h λw h=>?_;refine ac (aA h b (ad.gz ((ml q s))) rfl rfl rfl λw h=>?_);have hq1:=hq.add hs;have hu:(ml q s).jh=q.jh:=rfl;have hm:(ml q s).vd=q.vd:=rfl;have hdef:yk q o s=if(ml q s).jh=false∧(ml q s).vd=false then(if gT s>0 then lr (ml q s) s else ml q s)
        else if(ml q s).jh=false∧rG s=true then gH (ml q s)else Dh (gy (ml q s) o) o s:=rfl
    rw[hdef];generalize ml q s=u at*
    have h:au w0 S R w (af n (Ks.mk aW s)^af b (ad.gz u)):=h.aI;refine aQ h (λ_=>af n (Ks.mk aW s)^af b (ad.gz u)) (λy:Bool=>y=decide (u.jh=false∧u.vd=false)) (λ(y:Bool) w hy h=>?_) ?_
    · rw[hy]
      refine ae (λc=>?_) λc=>?_
      · have c:u.jh=false∧u.vd=false:=cC
        rw[aG c];refine ah h rfl ?_;refine ae (λc2=>?_) λc2=>?_
        · have c2:gT s>0:=gK
          rw[aG c2];refine aw (x:=s) h rfl ?_;refine ar (zA b u s) (h.le (bi Le.rfl (aJ _))) λ_ w h=>?_;exact h.br
        · have c2:¬gT s>0:=gK
          rw[ay c2];exact h.aI
      have c:¬(u.jh=false∧u.vd=false):=cC;rw[ay c];refine aQ h (λ_=>af n (Ks.mk aW s)^af b (ad.gz u)) (λ_=>¬(u.jh=false∧rG s=true)) (λ_ w c2 h=>?_) ?_
      · rw[ay c2]
        have hn:=hq1.n;refine aQ h (λ_=>af n (Ks.mk aW s)^af b (ad.gz ((gy u o)))) (λ_=>True) (λ_ w _ h=>?_) ?_
        · have ht:=Jg hq1 o
          generalize gy u o=v at*
          refine ac (ah h rfl ?_);refine ae (λc3=>?_) λc3=>?_
          · have c3:v.jh=true:=c3
            refine aQ h (λ_=>af n (Ks.mk aW s)^af b (ad.gz v)) (λy:Bool=>y=decide (o=true∧v.n=48)) (λ(y:Bool) w hy h=>?_) ?_
            · rw[hy]
              refine ae (λc4=>?_) λc4=>?_
              · have c4:o=true∧v.n=48:=by simpa using c4
                have e:Dh v o s={gH v with n:=0}:=(by unfold Dh;rw[aG c3,aG c4]);rw[e];refine ar (uL b v) (h.le (bi Le.rfl (aJ _))) λ_ w h=>?_;refine ac (aA h b (ad.gz ({gH v with n:=0})) rfl rfl rfl λw h=>?_);exact h.br
              · have c4:¬(o=true∧v.n=48):=by simpa using c4
                have e:Dh v o s=v:=(by unfold Dh;rw[aG c3,ay c4]);rw[e];exact h.aI
            · refine ae (λc4=>?_) λc4=>?_
              · refine ac (ah h rfl ?_)
                have c4:o=true:=c4;exact⟨by rw[c4,jG];simp,h⟩
              · have c4:o=false:=c4
                exact⟨by rw[c4];rfl,h⟩
          have c3:¬v.jh=true:=(by rw[show v.jh=false from c3];simp);have c3':v.jh=false:=(by simpa using c3);refine ac (ah h rfl ?_);refine ae (λc4=>?_) λc4=>?_
          · have c4:v.n>16:=by simpa using c4
            have e:Dh v o s=gH v:=(by unfold Dh;rw[ay c3,aG c4]);rw[e];refine ar (uL b v) (h.le (bi Le.rfl (aJ _))) λ_ w h=>?_;exact h.br
          have c4:¬v.n>16:=(by simpa using c4);refine aQ h (λ_=>af n (Ks.mk aW s)^af b (ad.gz v)) (λy:Bool=>y=decide (v.n≥4∧gT s>0)) (λ(y:Bool) w hy h=>?_) ?_
          · rw[hy]
            refine ae (λc5=>?_) λc5=>?_
            · have c5:v.n≥4∧gT s>0:=by simpa using c5
              have e:Dh v o s=tP v s:=(by unfold Dh;rw[ay c3,ay c4,aG c5]);rw[e];refine aw (x:=s) h rfl ?_;refine ar (Nf b v (ht (λ_=>by omega) c3') s hs) (h.le (bi Le.rfl (aJ _))) λ_ w h=>?_;exact h.br
            · have c5:¬(v.n≥4∧gT s>0):=by simpa using c5
              have e:Dh v o s=v:=(by unfold Dh;rw[ay c3,ay c4,ay c5]);rw[e];exact h.aI
          · refine ac (ah h rfl ?_)
            refine ae (λc5=>?_) λc5=>?_
            · refine ah h rfl ?_
              have c5:v.n≥4:=(by simpa using c5);exact⟨by rw[jG];simp[c5],h⟩
            · have c5:¬v.n≥4:=by simpa using c5
              exact⟨by simp[c5],h⟩
        · refine ae (λc3=>?_) λc3=>?_
          · have c3:o=true:=c3
            have e:gy u o={u with n:=u.n+1}:=(by unfold gy;rw[aG c3]);rw[e];refine ac (ah h rfl (ac ?_));rw[gi (n:=u.n+1)];refine aA h b (ad.gz ({u with n:=u.n+1})) rfl rfl rfl λw h=>?_;exact⟨trivial,h.aI⟩
          · have c3:o=false:=c3
            have e:gy u o=u:=(by unfold gy;rw[c3];rfl);rw[e];exact⟨trivial,h⟩
      · refine ac (ah h rfl ?_)
        refine ae (λc2=>?_) λc2=>?_
        · have c2:u.jh=false:=gK
          refine ah h rfl ?_;refine ae (λc3=>?_) λc3=>?_
          · rw[aG ⟨c2,c3⟩]
            refine ar (uL b u) (h.le (bi Le.rfl (aJ _))) λ_ w h=>?_;exact h.br
          · exact⟨λhh=>by
             have:rG s=false:=c3;rw[this]at hh;simp at hh,h⟩
        · have c2:u.jh=true:=gK
          exact⟨(λhh=>by rw[c2]at hh;simp at hh),h⟩
    · refine ac (ah h rfl ?_)
      refine ae (λc=>?_) λc=>?_
      · have c:u.jh=false:=cC
        refine ac (ah h rfl ?_);exact⟨by rw[c];cases u.vd<;>rfl,h⟩
      · have c:u.jh=true:=cC
        exact⟨by rw[c];rfl,h⟩
end Jq

namespace Jr
open bH bp _root_.Go.X.Target gM fK Js Jt LA Jq
theorem jD(n:Int):bu (P5 n) bg (λr=>ex λx:Nat×Nat×Nat×Nat×Nat×Nat×Nat=>match x with|(b,n1,n2,n3,n4,n5,n6)=>bs (r=some ⟨b,0⟩) (af b (ad.ig n1 n2 n3 n4 n5 n6 ((mM n)))^af n1 (ad.gD ((mM n).w))^af n2 (ad.jK ((mM n).r))^af n3 (ad.jA ((mM n).p))^af n4 (ad.iV ((mM n).c))^af n5 (ad.jk ((mM n).b))^af n6 (ad.gz ((mM n).q)))):=
 bC λw0 S R h=>by
  refine ar (Pv 10) h λr w h=>?_;obtain⟨n1,h⟩:=h.lV;obtain⟨hr,h⟩:=h.aP;rw[hr];refine ar AL h λr w h=>?_;obtain⟨n2,h⟩:=h.lV;obtain⟨hr,h⟩:=h.aP;rw[hr];refine ar NO h λr w h=>?_;obtain⟨n3,h⟩:=h.lV;obtain⟨hr,h⟩:=h.aP;rw[hr];refine ar zb h λr w h=>?_;obtain⟨n4,h⟩:=h.lV;obtain⟨hr,h⟩:=h.aP;rw[hr];refine ar y6 h λr w h=>?_;obtain⟨n5,h⟩:=h.lV;obtain⟨hr,h⟩:=h.aP;rw[hr];refine ar zH h λr w h=>?_;obtain⟨n6,h⟩:=h.lV;obtain⟨hr,h⟩:=h.aP;rw[hr];have hm:=IZ n;refine aD h λb w h=>?_;change au w0 S R w (af b [.ptr (some ⟨n1,0⟩),.ptr (some ⟨n2,0⟩),.ptr (some ⟨n3,0⟩),.ptr (some ⟨n4,0⟩),.ptr (some ⟨n5,0⟩),.ptr (some ⟨n6,0⟩),aB (nn n),aE 0,aB 0,aB 0,aB 0,bc false,bc false,aB 0]^_)at h;change aC _ (λq8=>st _ [aB (u64.wrap (10*nn n))] _) w;rw[ja (n:=10*nn n)];refine ac (aA h b [.ptr (some ⟨n1,0⟩),.ptr (some ⟨n2,0⟩),.ptr (some ⟨n3,0⟩),.ptr (some ⟨n4,0⟩),.ptr (some ⟨n5,0⟩),.ptr (some ⟨n6,0⟩),aB (nn n),aE 0,aB 0,aB (10*nn n),aB 0,bc false,bc false,aB 0] rfl rfl rfl λw h=>?_);refine ac (ah h rfl ?_);rw[ja (n:=10*nn n*1000)];refine aK (wc (10*nn n*1000) 739 ⟨by omega,by omega⟩ (bm _)) h λw h=>?_;refine ac (aA h b (ad.ig n1 n2 n3 n4 n5 n6 ((mM n))) rfl rfl rfl λw h=>?_);exact au.ie (b,n1,n2,n3,n4,n5,n6) (au.aH rfl h.aI)
section
variable (b n1 n2 n3 n4 n5 n6:Nat) (m:Md)
theorem y9:bu (Gr (some ⟨b,0⟩)) (af b (ad.ig n1 n2 n3 n4 n5 n6 m)^af n1 (ad.gD m.w)^af n2 (ad.jK m.r)^af n3 (ad.jA m.p)^af n4 (ad.iV m.c)^af n5 (ad.jk m.b)^af n6 (ad.gz m.q)) (λr=>bs (r=zJ m) (af b (ad.ig n1 n2 n3 n4 n5 n6 m)^af n1 (ad.gD m.w)^af n2 (ad.jK m.r)^af n3 (ad.jA m.p)^af n4 (ad.iV m.c)^af n5 (ad.jk m.b)^af n6 (ad.gz m.q))):=
 bC λw0 S R h=>by
  repeat' (first
   |(refine aM h λw h=>?_)
   |(refine ac ?_)
   |(refine aw h rfl ?_)
   |(refine ah h rfl ?_)
   |(refine aO h ?_)
   |(refine aN h rfl ?_)
   |(refine az h (by rfl) λw h=>?_)
   |(refine aD h λn w h=>?_)
   |(refine aT h λw h=>?_)
   |(refine bh h rfl λw h=>?_;dsimp only[dE,over]at h)
   |(refine ar (E9 n6 m.q) h λr w h=>?_;obtain⟨hr,h⟩:=h.aP;(try dsimp only at hr h);try rw[hr]))
  refine ae (λc=>?_) λc=>?_
  ·have c:m.q.jh=true:=c;exact au.aH (by unfold zJ;rw[c];rfl) h.aI
  ·have c:m.q.jh=false:=c;repeat' (first
    |(refine aM h λw h=>?_)
    |(refine ac ?_)
    |(refine aw h rfl ?_)
    |(refine ah h rfl ?_)
    |(refine aO h ?_)
    |(refine aN h rfl ?_)
    |(refine az h (by rfl) λw h=>?_)
    |(refine aD h λn w h=>?_)
    |(refine aT h λw h=>?_)
    |(refine bh h rfl λw h=>?_;dsimp only[dE,over]at h)
    |(refine ar (y5 n1 m.w) h λr w h=>?_;obtain⟨hr,h⟩:=h.aP;(try dsimp only at hr h);try rw[hr]))
   exact au.aH (by unfold zJ;rw[c];rfl) h.aI
theorem Df:bu (Me (some ⟨b,0⟩)) (af b (ad.ig n1 n2 n3 n4 n5 n6 m)^af n1 (ad.gD m.w)^af n2 (ad.jK m.r)^af n3 (ad.jA m.p)^af n4 (ad.iV m.c)^af n5 (ad.jk m.b)^af n6 (ad.gz m.q)) (λr=>bs (r=m.q.jh) (af b (ad.ig n1 n2 n3 n4 n5 n6 m)^af n1 (ad.gD m.w)^af n2 (ad.jK m.r)^af n3 (ad.jA m.p)^af n4 (ad.iV m.c)^af n5 (ad.jk m.b)^af n6 (ad.gz m.q))):=
 bC λw0 S R h=>by
  repeat' (first
   |(refine aM h λw h=>?_)
   |(refine ac ?_)
   |(refine aw h rfl ?_)
   |(refine ah h rfl ?_)
   |(refine aO h ?_)
   |(refine aN h rfl ?_)
   |(refine az h (by rfl) λw h=>?_)
   |(refine aD h λn w h=>?_)
   |(refine aT h λw h=>?_)
   |(refine bh h rfl λw h=>?_;dsimp only[dE,over]at h)
   |(refine ar (E9 n6 m.q) h λr w h=>?_;obtain⟨hr,h⟩:=h.aP;(try dsimp only at hr h);try rw[hr]))
  exact au.aH rfl h.aI
theorem BS:bu (Qo (some ⟨b,0⟩)) (af b (ad.ig n1 n2 n3 n4 n5 n6 m)^af n1 (ad.gD m.w)^af n2 (ad.jK m.r)^af n3 (ad.jA m.p)^af n4 (ad.iV m.c)^af n5 (ad.jk m.b)^af n6 (ad.gz m.q)) (λr=>bs (r=fF m) (af b (ad.ig n1 n2 n3 n4 n5 n6 m)^af n1 (ad.gD m.w)^af n2 (ad.jK m.r)^af n3 (ad.jA m.p)^af n4 (ad.iV m.c)^af n5 (ad.jk m.b)^af n6 (ad.gz m.q))):=
 bC λw0 S R h=>by
  repeat' (first
   |(refine aM h λw h=>?_)
   |(refine ac ?_)
   |(refine aw h rfl ?_)
   |(refine ah h rfl ?_)
   |(refine aO h ?_)
   |(refine aN h rfl ?_)
   |(refine az h (by rfl) λw h=>?_)
   |(refine aD h λn w h=>?_)
   |(refine aT h λw h=>?_)
   |(refine bh h rfl λw h=>?_;dsimp only[dE,over]at h))
  refine ae (λc=>?_) λc=>?_
  ·exact au.aH (by unfold fF;rw[aG cC]) h.aI
  repeat' (first
   |(refine aM h λw h=>?_)
   |(refine ac ?_)
   |(refine aw h rfl ?_)
   |(refine ah h rfl ?_)
   |(refine aO h ?_)
   |(refine aN h rfl ?_)
   |(refine az h (by rfl) λw h=>?_)
   |(refine aD h λn w h=>?_)
   |(refine aT h λw h=>?_)
   |(refine bh h rfl λw h=>?_;dsimp only[dE,over]at h))
  refine ae (λc2=>?_) λc2=>?_
  ·exact au.aH (by unfold fF;rw[ay cC,aG gK]) h.aI
  have e:fF m=if m.mode=2∧m.q.jh=false then cG m.c else 256:=by unfold fF;rw[ay cC,ay gK]
  rw[e];refine aQ h (λ_=>af b (ad.ig n1 n2 n3 n4 n5 n6 m)^af n1 (ad.gD m.w)^af n2 (ad.jK m.r)^af n3 (ad.jA m.p)^af n4 (ad.iV m.c)^af n5 (ad.jk m.b)^af n6 (ad.gz m.q)) (λy:Bool=>y=decide (m.mode=2∧m.q.jh=false)) (λ(y:Bool) w hy h=>?_) ?_
  ·rw[hy];refine ae (λc3=>?_) λc3=>?_
   ·have c3:m.mode=2∧m.q.jh=false:=(by simpa using c3);rw[aG c3];repeat' (first
     |(refine aM h λw h=>?_)
     |(refine ac ?_)
     |(refine aw h rfl ?_)
     |(refine ah h rfl ?_)
     |(refine aO h ?_)
     |(refine aN h rfl ?_)
     |(refine az h (by rfl) λw h=>?_)
     |(refine aD h λn w h=>?_)
     |(refine aT h λw h=>?_)
     |(refine bh h rfl λw h=>?_;dsimp only[dE,over]at h)
     |(refine ar (MR n4 m.c) h λr w h=>?_;obtain⟨hr,h⟩:=h.aP;(try dsimp only at hr h);try rw[hr]))
    exact au.aH rfl h.aI
   ·have c3:¬(m.mode=2∧m.q.jh=false):=(by simpa using c3);rw[ay c3];exact au.aH rfl h.aI
  ·repeat' (first
    |(refine aM h λw h=>?_)
    |(refine ac ?_)
    |(refine aw h rfl ?_)
    |(refine ah h rfl ?_)
    |(refine aO h ?_)
    |(refine aN h rfl ?_)
    |(refine az h (by rfl) λw h=>?_)
    |(refine aD h λn w h=>?_)
    |(refine aT h λw h=>?_)
    |(refine bh h rfl λw h=>?_;dsimp only[dE,over]at h))
   refine ae (λc3=>?_) λc3=>?_
   ·have c3:m.mode=2:=(by simpa using c3);repeat' (first
     |(refine aM h λw h=>?_)
     |(refine ac ?_)
     |(refine aw h rfl ?_)
     |(refine ah h rfl ?_)
     |(refine aO h ?_)
     |(refine aN h rfl ?_)
     |(refine az h (by rfl) λw h=>?_)
     |(refine aD h λn w h=>?_)
     |(refine aT h λw h=>?_)
     |(refine bh h rfl λw h=>?_;dsimp only[dE,over]at h)
     |(refine ar (Df b n1 n2 n3 n4 n5 n6 m) h λr w h=>?_;obtain⟨hr,h⟩:=h.aP;(try dsimp only at hr h);try rw[hr]))
    exact⟨by rw[jG];simp[c3],h.aI⟩
   ·have c3:¬m.mode=2:=(by simpa using c3);exact⟨by simp[c3],h.aI⟩
theorem Lq:bu (Vy (some ⟨b,0⟩)) (af b (ad.ig n1 n2 n3 n4 n5 n6 m)^af n1 (ad.gD m.w)^af n2 (ad.jK m.r)^af n3 (ad.jA m.p)^af n4 (ad.iV m.c)^af n5 (ad.jk m.b)^af n6 (ad.gz m.q)) (λr=>bs (r=jY m) (af b (ad.ig n1 n2 n3 n4 n5 n6 m)^af n1 (ad.gD m.w)^af n2 (ad.jK m.r)^af n3 (ad.jA m.p)^af n4 (ad.iV m.c)^af n5 (ad.jk m.b)^af n6 (ad.gz m.q))):=
 bC λw0 S R h=>by
  repeat' (first
   |(refine aM h λw h=>?_)
   |(refine ac ?_)
   |(refine aw h rfl ?_)
   |(refine ah h rfl ?_)
   |(refine aO h ?_)
   |(refine aN h rfl ?_)
   |(refine az h (by rfl) λw h=>?_)
   |(refine aD h λn w h=>?_)
   |(refine aT h λw h=>?_)
   |(refine bh h rfl λw h=>?_;dsimp only[dE,over]at h))
  refine ae (λc=>?_) λc=>?_
  ·exact au.aH (by unfold jY;rw[aG cC]) h.aI
  refine ae (λc2=>?_) λc2=>?_
  ·exact au.aH (by unfold jY;rw[ay cC,aG gK]) h.aI
  ·exact au.aH (by unfold jY;rw[ay cC,ay gK]) h.aI
theorem w5(hm:gr m):bu (Mq (some ⟨b,0⟩)) (af b (ad.ig n1 n2 n3 n4 n5 n6 m)^af n1 (ad.gD m.w)^af n2 (ad.jK m.r)^af n3 (ad.jA m.p)^af n4 (ad.iV m.c)^af n5 (ad.jk m.b)^af n6 (ad.gz m.q)) (λr=>bs (r=jw m) (af b (ad.ig n1 n2 n3 n4 n5 n6 m)^af n1 (ad.gD m.w)^af n2 (ad.jK m.r)^af n3 (ad.jA m.p)^af n4 (ad.iV m.c)^af n5 (ad.jk m.b)^af n6 (ad.gz m.q))):=
 bC λw0 S R h=>by
  repeat' (first
   |(refine aM h λw h=>?_)
   |(refine ac ?_)
   |(refine aw h rfl ?_)
   |(refine ah h rfl ?_)
   |(refine aO h ?_)
   |(refine aN h rfl ?_)
   |(refine az h (by rfl) λw h=>?_)
   |(refine aD h λn w h=>?_)
   |(refine aT h λw h=>?_)
   |(refine bh h rfl λw h=>?_;dsimp only[dE,over]at h))
  have:=hm.bt;exact au.aH (ja) h.aI
theorem y4(hm:gr m)(g:Int)(hg:U g):bu (Mo (some ⟨b,0⟩) g) (af b (ad.ig n1 n2 n3 n4 n5 n6 m)^af n1 (ad.gD m.w)^af n2 (ad.jK m.r)^af n3 (ad.jA m.p)^af n4 (ad.iV m.c)^af n5 (ad.jk m.b)^af n6 (ad.gz m.q)) (λr=>bs (r=sv m g) (af b (ad.ig n1 n2 n3 n4 n5 n6 m)^af n1 (ad.gD m.w)^af n2 (ad.jK m.r)^af n3 (ad.jA m.p)^af n4 (ad.iV m.c)^af n5 (ad.jk m.b)^af n6 (ad.gz m.q))):=
 bC λw0 S R h=>by
  have h:au w0 S R w0 ((af b (ad.ig n1 n2 n3 n4 n5 n6 m)^af n1 (ad.gD m.w)^af n2 (ad.jK m.r)^af n3 (ad.jA m.p)^af n4 (ad.iV m.c)^af n5 (ad.jk m.b)^af n6 (ad.gz m.q))^bg):=h.le (aJ _);repeat' (first
   |(refine aM h λw h=>?_)
   |(refine ac ?_)
   |(refine aw h rfl ?_)
   |(refine ah h rfl ?_)
   |(refine aO h ?_)
   |(refine aN h rfl ?_)
   |(refine az h (by rfl) λw h=>?_)
   |(refine aD h λn w h=>?_)
   |(refine aT h λw h=>?_)
   |(refine bh h rfl λw h=>?_;dsimp only[dE,over]at h)
   |(refine ar (y9 b n1 n2 n3 n4 n5 n6 m) h λr w h=>?_;obtain⟨hr,h⟩:=h.aP;(try dsimp only at hr h);try rw[hr])
   |(refine ar (pZ n5 m.b) h λr w h=>?_;obtain⟨hr,h⟩:=h.aP;(try dsimp only at hr h);try rw[hr])
   |(refine ar (Ir (zJ m) m.b.dy g hm.bw hm.b.dy hg) h λr w h=>?_;obtain⟨hr,h⟩:=h.aP;(try dsimp only at hr h);try rw[hr]))
  exact au.aH rfl h.aI
theorem zd(aj:Int):bu (QK (some ⟨b,0⟩) aj) (af b (ad.ig n1 n2 n3 n4 n5 n6 m)^af n1 (ad.gD m.w)^af n2 (ad.jK m.r)^af n3 (ad.jA m.p)^af n4 (ad.iV m.c)^af n5 (ad.jk m.b)^af n6 (ad.gz m.q)) (λ_=>af b (ad.ig n1 n2 n3 n4 n5 n6 ((eW m aj)))^af n1 (ad.gD ((eW m aj).w))^af n2 (ad.jK ((eW m aj).r))^af n3 (ad.jA ((eW m aj).p))^af n4 (ad.iV ((eW m aj).c))^af n5 (ad.jk ((eW m aj).b))^af n6 (ad.gz ((eW m aj).q))):=
 bC λw0 S R h=>by
  refine ac (aA h b (ad.ig n1 n2 n3 n4 n5 n6 ((eW m aj))) rfl rfl rfl λw h=>?_);refine ac (ah h rfl ?_);refine ar (Iw n4 m.c aj 2 (by decide) (by decide)) h λr w h=>?_;show au w0 S R w (af b (ad.ig n1 n2 n3 n4 n5 n6 ((eW m aj)))^af n1 (ad.gD ((eW m aj).w))^af n2 (ad.jK ((eW m aj).r))^af n3 (ad.jA ((eW m aj).p))^af n4 (ad.iV ((eW m aj).c))^af n5 (ad.jk ((eW m aj).b))^af n6 (ad.gz ((eW m aj).q)));exact h.aI
theorem rW:bu (QL (some ⟨b,0⟩)) (af b (ad.ig n1 n2 n3 n4 n5 n6 m)^af n1 (ad.gD m.w)^af n2 (ad.jK m.r)^af n3 (ad.jA m.p)^af n4 (ad.iV m.c)^af n5 (ad.jk m.b)^af n6 (ad.gz m.q)) (λ_=>af b (ad.ig n1 n2 n3 n4 n5 n6 ((gw m)))^af n1 (ad.gD ((gw m).w))^af n2 (ad.jK ((gw m).r))^af n3 (ad.jA ((gw m).p))^af n4 (ad.iV ((gw m).c))^af n5 (ad.jk ((gw m).b))^af n6 (ad.gz ((gw m).q))):=
 bC λw0 S R h=>by
  refine aM h λw h=>ac (ac (ah h rfl (ah h rfl (ac ?_))));refine aA h b (ad.ig n1 n2 n3 n4 n5 n6 ({m with cN:=if m.gP>m.cN then m.gP else m.cN})) rfl rfl rfl λw h=>?_;refine ac (aA h b (ad.ig n1 n2 n3 n4 n5 n6 ((gw m))) rfl rfl rfl λw h=>?_);show au w0 S R w (af b (ad.ig n1 n2 n3 n4 n5 n6 ((gw m)))^af n1 (ad.gD ((gw m).w))^af n2 (ad.jK ((gw m).r))^af n3 (ad.jA ((gw m).p))^af n4 (ad.iV ((gw m).c))^af n5 (ad.jk ((gw m).b))^af n6 (ad.gz ((gw m).q)));exact h.aI
theorem Co:bu (wP (some ⟨b,0⟩)) (af b (ad.ig n1 n2 n3 n4 n5 n6 m)^af n1 (ad.gD m.w)^af n2 (ad.jK m.r)^af n3 (ad.jA m.p)^af n4 (ad.iV m.c)^af n5 (ad.jk m.b)^af n6 (ad.gz m.q)) (λr=>bs (r=GW m) (af b (ad.ig n1 n2 n3 n4 n5 n6 m)^af n1 (ad.gD m.w)^af n2 (ad.jK m.r)^af n3 (ad.jA m.p)^af n4 (ad.iV m.c)^af n5 (ad.jk m.b)^af n6 (ad.gz m.q))):=
 bC λw0 S R h=>by
  refine aD h λx w h=>?_;refine ae (λc=>(by cases c)) λ_=>?_;repeat' (first
   |(refine aM h λw h=>?_)
   |(refine ac ?_)
   |(refine aw h rfl ?_)
   |(refine ah h rfl ?_)
   |(refine aO h ?_)
   |(refine aN h rfl ?_)
   |(refine az h (by rfl) λw h=>?_)
   |(refine aD h λn w h=>?_)
   |(refine aT h λw h=>?_)
   |(refine bh h rfl λw h=>?_;dsimp only[dE,over]at h)
   |(refine ar (y9 b n1 n2 n3 n4 n5 n6 m) h λr w h=>?_;obtain⟨hr,h⟩:=h.aP;(try dsimp only at hr h);try rw[hr])
   |(refine ar (pZ n5 m.b) h λr w h=>?_;obtain⟨hr,h⟩:=h.aP;(try dsimp only at hr h);try rw[hr])
   |(refine ar (BS b n1 n2 n3 n4 n5 n6 m) h λr w h=>?_;obtain⟨hr,h⟩:=h.aP;(try dsimp only at hr h);try rw[hr])
   |(refine ar (BM n2 m.r) h λr w h=>?_;obtain⟨hr,h⟩:=h.aP;(try dsimp only at hr h);try rw[hr])
   |(refine ar (KM n4 m.c) h λr w h=>?_;obtain⟨hr,h⟩:=h.aP;(try dsimp only at hr h);try rw[hr])
   |(refine ar (qf n3 m.p) h λr w h=>?_;obtain⟨hr,h⟩:=h.aP;(try dsimp only at hr h);try rw[hr])
   |(refine ar (Df b n1 n2 n3 n4 n5 n6 m) h λr w h=>?_;obtain⟨hr,h⟩:=h.aP;(try dsimp only at hr h);try rw[hr]))
  exact au.aH rfl h.aI
end
end Jr

end Go.X
