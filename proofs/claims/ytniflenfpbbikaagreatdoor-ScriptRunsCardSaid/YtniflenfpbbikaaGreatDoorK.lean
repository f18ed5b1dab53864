/- Names. -/
import Derived.Test.YtniflenfpbbikaaGreatDoorA2
namespace Go.X
abbrev Ek:Ks:=[.bool,.int .u64,.int .u64,.int .u64,.bool,.int .u64,.int .u64]
abbrev LI:Type:=Bool×Int×Int×Int×Bool×Int×Int
abbrev El:Ks:=[.int .i64,.int .i64,.int .u64,.int .u64,.sl,.int .u64,.int .u64,.int .u64,.int .u64,.bool,.bool]
abbrev eH:Ks:=[.int .i64,.int .i64,.int .u64,.int .u64,.int .u64,.int .u64,.int .u64,.int .u64,.bool,.bool]
abbrev gd:Type:=Int×Int×Int×Int×Int×Int×Int×Int×Bool×Bool
abbrev Xm:Ks:=[.int .i64,.int .i64,.int .i64]
abbrev Bj:Type:=Int×Int×Int
abbrev oK:Ks:=[.int .i64,.int .i64,.int .i64,.int .u64,.int .u64,.sl]
abbrev PP:Type:=Int×Int×Int×Int×Int×Sl
abbrev a_:Ks:=[.int .i64,.int .i64,.int .i64,.int .u64,.int .u64,.sl,.int .i64,.int .i64,.int .i64,.int .i64,.int .u64,.int .u64,.bool,.int .i64,.int .i64]
abbrev fM:Type:=Int×Int×Int×Int×Int×Sl×Int×Int×Int×Int×Int×Int×Bool×Int×Int
abbrev aZ:Ks:=[.int .i64,.int .i64,.int .i64,.int .i64,.int .u64,.int .u64,.bool,.int .i64,.int .i64]
abbrev eF:Type:=Int×Int×Int×Int×Int×Int×Bool×Int×Int
abbrev Tx:Ks:=[.int .i64,.int .i64,.int .i64,.int .i64,.int .i64,.int .i64]
abbrev Zk:Type:=Int×Int×Int×Int×Int×Int
abbrev aX:Ks:=[.int .i64,.int .u64,.int .i64,.int .u64,.bool]
abbrev km:Type:=Int×Int×Int×Int×Bool
abbrev Xn:Ks:=[.ptr,.ptr,.ptr,.ptr,.ptr,.ptr,.ptr,.ptr]
abbrev Zl:Type:=Option Pt×Option Pt×Option Pt×Option Pt×Option Pt×Option Pt×Option Pt×Option Pt
abbrev Ii:Ks:=[.sl,.sl,.int .i64]
abbrev Il:Type:=Sl×Sl×Int
abbrev dO:Ks:=[.sl,.sl,.sl,.int .u64]
abbrev BH:Type:=Sl×Sl×Sl×Int
abbrev SD:Ks:=[.int .u64,.int .u64,.int .u64,.int .i64]
abbrev xJ:Type:=Int×Int×Int×Int
abbrev cw:Ks:=[.int .u64,.int .u64,.int .u64,.int .u64,.bool]
abbrev pY:Type:=Int×Int×Int×Int×Bool
abbrev aF:Ks:=[.int .u64,.int .u64,.int .u64,.int .u64,.int .u64,.int .u64,.bool,.bool,.bool]
abbrev yQ:Type:=Int×Int×Int×Int×Int×Int×Bool×Bool×Bool
abbrev aW:Ks:=[.int .u64,.int .u64,.int .u64,.int .u64,.int .u64,.int .u64,.int .u64,.int .u64,.bool]
abbrev jT:Type:=Int×Int×Int×Int×Int×Int×Int×Int×Bool
abbrev SE:Ks:=[.int .u64,.int .i64,.int .i64]
abbrev SK:Type:=Int×Int×Int
abbrev ui:FuncId:=211
abbrev vn:FuncId:=152
abbrev nt:FuncId:=172
abbrev h_:FuncId:=316
abbrev uj:FuncId:=175
abbrev mU:FuncId:=282
abbrev pR:FuncId:=283
abbrev rN:FuncId:=173
abbrev kl:FuncId:=13
abbrev iG:FuncId:=29
abbrev jl:FuncId:=50
abbrev kE:FuncId:=52
abbrev oM:FuncId:=130
abbrev oN:FuncId:=259
abbrev tL:FuncId:=131
abbrev rO:FuncId:=186
abbrev uk:FuncId:=180
abbrev vo:FuncId:=183
abbrev pA:FuncId:=79
abbrev pB:FuncId:=204
abbrev oG:FuncId:=261
abbrev od:FuncId:=258
abbrev oe:FuncId:=119
abbrev gk:FuncId:=190
abbrev og:FuncId:=120
abbrev pC:FuncId:=187
abbrev oh:FuncId:=121
abbrev nk:FuncId:=80
abbrev pS:FuncId:=76
abbrev qD:FuncId:=122
abbrev Gb:FuncId:=150
abbrev tM:FuncId:=64
abbrev rP:FuncId:=63
abbrev jP:FuncId:=213
abbrev fU:FuncId:=215
abbrev lO:FuncId:=219
abbrev jQ:FuncId:=207
abbrev uo:FuncId:=210
abbrev uq:FuncId:=148
abbrev JB:FuncId:=149
abbrev yc:FuncId:=174
abbrev jR:FuncId:=34
abbrev rQ:FuncId:=54
abbrev ii:FuncId:=35
abbrev de:FuncId:=31
abbrev qu:Sh:=.lf (.int .u64)
abbrev qi:Sh:=.lf (.int .i64)
abbrev qp:Sh:=.lf .ptr
abbrev qb:Sh:=.lf .bool
abbrev qs:Sh:=.lf .sl
abbrev zu:Lf:=.int .u64 0
abbrev zi:Lf:=.int .i64 0
abbrev cu:Ks:=[.int .u64]
abbrev ci:Ks:=[.int .i64]
abbrev cp:Ks:=[.ptr]
abbrev cb:Ks:=[.bool]
abbrev cl:Ks:=[.sl]
abbrev cr:Ks:=[.int .u64,.int .u64]
abbrev vp(x:Option Pt):V1:=.lf (.ptr x)
abbrev vu(x:Int):V1:=.lf (.int .u64 x)
abbrev vi(x:Int):V1:=.lf (.int .i64 x)
abbrev ck(q:Pt)(o:Nat)(K:Ks)(x:Ks.T K)(A:WP):WP:=ct ⟨q.b,q.o+o⟩ (Ks.mk K x) A
abbrev lo(K:Ks)(q:Pt)(o:Nat)(A:Ks.T K→WP):WP:=ld K ⟨q.b,q.o+o⟩ A
abbrev so(q:Pt)(o:Nat)(L:List Lf)(A:WP):WP:=st ⟨q.b,q.o+o⟩ L A
abbrev CW(P:Program)(f:FuncId)(as:List V1)(rs:List Sh)(R:Rs.T rs→WP):WP:=λw=>kD P f (as.map V1.enc) w λv w'=>∃x,v=(nf (Rs.mk rs x)).enc∧R x w'
theorem cC{p:Prop}(h:p:=by simpa using c):p:=h
theorem gK{p:Prop}(h:p:=by simpa using c2):p:=h
theorem Y6{p:Prop}(h:p:=by simpa using h):p:=h
abbrev aB(x:Int):Lf:=.int .u64 x
abbrev aE(x:Int):Lf:=.int .i64 x
abbrev bc(x:Bool):Lf:=.bool x
abbrev aY(x:Sl):Lf:=.sl x
abbrev bO:=Option Pt
theorem gi{n:Int}(h0:-9223372036854775808≤n:=by omega)(h1:n<9223372036854775808:=by omega):IntKind.i64.wrap n=n:=wi h0 h1
theorem ja{n:Int}(h0:0≤n:=by omega)(h1:n<18446744073709551616:=by omega):IntKind.u64.wrap n=n:=wu h0 h1
theorem aK{P:Program}{f:FuncId}{args:List V1}{rs:List Sh}{A B F G:SP}{K:Rs.T rs→WP}{E:Rs.T rs}{w0 w:World}{S0 R0:Nat→Prop}(t:tT P f args rs A (λr=>bs (r=E) B))(h:au w0 S0 R0 w F)[tk:Take A F G](k:∀w',au w0 S0 R0 w' (B^G)→K E w'):call P f args rs K w:=ar t h λr w' h=>by
 obtain⟨hr,h⟩:=h.aP;rw[hr];exact k w' h
end Go.X
