/- Names. -/
import Derived.Test.YtniflenfpbbikaaGreatDoorA2
namespace Go.X
abbrev Eb:Ks:=[.bool,.int .u64,.int .u64,.int .u64,.bool,.int .u64,.int .u64]
abbrev Lw:Type:=Bool×Int×Int×Int×Bool×Int×Int
abbrev Ec:Ks:=[.int .i64,.int .i64,.int .u64,.int .u64,.sl,.int .u64,.int .u64,.int .u64,.int .u64,.bool,.bool]
abbrev eH:Ks:=[.int .i64,.int .i64,.int .u64,.int .u64,.int .u64,.int .u64,.int .u64,.int .u64,.bool,.bool]
abbrev gd:Type:=Int×Int×Int×Int×Int×Int×Int×Int×Bool×Bool
abbrev Xm:Ks:=[.int .i64,.int .i64,.int .i64]
abbrev A_:Type:=Int×Int×Int
abbrev oO:Ks:=[.int .i64,.int .i64,.int .i64,.int .u64,.int .u64,.sl]
abbrev PD:Type:=Int×Int×Int×Int×Int×Sl
abbrev bE:Ks:=[.int .i64,.int .i64,.int .i64,.int .u64,.int .u64,.sl,.int .i64,.int .i64,.int .i64,.int .i64,.int .u64,.int .u64,.bool,.int .i64,.int .i64]
abbrev iO:Type:=Int×Int×Int×Int×Int×Sl×Int×Int×Int×Int×Int×Int×Bool×Int×Int
abbrev bk:Ks:=[.int .i64,.int .i64,.int .i64,.int .i64,.int .u64,.int .u64,.bool,.int .i64,.int .i64]
abbrev eN:Type:=Int×Int×Int×Int×Int×Int×Bool×Int×Int
abbrev Tt:Ks:=[.int .i64,.int .i64,.int .i64,.int .i64,.int .i64,.int .i64]
abbrev Zv:Type:=Int×Int×Int×Int×Int×Int
abbrev bc:Ks:=[.int .i64,.int .u64,.int .i64,.int .u64,.bool]
abbrev k_:Type:=Int×Int×Int×Int×Bool
abbrev Xn:Ks:=[.ptr,.ptr,.ptr,.ptr,.ptr,.ptr,.ptr,.ptr]
abbrev Zw:Type:=Option Pt×Option Pt×Option Pt×Option Pt×Option Pt×Option Pt×Option Pt×Option Pt
abbrev H9:Ks:=[.sl,.sl,.int .i64]
abbrev Ia:Type:=Sl×Sl×Int
abbrev eI:Ks:=[.sl,.sl,.sl,.int .u64]
abbrev Eh:Type:=Sl×Sl×Sl×Int
abbrev Sq:Ks:=[.int .u64,.int .u64,.int .u64,.int .i64]
abbrev xR:Type:=Int×Int×Int×Int
abbrev cy:Ks:=[.int .u64,.int .u64,.int .u64,.int .u64,.bool]
abbrev pZ:Type:=Int×Int×Int×Int×Bool
abbrev aE:Ks:=[.int .u64,.int .u64,.int .u64,.int .u64,.int .u64,.int .u64,.bool,.bool,.bool]
abbrev yQ:Type:=Int×Int×Int×Int×Int×Int×Bool×Bool×Bool
abbrev aW:Ks:=[.int .u64,.int .u64,.int .u64,.int .u64,.int .u64,.int .u64,.int .u64,.int .u64,.bool]
abbrev jT:Type:=Int×Int×Int×Int×Int×Int×Int×Int×Bool
abbrev Sr:Ks:=[.int .u64,.int .i64,.int .i64]
abbrev Sz:Type:=Int×Int×Int
abbrev tX:FuncId:=211
abbrev va:FuncId:=152
abbrev ns:FuncId:=172
abbrev hY:FuncId:=316
abbrev tY:FuncId:=175
abbrev mR:FuncId:=282
abbrev pP:FuncId:=283
abbrev rI:FuncId:=173
abbrev oQ:FuncId:=130
abbrev oS:FuncId:=259
abbrev tz:FuncId:=131
abbrev rJ:FuncId:=186
abbrev tZ:FuncId:=180
abbrev vb:FuncId:=183
abbrev px:FuncId:=79
abbrev py:FuncId:=204
abbrev oK:FuncId:=261
abbrev og:FuncId:=258
abbrev oh:FuncId:=119
abbrev gi:FuncId:=190
abbrev oi:FuncId:=120
abbrev pz:FuncId:=187
abbrev ol:FuncId:=121
abbrev ni:FuncId:=80
abbrev pQ:FuncId:=76
abbrev qC:FuncId:=122
abbrev wN:FuncId:=36
abbrev Ga:FuncId:=150
abbrev tC:FuncId:=64
abbrev rK:FuncId:=63
abbrev jQ:FuncId:=213
abbrev fR:FuncId:=215
abbrev lK:FuncId:=219
abbrev jR:FuncId:=207
abbrev t_:FuncId:=210
abbrev ua:FuncId:=148
abbrev Jo:FuncId:=149
abbrev ye:FuncId:=174
abbrev jS:FuncId:=34
abbrev rM:FuncId:=54
abbrev im:FuncId:=35
abbrev de:FuncId:=31
abbrev qu:Sh:=.lf (.int .u64)
abbrev qi:Sh:=.lf (.int .i64)
abbrev qp:Sh:=.lf .ptr
abbrev qb:Sh:=.lf .bool
abbrev qs:Sh:=.lf .sl
abbrev zu:Lf:=.int .u64 0
abbrev zi:Lf:=.int .i64 0
abbrev cu:Ks:=[.int .u64]
abbrev ci:Ks:=[.int .i64]
abbrev cp:Ks:=[.ptr]
abbrev cb:Ks:=[.bool]
abbrev cl:Ks:=[.sl]
abbrev cr:Ks:=[.int .u64,.int .u64]
abbrev vp(x:Option Pt):V1:=.lf (.ptr x)
abbrev vu(x:Int):V1:=.lf (.int .u64 x)
abbrev vi(x:Int):V1:=.lf (.int .i64 x)
abbrev ck(q:Pt)(o:Nat)(K:Ks)(x:Ks.T K)(A:WP):WP:=cw ⟨q.b,q.o+o⟩ (Ks.mk K x) A
abbrev lo(K:Ks)(q:Pt)(o:Nat)(A:Ks.T K→WP):WP:=ld K ⟨q.b,q.o+o⟩ A
abbrev so(q:Pt)(o:Nat)(L:List Lf)(A:WP):WP:=st ⟨q.b,q.o+o⟩ L A
abbrev CW(P:Program)(f:FuncId)(as:List V1)(rs:List Sh)(R:Rs.T rs→WP):WP:=λw=>ky P f (as.map V1.enc) w λv w'=>∃x,v=(nb (Rs.mk rs x)).enc∧R x w'
theorem cS{p:Prop}(h:p:=by simpa using c):p:=h
theorem gJ{p:Prop}(h:p:=by simpa using c2):p:=h
theorem Zg{p:Prop}(h:p:=by simpa using h):p:=h
abbrev aC(x:Int):Lf:=.int .u64 x
abbrev aJ(x:Int):Lf:=.int .i64 x
abbrev a_(x:Bool):Lf:=.bool x
abbrev aX(x:Sl):Lf:=.sl x
abbrev bO:=Option Pt
theorem fu{n:Int}(h0:-9223372036854775808≤n:=by omega)(h1:n<9223372036854775808:=by omega):IntKind.i64.wrap n=n:=wi h0 h1
theorem iy{n:Int}(h0:0≤n:=by omega)(h1:n<18446744073709551616:=by omega):IntKind.u64.wrap n=n:=wu h0 h1
theorem aI{P:Program}{f:FuncId}{args:List V1}{rs:List Sh}{A B F G:SP}{K:Rs.T rs→WP}{E:Rs.T rs}{w0 w:World}{S0 R0:Nat→Prop}(t:wF P f args rs A (λr=>br (r=E) B))(h:au w0 S0 R0 w F)[tk:Take A F G](k:∀w',au w0 S0 R0 w' (B^G)→K E w'):call P f args rs K w:=aq t h λr w' h=>by
 obtain⟨hr,h⟩:=h.aP;rw[hr];exact k w' h
end Go.X
