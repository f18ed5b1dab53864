/- The reading itself: Go code, as the model has it, is turned into a weakest precondition in the words of Xa, by computation alone. -/
import Derived.Test.YtkideobegadadaaGreatXa
namespace Go.X

/-! ### Types -/
def kind1 (P : Program) (t : TypeId) : Option CK :=
  match P.underlying t with
  | some .bool => some .bool
  | some (.int k) => some (.int k)
  | some (.pointer _) => some .ptr
  | some (.slice _) => some .sl
  | some .string => some .str
  | some (.func _ _ _) => some .fn
  | _ => none
def kinds (P : Program) : Nat → TypeId → Option (List CK)
  | 0, _ => none
  | d + 1, t =>
    match P.underlying t with
    | some (.struct fs) => fs.toList.foldr (fun f acc => match kinds P d f.type, acc with | some a, some b => some (a ++ b) | _, _ => none) (some [])
    | some (.array n e) => match kinds P d e with | some ks => some (List.replicate n ks).flatten | none => none
    | _ => match kind1 P t with | some c => some [c] | none => none
def isAggT (P : Program) (t : TypeId) : Bool :=
  match P.underlying t with
  | some (.struct _) => true
  | some (.array _ _) => true
  | _ => false
def shT (P : Program) (t : TypeId) : Option Sh :=
  if isAggT P t then (match kinds P 8 t with | some ks => if ks.length = P.cellsOf t then some (.agg ks) else none | none => none)
  else (match kind1 P t with | some c => some (.lf c) | none => none)
def allSome {α : Type} : List (Option α) → Option (List α)
  | [] => some []
  | none :: _ => none
  | some x :: r => match allSome r with | some xs => some (x :: xs) | none => none
def shsT (P : Program) (t : TypeId) : Option (List Sh) :=
  match P.underlying t with
  | some (.tuple ts) => allSome (ts.toList.map (shT P))
  | _ => match shT P t with | some s => some [s] | none => none

/-! ### Constants -/
def leafV : Value → Option Lf
  | .int k n => some (.int k n)
  | .bool b => some (.bool b)
  | .pointer none => some (.ptr none)
  | .slice none 0 0 => some (.sl ⟨none, 0, 0⟩)
  | .string s => some (.str s)
  | .nilFunc => some (.fn .nil)
  | _ => none
def constV : Value → Option V1
  | .agg cs => match allSome (cs.toList.map leafV) with | some ls => some (.agg ls) | none => none
  | v => match leafV v with | some l => some (.lf l) | none => none
def zeroLs (P : Program) (t : TypeId) : Option (List Lf) :=
  match P.info? t with
  | some i => match i.zero with
    | some z => match constV z with | some v => some v.lfs | none => none
    | none => none
  | none => none

/-! ### A frame, as far as it is known -/
inductive Ent where
  | un
  | val (v : TV)
  | gv (j : Nat) (want : Bool) (v : TV)
abbrev Env := List Ent
def Env.get : Env → Nat → Ent
  | [], _ => .un
  | x :: _, 0 => x
  | _ :: e, n + 1 => Env.get e n
def Env.set : Env → Nat → Ent → Env
  | [], _, _ => []
  | _ :: e, 0, y => y :: e
  | x :: e, n + 1, y => x :: Env.set e n y
def purge (d : Nat) : Ent → Ent
  | .gv j w v => match Nat.beq j d with | true => .un | false => .gv j w v
  | x => x
def Env.put (e : Env) (d : Option Nat) (x : Ent) : Env :=
  match d with
  | none => e
  | some d => Env.set (e.map (purge d)) d x
def und : TV := .tup []
abbrev Ctx := List (Nat × Bool)
def inCtx (j : Nat) (w : Bool) : Ctx → Bool
  | [] => false
  | (i, v) :: c => match Nat.beq i j with
    | true => (match v, w with | true, true => true | false, false => true | _, _ => inCtx j w c)
    | false => inCtx j w c
def ctxOf (e : Env) : Nat → Nat → Ctx
  | 0, _ => []
  | n + 1, j => match e.get j with
    | .gv i w _ => (i, w) :: ctxOf e n i
    | _ => []
def evG (e : Env) (c : Ctx) : Operand → Option TV
  | .tmp t => match e.get t with
    | .val v => some v
    | .gv j w v => match inCtx j w c with | true => some v | false => none
    | .un => none
  | .const v => match constV v with | some x => some (.one x) | none => none
  | .func f => some (.one (.lf (.fn (.mk (.func f) [] []))))
  | .global _ => none
def evs (e : Env) (c : Ctx) : List Operand → Option (List V1)
  | [] => some []
  | x :: r => match evG e c x with
    | some (.one v) => (match evs e c r with | some vs => some (v :: vs) | none => none)
    | _ => none

/-! ### Operations that only compute -/
def isK (a b : IntKind) : Bool := match a, b with
  | .i8, .i8 => true | .i16, .i16 => true | .i32, .i32 => true | .i64, .i64 => true
  | .u8, .u8 => true | .u16, .u16 => true | .u32, .u32 => true | .u64, .u64 => true
  | _, _ => false
def cutL (ls : List Lf) (off n : Nat) : List Lf := (ls.drop off).take n
def eqFs (P : Program) (rec : TypeId → List Lf → List Lf → Option Bool) (xs ys : List Lf) : List Field → Option Bool
  | [] => some true
  | f :: r => match f.name == "_" with
    | true => eqFs P rec xs ys r
    | false => match rec f.type (cutL xs f.offset (P.cellsOf f.type)) (cutL ys f.offset (P.cellsOf f.type)), r with
      | some a, [] => some a
      | some a, g :: r => (match eqFs P rec xs ys (g :: r) with | some b => some (a && b) | none => none)
      | none, _ => none
def eqAr (rec : List Lf → List Lf → Option Bool) (sz : Nat) (xs ys : List Lf) : Nat → Nat → Option Bool
  | 0, _ => some true
  | m + 1, i => match rec (cutL xs (i * sz) sz) (cutL ys (i * sz) sz), m with
    | some a, 0 => some a
    | some a, k + 1 => (match eqAr rec sz xs ys (k + 1) (i + 1) with | some b => some (a && b) | none => none)
    | none, _ => none
/-- '==' of two values of a type of numbers, bools, strings, structs and arrays. -/
def eqT (P : Program) : Nat → TypeId → List Lf → List Lf → Option Bool
  | 0, _, _, _ => none
  | d + 1, t, xs, ys =>
    match P.underlying t with
    | some .bool => (match xs, ys with | [.bool a], [.bool b] => some (a == b) | _, _ => none)
    | some (.int _) => (match xs, ys with | [.int k a], [.int k' b] => (match isK k k' with | true => some (a == b) | false => none) | _, _ => none)
    | some .string => (match xs, ys with | [.str a], [.str b] => some (a.toList == b.toList) | _, _ => none)
    | some (.struct fs) => (match P.stoodInHeld t with | true => none | false => eqFs P (fun u => eqT P d u) xs ys fs.toList)
    | some (.array n e) => (match n with | 0 => none | n + 1 => eqAr (eqT P d e) (P.cellsOf e) xs ys (n + 1) 0)
    | _ => none
def isNilF : Fv → Bool
  | .nil => true
  | _ => false
def boolV (b : Bool) : Option TV := some (.one (.lf (.bool b)))
def intV (k : IntKind) (n : Int) : Option TV := some (.one (.lf (.int k n)))
def binI (op : BinOp) (k : IntKind) (a b : Int) : Option TV :=
  match op with
  | .add => intV k (k.wrap (a + b))
  | .sub => intV k (k.wrap (a - b))
  | .mul => intV k (k.wrap (a * b))
  | .and => intV k (k.wrap (BitVec.ofInt k.bits a &&& BitVec.ofInt k.bits b).toNat)
  | .or => intV k (k.wrap (BitVec.ofInt k.bits a ||| BitVec.ofInt k.bits b).toNat)
  | .xor => intV k (k.wrap (BitVec.ofInt k.bits a ^^^ BitVec.ofInt k.bits b).toNat)
  | .eql => boolV (a == b)
  | .neq => boolV (a != b)
  | .lss => boolV (a < b)
  | .leq => boolV (a ≤ b)
  | .gtr => boolV (a > b)
  | .geq => boolV (a ≥ b)
  | _ => none
def isEq : BinOp → Option Bool
  | .eql => some true
  | .neq => some false
  | _ => none
def xb (eq : Bool) (b : Bool) : Option TV := match eq with | true => boolV b | false => boolV (!b)
/-- A comparison with == or != that only looks at leaves. -/
def eqV (P : Program) (eq : Bool) (t : TypeId) : V1 → V1 → Option TV
  | .lf (.bool a), .lf (.bool b) => (match P.underlying t with | some .bool => xb eq (a == b) | _ => none)
  | .lf (.str a), .lf (.str b) => xb eq (a.toList == b.toList)
  | .lf (.ptr p), .lf (.ptr none) => (match P.underlying t with | some (.pointer _) => xb eq p.isNone | _ => none)
  | .lf (.sl s), .lf (.sl ⟨none, 0, 0⟩) => (match P.underlying t with | some (.slice _) => xb eq s.isNil | _ => none)
  | .lf (.fn f), .lf (.fn .nil) => (match P.underlying t with | some (.func _ _ _) => xb eq (isNilF f) | _ => none)
  | .agg xs, .agg ys => (match isAggT P t && !P.eqGuardType P.depth t with
    | true => (match eqT P 8 t xs ys with | some b => xb eq b | none => none)
    | false => none)
  | _, _ => none
def binV (P : Program) (op : BinOp) (t : TypeId) (x y : V1) : Option TV :=
  match x, y with
  | .lf (.int k a), .lf (.int k' b) => (match isK k k' with | true => binI op k a b | false => none)
  | x, y => match isEq op with
    | some eq => eqV P eq t x y
    | none => none
def unV (op : UnOp) : V1 → Option TV
  | .lf (.bool b) => (match op with | .not => boolV (!b) | _ => none)
  | .lf (.int k n) => (match op with | .neg => intV k (k.wrap (0 - n)) | _ => none)
  | _ => none
def pickV (c : Bool) : TV → TV → Option TV
  | .one (.lf (.bool p)), .one (.lf (.bool q)) => boolV (cond c p q)
  | _, _ => none
def fieldOf (P : Program) (t : TypeId) (i : Nat) : Option Field :=
  match P.underlying t with
  | some (.struct fs) => fs[i]?
  | _ => none
def partV (P : Program) (t : TypeId) (ls : List Lf) (off : Nat) : Option V1 :=
  match isAggT P t with
  | true => some (.agg ((ls.drop off).take (P.cellsOf t)))
  | false => match ls[off]? with | some l => some (.lf l) | none => none
def lenV : V1 → Option Int
  | .lf (.sl s) => some s.len
  | .lf (.str s) => some s.size
  | _ => none
/-- Parts laid over leaves. -/
def fillL (place : Nat → Option (Nat × Nat)) (ls : List Lf) : List (Nat × V1) → Option (List Lf)
  | [] => some ls
  | (i, v) :: r => match place i with
    | none => none
    | some (off, size) => match Nat.beq v.lfs.length size && Nat.ble (off + v.lfs.length) ls.length with
      | true => fillL place (splice ls off v.lfs) r
      | false => none
def evParts (e : Env) (c : Ctx) : List (Nat × Operand) → Option (List (Nat × V1))
  | [] => some []
  | (i, x) :: r => match evG e c x with
    | some (.one v) => (match evParts e c r with | some vs => some ((i, v) :: vs) | none => none)
    | _ => none
def plStruct (P : Program) (fs : Array Field) (i : Nat) : Option (Nat × Nat) := match fs[i]? with
  | some f => some (f.offset, P.cellsOf f.type)
  | none => none
def placeOf (P : Program) (t : TypeId) : Nat → Option (Nat × Nat) :=
  match P.underlying t with
  | some (.struct fs) => plStruct P fs
  | some (.array _ e) => fun i => some (i * P.cellsOf e, P.cellsOf e)
  | _ => fun _ => none
def infoOk (P : Program) (t : TypeId) : Bool :=
  match P.underlying t with
  | some (.struct fs) => fs.toList.all fun f => (P.info? f.type).isSome
  | some (.array _ e) => (P.info? e).isSome
  | _ => false
def foldMM (mx : Bool) (k : IntKind) : Int → List V1 → Option TV
  | a, [] => intV k a
  | a, .lf (.int k' b) :: r => (match isK k k' with
    | true => (match mx with | true => foldMM mx k (if b > a then b else a) r | false => foldMM mx k (if b < a then b else a) r)
    | false => none)
  | _, _ => none
def builtinV (b : Builtin) (vs : List V1) : Option TV :=
  match b, vs with
  | .len, [v] => (match lenV v with | some n => intV .i64 n | none => none)
  | .cap, [.lf (.sl s)] => intV .i64 s.cp
  | .max, .lf (.int k a) :: r => foldMM true k a r
  | .min, .lf (.int k a) :: r => foldMM false k a r
  | _, _ => none
def builtinOk (P : Program) (b : Builtin) (ts : Array TypeId) (vs : List V1) : Bool :=
  match b with
  | .len | .cap => (match ts[0]?, vs with
    | some t, [.lf (.sl _)] => (match P.underlying t with | some (.slice _) => true | _ => false)
    | some t, [.lf (.str _)] => (match P.underlying t with | some .string => true | _ => false)
    | _, _ => false)
  | _ => true
def slotOf : Operand → Nat
  | .tmp t => t
  | _ => 0
def isTmp : Operand → Bool
  | .tmp _ => true
  | _ => false
def toTV : Option V1 → Option TV
  | some v => some (.one v)
  | none => none
def pureV (P : Program) (e : Env) (c : Ctx) (o : Oper) : Option TV :=
  match o.op with
  | .move x => evG e c x
  | .assign x => evG e c x
  | .pick cn x y => (match evG e c cn with
    | some (.one (.lf (.bool b))) =>
      (match evG e (match isTmp cn with | true => (slotOf cn, true) :: c | false => c) x, evG e (match isTmp cn with | true => (slotOf cn, false) :: c | false => c) y with
       | some (.one (.lf (.bool p))), some (.one (.lf (.bool q))) => boolV (cond b p q)
       | vx, vy => match b with | true => vx | false => vy)
    | _ => none)
  | .build t ps => (match zeroLs P t, evParts e c ps.toList with
    | some z, some vs => (match infoOk P t with | true => (match fillL (placeOf P t) z vs with | some ls => some (.one (.agg ls)) | none => none) | false => none)
    | _, _ => none)
  | .binOp op t x y _ => (match evG e c x, evG e c y with
    | some (.one a), some (.one b) => binV P op t a b
    | _, _ => none)
  | .unOp op _ x => (match evG e c x with | some (.one a) => unV op a | _ => none)
  | .convert src dst x => (match evG e c x with
    | some (.one (.lf (.int _ n))) => (match P.underlying src, P.underlying dst with
      | some (.int _), some (.int k) => intV k (k.wrap n)
      | _, _ => none)
    | _ => none)
  | .makeFunc fn first cap => (match evs e c first.toList, evs e c cap.toList with
    | some a, some b => some (.one (.lf (.fn (.mk fn (a.map V1.enc) (b.map V1.enc)))))
    | _, _ => none)
  | .fieldAddr t x i => (match evG e c x, fieldOf P t i with
    | some (.one (.lf (.ptr (some p)))), some f => (match Nat.beq (P.cellsOf f.type) 0 with
      | true => none
      | false => some (.one (.lf (.ptr (some ⟨p.b, p.o + f.offset⟩)))))
    | _, _ => none)
  | .field t x i => (match evG e c x, fieldOf P t i with
    | some (.one (.agg ls)), some f => (match (P.underlying f.type).isSome with | true => toTV (partV P f.type ls f.offset) | false => none)
    | _, _ => none)
  | .index t x (.const (.int _ n)) => (match evG e c x, P.underlying t with
    | some (.one (.agg ls)), some (.array len el) => (match decide (0 ≤ n ∧ n < (len : Int)), (P.underlying el).isSome with
      | true, true => toTV (partV P el ls (n.toNat * P.cellsOf el))
      | _, _ => none)
    | _, _ => none)
  | .extract x i => (match evG e c x with
    | some (.tup vs) => toTV vs[i]?
    | _ => none)
  | .call cl => (match cl.callee with
    | .builtin b => (match evs e c cl.args.toList with | some vs => (match builtinOk P b cl.argTypes vs with | true => builtinV b vs | false => none) | none => none)
    | _ => none)
  | _ => none

/-! ### Operations that look at the world, or turn it -/
def kOf (agg : Bool) (ls : List Lf) (K : TV → WP) : WP :=
  match agg, ls with
  | true, ls => K (.one (.agg ls))
  | false, [l] => K (.one (.lf l))
  | _, _ => wno
def loadS (P : Program) (t : TypeId) (p : Pt) (K : TV → WP) : WP :=
  match shT P t with
  | some (.lf c) => ld [c] p fun x => K (.one (.lf (c.mk x)))
  | some (.agg cs) => ld cs p fun x => K (.one (.agg (Ks.mk cs x)))
  | none => wno
def nonZero : Operand → Bool
  | .const (.int _ n) => match decide (n = 0) with | true => false | false => true
  | _ => false
def divS (op : BinOp) (y : Operand) (k : IntKind) (a b : Int) (K : TV → WP) : WP :=
  match op with
  | .quo => (match nonZero y with | true => K (.one (.lf (.int k (k.wrap (a.tdiv b))))) | false => req (b ≠ 0) (K (.one (.lf (.int k (k.wrap (a.tdiv b)))))))
  | .rem => (match nonZero y with | true => K (.one (.lf (.int k (a.tmod b)))) | false => req (b ≠ 0) (K (.one (.lf (.int k (a.tmod b))))))
  | .shl => req (0 ≤ b) (K (.one (.lf (.int k (k.wrap (a * 2 ^ min b.toNat k.bits))))))
  | .shr => req (0 ≤ b) (K (.one (.lf (.int k (a.fdiv (2 ^ min b.toNat k.bits))))))
  | _ => wno
def resS (P : Program) (f : FuncId) (args : List V1) (t : TypeId) (K : TV → WP) : WP :=
  match shsT P t with
  | some rs => call P f args rs fun x => K (retTV (Rs.mk rs x))
  | none => wno
def resVS (P : Program) (f : Fv) (args : List V1) (t : TypeId) (K : TV → WP) : WP :=
  match shsT P t with
  | some rs => callv P f args rs fun x => K (retTV (Rs.mk rs x))
  | none => wno
def elemT (P : Program) (t : TypeId) : Option TypeId :=
  match P.underlying t with
  | some (.slice e) => some e
  | _ => none
def arrT (P : Program) (t : TypeId) : Option (Nat × TypeId) :=
  match P.underlying t with
  | some (.array n e) => some (n, e)
  | _ => none
def intT (P : Program) (t : TypeId) : Option Unit :=
  match P.underlying t with
  | some (.int _) => some ()
  | _ => none
def optI (e : Env) (c : Ctx) : Option Operand → Option (Option Int)
  | none => some none
  | some x => match evG e c x with
    | some (.one (.lf (.int _ n))) => some (some n)
    | _ => none
def opS (P : Program) (e : Env) (c : Ctx) (o : Oper) (K : TV → WP) : WP :=
  match pureV P e c o with
  | some v => K v
  | none =>
    match o.op with
    | .alloc t => (match zeroLs P t with
      | some ls => new ls fun b => K (.one (.lf (.ptr (some ⟨b, 0⟩))))
      | none => wno)
    | .box _ x => (match evG e c x with
      | some (.one v) => new v.lfs fun b => K (.one (.lf (.ptr (some ⟨b, 0⟩))))
      | _ => wno)
    | .buildSlice t n ps => (match elemT P t with
      | some el => (match zeroLs P el, evParts e c ps.toList with
        | some z, some vs => (match Nat.beq z.length (P.cellsOf el) && Nat.ble (n * P.cellsOf el) 16777216 && !Nat.beq (P.cellsOf el) 0, fillL (fun i => some (i * P.cellsOf el, P.cellsOf el)) (List.replicate n z).flatten vs with
          | true, some ls => new ls fun b => K (.one (.lf (.sl ⟨some ⟨b, 0⟩, n, n⟩)))
          | _, _ => wno)
        | _, _ => wno)
      | none => wno)
    | .load t a => (match evG e c a with
      | some (.one (.lf (.ptr (some p)))) => loadS P t p K
      | _ => wno)
    | .store t a x => (match evG e c a, evG e c x with
      | some (.one (.lf (.ptr (some p)))), some (.one v) => (match Nat.beq v.lfs.length (P.cellsOf t) && !Nat.beq (P.cellsOf t) 0 with
        | true => st p v.lfs (K und)
        | false => wno)
      | _, _ => wno)
    | .nilCheck x => (match evG e c x with
      | some (.one (.lf (.ptr p))) => deref p fun q => K (.one (.lf (.ptr (some q))))
      | some (.one (.lf (.fn f))) => fderef f (K (.one (.lf (.fn f))))
      | _ => wno)
    | .binOp op _ x y _ => (match evG e c x, evG e c y with
      | some (.one (.lf (.int k a))), some (.one (.lf (.int k' b))) => (match op with
        | .shl => divS op y k a b K
        | .shr => divS op y k a b K
        | _ => match isK k k' with | true => divS op y k a b K | false => wno)
      | some (.one (.lf (.str a))), some (.one (.lf (.str b))) => (match op with
        | .add => req (((a.size + b.size : Nat) : Int) ≤ IntKind.i64.max) (K (.one (.lf (.str (a ++ b)))))
        | _ => wno)
      | _, _ => wno)
    | .indexAddr t x i => (match evG e c x, evG e c i with
      | some (.one (.lf (.sl s))), some (.one (.lf (.int _ n))) => (match elemT P t with
        | some el => (match (P.underlying el).isSome with
          | true => idx s n (P.cellsOf el) fun q => K (.one (.lf (.ptr (some q))))
          | false => wno)
        | none => wno)
      | some (.one (.lf (.ptr (some p)))), some (.one (.lf (.int _ n))) => (match P.underlying t with
        | some (.array len el) => (match (P.underlying el).isSome with
          | true => req (0 ≤ n ∧ n < len) (K (.one (.lf (.ptr (some ⟨p.b, p.o + n.toNat * P.cellsOf el⟩)))))
          | false => wno)
        | _ => wno)
      | _, _ => wno)
    | .makeSlice t l cp => (match elemT P t, evG e c l, evG e c cp with
      | some el, some (.one (.lf (.int _ n))), some (.one (.lf (.int _ m))) => (match zeroLs P el with
        | some z => (match Nat.beq z.length (P.cellsOf el) && !Nat.beq (P.cellsOf el) 0 && Nat.ble (P.bytesOf el) 4096 with
          | true => mk z n m fun s => K (.one (.lf (.sl s)))
          | false => wno)
        | none => wno)
      | _, _, _ => wno)
    | .slice t x lo hi mx => (match arrT P t with
      | some (n, el) => (match evG e c x, optI e c lo, optI e c hi, optI e c mx with
        | some (.one (.lf (.ptr (some p)))), some l, some h, some m => (match !Nat.beq (P.cellsOf el) 0 && (!m.isSome || h.isSome) with
          | true => slc ⟨some p, n, n⟩ l h m (P.cellsOf el) fun s => K (.one (.lf (.sl s)))
          | false => wno)
        | _, _, _, _ => wno)
      | none => match elemT P t, evG e c x, optI e c lo, optI e c hi, optI e c mx with
      | some el, some (.one (.lf (.sl s))), some l, some h, some m => (match !Nat.beq (P.cellsOf el) 0 && (!m.isSome || h.isSome) with
        | true => slc s l h m (P.cellsOf el) fun s => K (.one (.lf (.sl s)))
        | false => wno)
      | _, _, _, _, _ => wno)
    | .index t x i => (match evG e c x, evG e c i, P.underlying t with
      | some (.one (.agg ls)), some (.one (.lf (.int _ n))), some (.array len el) => (match shT P el with
        | some (.lf k) => ixa [k] ls n len (P.cellsOf el) fun x => K (.one (.lf (k.mk x)))
        | some (.agg ks) => ixa ks ls n len (P.cellsOf el) fun x => K (.one (.agg (Ks.mk ks x)))
        | none => wno)
      | some (.one (.lf (.str s))), some (.one (.lf (.int _ n))), some .string => bidx s n fun x => K (.one (.lf (.int .u8 x)))
      | _, _, _ => wno)
    | .call cl => (match cl.callee with
      | .builtin .append => (match evs e c cl.args.toList, (cl.argTypes[0]?).bind (elemT P), (cl.argTypes[1]?).bind (elemT P) with
        | some [.lf (.sl s), .lf (.sl x)], some el, some _ => (match zeroLs P el with
          | some z => (match Nat.beq z.length (P.cellsOf el) && !Nat.beq (P.cellsOf el) 0 && Nat.ble (P.bytesOf el) 2048 && !Nat.beq (P.bytesOf el) 0 with
            | true => app (P.cellsOf el) s x fun s => K (.one (.lf (.sl s)))
            | false => wno)
          | none => wno)
        | some [.lf (.sl s), .lf (.int _ n)], some el, none => (match zeroLs P el, (cl.argTypes[1]?).bind (intT P) with
          | some z, some () => (match Nat.beq z.length (P.cellsOf el) && !Nat.beq (P.cellsOf el) 0 && Nat.ble (P.bytesOf el) 2048 && !Nat.beq (P.bytesOf el) 0 with
            | true => appz z (P.cellsOf el) s n fun s => K (.one (.lf (.sl s)))
            | false => wno)
          | _, _ => wno)
        | _, _, _ => wno)
      | .builtin .clear => (match evs e c cl.args.toList, (cl.argTypes[0]?).bind (elemT P) with
        | some [.lf (.sl s)], some el => (match zeroLs P el with
          | some z => (match Nat.ble 1 z.length with | true => clr z s (K und) | false => wno)
          | none => wno)
        | _, _ => wno)
      | .value (.func f) => (match evs e c cl.args.toList with | some vs => resS P f vs o.type K | none => wno)
      | .value x => (match evG e c x, evs e c cl.args.toList with
        | some (.one (.lf (.fn f))), some vs => resVS P f vs o.type K
        | _, _ => wno)
      | _ => wno)
    | _ => wno

/-! ### Regions -/
def pureK (op : Op) : Bool :=
  match op with
  | .move _ => true
  | .assign _ => true
  | .pick _ _ _ => true
  | .build _ _ => true
  | .binOp b _ _ _ _ => (match b with | .quo => false | .rem => false | .shl => false | .shr => false | _ => true)
  | .unOp _ _ _ => true
  | .convert _ _ _ => true
  | .makeFunc _ _ _ => true
  | .fieldAddr _ _ _ => true
  | .field _ _ _ => true
  | .extract _ _ => true
  | .index _ _ (.const _) => true
  | .call cl => (match cl.callee with
    | .builtin b => (match b with | .len => true | .cap => true | .max => true | .min => true | _ => false)
    | _ => false)
  | _ => false
def guardOn (j : Nat) (o : Oper) : Bool := match o.guard with
  | some (i, _) => Nat.beq i j
  | none => false
def anyI (f : Oper → Nat → Bool) : List Oper → Nat → Bool
  | [], _ => false
  | o :: r, i => f o i || anyI f r (i + 1)
/-- Must what operation j yields be known, to go on? -/
def parts (all : List Oper) : Nat → Nat → Bool
  | 0, _ => false
  | n + 1, j => anyI (fun o i => guardOn j o && (!pureK o.op || parts all n i)) all 0
def putV (e : Env) (o : Oper) (v : TV) : Env := e.put o.dst (.val v)
def nextS (p : Bool) (e : Env) (o : Oper) (k : Env → WP) (v : TV) : WP :=
  match p with
  | true => (match o.dst, v with
    | some d, .one (.lf (.bool b)) => ite' b (k (e.put (some d) (.val (.one (.lf (.bool true)))))) (k (e.put (some d) (.val (.one (.lf (.bool false))))))
    | _, _ => wno)
  | false => k (putV e o v)
def isUnd : Ent → Bool
  | .val (.tup []) => true
  | _ => false
def opsS (P : Program) (all : List Oper) : List Oper → Nat → Env → (Env → WP) → WP
  | [], _, e, K => K e
  | o :: r, i, e, K =>
    match o.guard with
    | none => opS P e [] o (nextS (parts all 6 i) e o fun e => opsS P all r (i + 1) e K)
    | some (j, want) => match (all[j]?).bind (·.dst) with
      | none => wno
      | some sj => match parts all 6 j with
        | true => (match e.get sj with
          | .val (.one (.lf (.bool b))) => (match b, want with
            | true, true => opS P e [] o (nextS (parts all 6 i) e o fun e => opsS P all r (i + 1) e K)
            | false, false => opS P e [] o (nextS (parts all 6 i) e o fun e => opsS P all r (i + 1) e K)
            | _, _ => opsS P all r (i + 1) (putV e o und) K)
          | .val (.tup []) => opsS P all r (i + 1) (putV e o und) K
          | _ => wno)
        | false => (match isUnd (e.get sj) with
          | true => opsS P all r (i + 1) (putV e o und) K
          | false => match pureV P e ((sj, want) :: ctxOf e 5 sj) o, o.dst with
          | some v, some d => (match Nat.beq d sj, e.get sj with
            | false, .val (.one (.lf (.bool _))) => opsS P all r (i + 1) (e.put (some d) (.gv sj want v)) K
            | false, .gv _ _ (.one (.lf (.bool _))) => opsS P all r (i + 1) (e.put (some d) (.gv sj want v)) K
            | _, _ => wno)
          | _, _ => wno)

/-! ### A region that draws its order -/
/-- A plan: f: this one yields the same wherever it stands · w: this one turns the world, or depends on it, and comes next · wa: it may come next, or one of the others. Each with the slots that it reads. -/
inductive DT where
  | fin
  | f (i : Nat) (sl : List Nat) (r : DT)
  | w (i : Nat) (sl : List Nat) (r : DT)
  | wa (i : Nat) (sl : List Nat) (r alt : DT)
def bit (m i : Nat) : Bool := Nat.testBit m i
def setb (m i : Nat) : Nat := m ||| (1 <<< i)
def subM (a b : Nat) : Bool := Nat.beq (a &&& b) a
def afterL : List Edge → Nat
  | [] => 0
  | e :: r => match Region.binds .any e with | true => setb (afterL r) e.on | false => afterL r
def afterM (o : Oper) : Nat := afterL o.after.toList
def ancL (acc : List Nat) : List Edge → Nat
  | [] => 0
  | e :: r => match Region.binds .any e with | true => setb (ancL acc r) e.on ||| (acc[e.on]?).getD 0 | false => ancL acc r
def ancs : List Oper → List Nat → List Nat
  | [], acc => acc
  | o :: r, acc => ancs r (acc ++ [ancL acc o.after.toList])
def ancM (ops : List Oper) (i : Nat) : Nat := ((ancs ops [])[i]?).getD 0
def isF (op : Op) : Bool := match op with
  | .assign _ => false
  | .load _ _ => true
  | .nilCheck _ => true
  | .indexAddr _ _ _ => true
  | .index _ _ _ => true
  | .binOp _ _ _ _ _ => true
  | op => pureK op
def memN (n : Nat) : List Nat → Bool
  | [] => false
  | x :: r => Nat.beq x n || memN n r
def keepE (sl : List Nat) : Nat → Env → Env
  | _, [] => []
  | n, x :: e => (match memN n sl with | true => x | false => .un) :: keepE sl (n + 1) e
def setE (e : Env) (d : Option Nat) (v : TV) : Env := match d with | none => e | some d => e.set d (.val v)
def hazL (i : Nat) (ai : Nat) (sl : List Nat) : List Oper → Nat → Bool
  | [], _ => true
  | o :: r, j => (match o.dst with
    | none => true
    | some s => !memN s sl || bit ai j || (bit (afterM o) i && !isF o.op) || (Nat.beq i j && !isF o.op)) && hazL i ai sl r (j + 1)
def hazOk (ops : List Oper) (i : Nat) (o : Oper) (sl : List Nat) : Bool := hazL i (afterM o) sl ops 0
def okD (ops : List Oper) (i : Nat) (o : Oper) (sl : List Nat) (V : Nat) : Bool := !bit V i && (subM (afterM o) V && hazOk ops i o sl)
def covL (V C : Nat) : List Oper → Nat → Bool
  | [], _ => true
  | o :: r, j => (bit V j || bit C j || !subM (afterM o) V) && covL V C r (j + 1)
def fullL (V : Nat) : List Oper → Nat → Bool
  | [], _ => true
  | _ :: r, j => bit V j && fullL V r (j + 1)
def dstIn (d : Nat) : List Oper → Bool
  | [] => false
  | o :: r => (match o.dst with | some s => Nat.beq s d | none => false) || dstIn d r
def distinctD : List Oper → Bool
  | [] => true
  | o :: r => (match o.dst with | some s => !dstIn s r | none => true) && distinctD r
def gBy (i : Nat) : List Oper → Bool
  | [] => false
  | o :: r => guardOn i o || gBy i r
abbrev Lds := List (Nat × Pt × List Lf)
def chks : Lds → Nat → WP → WP
  | [], _, A => A
  | (i, p, ls) :: r, m, A => match bit m i with | true => chks r m A | false => chk p ls (chks r m A)
def addL (i : Nat) (l : Option (Pt × List Lf)) (lds : Lds) : Lds := match l with | none => lds | some (p, ls) => (i, p, ls) :: lds
def fopS (P : Program) (e : Env) (o : Oper) (K : TV → Option (Pt × List Lf) → WP) : WP :=
  match pureV P e [] o with
  | some v => K v none
  | none => match o.op with
    | .load t x => (match evG e [] x with
      | some (.one (.lf (.ptr (some p)))) => (match shT P t with
        | some (.lf c) => ld [c] p fun x => K (.one (.lf (c.mk x))) (some (p, Ks.mk [c] x))
        | some (.agg cs) => ld cs p fun x => K (.one (.agg (Ks.mk cs x))) (some (p, Ks.mk cs x))
        | none => wno)
      | _ => wno)
    | .nilCheck _ => opS P e [] o fun v => K v none
    | .indexAddr _ _ _ => opS P e [] o fun v => K v none
    | .index _ _ _ => opS P e [] o fun v => K v none
    | .binOp _ _ _ _ _ => opS P e [] o fun v => K v none
    | _ => wno
def brS (g : Bool) (o : Oper) (e : Env) (k : Env → WP) (v : TV) : WP :=
  match g with
  | true => (match v with
    | .one (.lf (.bool b)) => ite' b (k (setE e o.dst (.one (.lf (.bool true))))) (k (setE e o.dst (.one (.lf (.bool false)))))
    | _ => k (setE e o.dst v))
  | false => k (setE e o.dst v)
def guardS (ops : List Oper) (o : Oper) (e : Env) (go skip : WP) : WP :=
  match o.guard with
  | none => go
  | some (j, want) => match (ops[j]?).bind (·.dst) with
    | none => wno
    | some sj => match e.get sj with
      | .val (.one (.lf (.bool b))) => (match b, want with
        | true, true => go
        | false, false => go
        | _, _ => skip)
      | .val (.tup []) => skip
      | _ => wno
def isW : DT → Bool
  | .w _ _ _ => true
  | .wa _ _ _ _ => true
  | _ => false
def drawS (P : Program) (ops : List Oper) (K : Env → WP) : DT → Nat → Nat → Env → Lds → WP
  | .fin, V, _, e, _ => match fullL V ops 0 with | true => K e | false => wno
  | .f i sl r, V, _, e, lds => match ops[i]? with
    | none => wno
    | some o => match okD ops i o sl V && isF o.op with
      | true => guardS ops o (keepE sl 0 e) (fopS P (keepE sl 0 e) o fun v l => brS (gBy i ops) o e (fun e' => drawS P ops K r (setb V i) 0 e' (addL i l lds)) v) (drawS P ops K r (setb V i) 0 (setE e o.dst und) lds)
      | false => wno
  | .w i sl r, V, C, e, lds => match ops[i]? with
    | none => wno
    | some o => match okD ops i o sl V && covL V (setb C i) ops 0 with
      | true => guardS ops o (keepE sl 0 e) (opS P (keepE sl 0 e) [] o fun v => chks lds (ancM ops i) (brS (gBy i ops) o e (fun e' => drawS P ops K r (setb V i) 0 e' lds) v)) (drawS P ops K r (setb V i) 0 (setE e o.dst und) lds)
      | false => wno
  | .wa i sl r alt, V, C, e, lds => match ops[i]? with
    | none => wno
    | some o => match okD ops i o sl V && isW alt with
      | true => both (guardS ops o (keepE sl 0 e) (opS P (keepE sl 0 e) [] o fun v => chks lds (ancM ops i) (brS (gBy i ops) o e (fun e' => drawS P ops K r (setb V i) 0 e' lds) v)) (drawS P ops K r (setb V i) 0 (setE e o.dst und) lds))
          (drawS P ops K alt V (setb C i) e lds)
      | false => wno

/-! ### Code -/
abbrev Slot := Nat × Sh
/-- How code is to be cut: o: as it is · d: a region's plan · s: both parts · j: a join behind the first part, of these slots · b, bj: a block, joined at its end · l: a loop that turns these slots · r: a range over a function, with its parameters. -/
inductive Ann where
  | o
  | d (t : DT)
  | s (a b : Ann)
  | j (sl : List Slot) (a b : Ann)
  | b (a : Ann)
  | bj (sl : List Slot) (a : Ann)
  | l (sl : List Slot) (a : Ann)
  | r (rs : List Sh) (a b : Ann)
def kindsL : List Slot → List CK
  | [] => []
  | (_, .lf c) :: r => c :: kindsL r
  | (_, .agg cs) :: r => cs ++ kindsL r
def packL (e : Env) : List Slot → Option (List Lf)
  | [] => some []
  | (n, .lf _) :: r => match e.get n with
    | .val (.one (.lf l)) => (match packL e r with | some ls => some (l :: ls) | none => none)
    | _ => none
  | (n, .agg cs) :: r => match e.get n with
    | .val (.one (.agg xs)) => (match Nat.beq xs.length cs.length, packL e r with | true, some ls => some (xs ++ ls) | _, _ => none)
    | _ => none
def packK (sl : List Slot) (e : Env) (J : Ks.T (kindsL sl) → WP) : WP :=
  match packL e sl with
  | some ls => (match Ks.un (kindsL sl) ls with | some x => J x | none => wno)
  | none => wno
def unpackE : List Slot → List Lf → Env → Env
  | [], _, e => e
  | (n, .lf _) :: r, ls, e => match ls with
    | l :: ls => unpackE r ls (e.put (some n) (.val (.one (.lf l))))
    | [] => e
  | (n, .agg cs) :: r, ls, e => unpackE r (ls.drop cs.length) (e.put (some n) (.val (.one (.agg (ls.take cs.length)))))
def cleanE : Env → Env
  | [] => []
  | .gv _ _ _ :: e => .un :: cleanE e
  | x :: e => x :: cleanE e
def havocE : List Nat → Env → Env
  | [], e => e
  | d :: r, e => havocE r (e.set d .un)
def opsWrites : List Oper → List Nat
  | [] => []
  | o :: r => match o.dst with | some d => d :: opsWrites r | none => opsWrites r
def writes : Code → List Nat
  | .region _ ops _ => opsWrites ops.toList
  | .seq a b => writes a ++ writes b
  | .cond _ a b => writes a ++ writes b
  | .block _ a => writes a
  | .loop a => writes a
  | .scope a => writes a
  | _ => []
def slIn (ws : List Nat) : List Slot → Bool
  | [] => true
  | (n, _) :: r => memN n ws && slIn ws r
def baseE (c : Code) (e : Env) : Env := havocE (writes c) (cleanE e)
def unpackK (c : Code) (sl : List Slot) (e : Env) (x : Ks.T (kindsL sl)) : Env := unpackE sl (Ks.mk (kindsL sl) x) (baseE c e)
def isBy (n : Nat) (i : Nat) (A B : WP) : WP := match Nat.beq i n with | true => A | false => B
def putsE (e : Env) : List Nat → List V1 → Env
  | d :: ds, v :: vs => putsE (e.put (some d) (.val (.one v))) ds vs
  | _, _ => e

def exitsIn : Code → List Nat
  | .seq a b => exitsIn a ++ exitsIn b
  | .cond _ a b => exitsIn a ++ exitsIn b
  | .block i a => (exitsIn a).filter (fun j => !Nat.beq i j)
  | .loop a => exitsIn a
  | .scope a => exitsIn a
  | .exit i => [i]
  | _ => []
def retIn : Code → Bool
  | .seq a b => retIn a || retIn b
  | .cond _ a b => retIn a || retIn b
  | .block _ a => retIn a
  | .loop a => retIn a
  | .scope a => retIn a
  | .ret => true
  | _ => false
def chainK (j : Nat) (kx : Nat → WP) : List Nat → WP
  | [] => wno
  | i :: r => isBy (i + 2) j (kx i) (chainK j kx r)
def jumpK (c : Code) (j : Nat) (kn kr : WP) (kx : Nat → WP) : WP :=
  isBy 0 j kn (match retIn c with | true => isBy 1 j kr (chainK j kx (exitsIn c)) | false => chainK j kx (exitsIn c))

/-- The states of a range over a function: 0: on · 1: left by a return · n + 2: left by an exit of block n. -/
abbrev rangeF (P : Program) (fv : Fv) (rs : List Sh) (B : Rs.T rs → (WP → WP) → WP → (Nat → WP) → WP) (K : Nat → WP) : WP := fun w =>
  ∀ (w1 : World) (l : Nat) (st : Nat → Obj) (busy : Obj), (∀ j, st j ≠ openD) → busy ≠ openD → Ext no1 w w1 → w.heap.size ≤ l → l < w1.heap.size → w1.heap[l]? = some (st 0) →
    (∀ (x : Rs.T rs) (W : World) (R : Value → World → Prop),
      B x (fun A W0 => W0.heap[l]? = some (st 0) ∧ ∀ W1, Ext (at1 l) W0 W1 → W1.heap[l]? = some busy → W1.heap.size = W0.heap.size → A W1)
        (fun W2 => W2.heap[l]? = some busy ∧ ∀ W3, Ext (at1 l) W2 W3 → W3.heap[l]? = some (st 0) → W3.heap.size = W2.heap.size → R (.bool true) W3)
        (fun j W2 => W2.heap[l]? = some busy ∧ ∀ W3, Ext (at1 l) W2 W3 → W3.heap[l]? = some (st j) → W3.heap.size = W2.heap.size → R (.bool false) W3) W →
      W.heap[l]? = some (st 0) →
      CallV P (.mk (.yield l) [] []) ((Rs.mk rs x).map V1.enc) W R) →
    CallG P fv [Fv.enc (.mk (.yield l) [] [])] w1 fun _ w2 => Dfr w1 w2 ∧ ∃ j, w2.heap[l]? = some (st j) ∧ ∀ w3, Ext (at1 l) w2 w3 → w3.heap.size = w2.heap.size → K j w3

def sem (P : Program) (inR : Bool) : Code → Ann → Env → (Env → WP) → (Nat → Env → WP) → (Env → WP) → WP
  | .skip, _, e, kn, _, _ => kn e
  | .label _, _, e, kn, _, _ => kn e
  | .region _ ops false, _, e, kn, _, _ => opsS P ops.toList ops.toList 0 e kn
  | .region _ ops true, .d t, e, kn, _, _ => match P.follows .mixedOrders && distinctD ops.toList with
    | true => drw (drawS P ops.toList kn t 0 0 (cleanE e) [])
    | false => wno
  | .seq a b, .s x y, e, kn, kx, kr => sem P inR a x e (fun e1 => sem P inR b y e1 kn kx kr) kx kr
  | .seq a b, .j sl x y, e, kn, kx, kr => match slIn (writes a) sl with
    | true => join (kindsL sl) (fun J => sem P inR a x e (fun e1 => packK sl e1 J) kx kr) (fun v => sem P inR b y (unpackK a sl e v) kn kx kr)
    | false => wno
  | .cond c a b, .s x y, e, kn, kx, kr => match evG e [] c with
    | some (.one (.lf (.bool t))) => ite' t (sem P inR a x e kn kx kr) (sem P inR b y e kn kx kr)
    | _ => wno
  | .block id a, .b x, e, kn, kx, kr => sem P inR a x e kn (fun i e1 => isBy id i (kn e1) (kx i e1)) kr
  | .block id a, .bj sl x, e, kn, kx, kr => match slIn (writes a) sl with
    | true => join (kindsL sl) (fun J => sem P inR a x e (fun e1 => packK sl e1 J) (fun i e1 => isBy id i (packK sl e1 J) (kx i e1)) kr) (fun v => kn (unpackK a sl e v))
    | false => wno
  | .loop a, .l sl x, e, _, kx, kr => match slIn (writes a) sl with
    | true => packK sl e fun x0 => loop (kindsL sl) x0 (fun J v => sem P inR a x (unpackK a sl e v) (fun e1 => packK sl e1 J) kx kr)
    | false => wno
  | .exit i, _, e, _, kx, _ => kx i e
  | .ret, _, e, _, _, kr => kr e
  | .scope a, x, e, kn, kx, kr => sem P inR a x e kn kx kr
  | .rangeFunc f ps as body, .r rs x y, e, kn, kx, kr => match inR, evG e [] f with
    | false, some (.one (.lf (.fn fv))) => (match Nat.beq rs.length ps.size with
      | true => rangeF P fv rs (fun v mid next jump => sem P true as x (putsE (cleanE e) ps.toList (Rs.mk rs v)) (fun e1 => mid (sem P true body y e1 (fun _ => next) (fun i _ => jump (i + 2)) (fun _ => jump 1))) (fun _ _ => wno) (fun _ => wno))
          (fun j => jumpK body j (kn e) (kr e) (fun i => kx i e))
      | false => wno)
    | _, _ => wno
  | _, _, _, _, _, _ => wno

/-! ### A function -/
/-- Two are one. -/
structure Same (A B : WP) : Prop where
  eq : A = B
structure Lv (n : Nat) (w w' : World) : Prop where
  os : w'.os = w.os
  tape : w'.tape = w.tape
  output : w'.output = w.output
  size : w'.heap.size = w.heap.size
  same : ∀ k : Nat, (k < n ∨ w.heap[k]? ≠ some openD) → w'.heap[k]? = w.heap[k]?
abbrev leave (n : Nat) (A : WP) : WP := fun w => ∀ w', Lv n w w' → A w'
def hasRange : Code → Bool
  | .seq a b => hasRange a || hasRange b
  | .cond _ a b => hasRange a || hasRange b
  | .block _ a => hasRange a
  | .loop a => hasRange a
  | .scope a => hasRange a
  | .rangeFunc _ _ _ _ => true
  | _ => false
def retS (P : Program) (e : Env) : List ResultVar → (List V1 → WP) → WP
  | [], K => K []
  | .tmp t :: r, K => match e.get t with
    | .val (.one v) => retS P e r fun vs => K (v :: vs)
    | _ => wno
  | .cell t ty :: r, K => match e.get t, shT P ty with
    | .val (.one (.lf (.ptr (some p)))), some (.lf c) => ld [c] p fun x => retS P e r fun vs => K (.lf (c.mk x) :: vs)
    | .val (.one (.lf (.ptr (some p)))), some (.agg cs) => ld cs p fun x => retS P e r fun vs => K (.agg (Ks.mk cs x) :: vs)
    | _, _ => wno
def unRs (rs : List Sh) (vs : List V1) (R : Rs.T rs → WP) : WP :=
  match Rs.un rs vs with | some x => R x | none => wno
def envOf (n : Nat) (args : List V1) : Env := args.map (fun v => .val (.one v)) ++ List.replicate (n - args.length) (.val und)
def semF (P : Program) (fn : Func) (an : Ann) (args : List V1) (rs : List Sh) (R : Rs.T rs → WP) : WP := fun w =>
  match fn.body with
  | none => False
  | some c =>
    let kr (e : Env) : WP := retS P e fn.results.toList fun vs => unRs rs vs fun x => match hasRange c with
      | true => leave w.heap.size (R x)
      | false => R x
    sem P false c an (envOf fn.ntmps args) kr (fun _ _ => wno) kr w
end Go.X
