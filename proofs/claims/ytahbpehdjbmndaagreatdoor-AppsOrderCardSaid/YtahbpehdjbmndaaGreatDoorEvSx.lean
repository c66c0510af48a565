/-
  A symbolic executor over the evaluator: from a piece of code, and a frame whose values may be symbols, to a proposition; definitions. It stops where something is to be shown: at a branch, a bound, a read, a write, a call, a loop; no condition.
-/
import Derived.Test.YtahbpehdjbmndaaGreatDoorEvMono
namespace Go.Ev
open Go.RowKit
noncomputable section

abbrev OpK := Value → AHeap → Prop
abbrev CodeK := AExit → T Value → List Nat → AHeap → Prop

/-! ### Where it stops -/
/-- a call -/
inductive CallW (P : Program) (orc : Orc) (f : FuncId) (args : List Value) (h : AHeap) (K : OpK) : Prop where
  | mk (v : Value) (h' : AHeap) (hl : Lim P orc (.call f args h) (.val v h')) (hk : K v h')
/-- a loop -/
inductive LoopW (P : Program) (orc : Orc) (b : Code) (n : Nat) (ro : Option Nat) (tm : T Value) (mk : List Nat) (h : AHeap) (K : CodeK) : Prop where
  | mk (e : AExit) (tm' : T Value) (mk' : List Nat) (h' : AHeap) (hl : Lim P orc (.code (.loop b) n ro tm mk h) (.code e tm' mk' h')) (hk : K e tm' mk' h')
/-- a range over a function -/
inductive RangeW (P : Program) (orc : Orc) (g : Operand) (ps : Array Tmp) (a b : Code) (n : Nat) (ro : Option Nat) (tm : T Value) (mk : List Nat) (h : AHeap) (K : CodeK) : Prop where
  | mk (e : AExit) (tm' : T Value) (mk' : List Nat) (h' : AHeap) (hl : Lim P orc (.code (.rangeFunc g ps a b) n ro tm mk h) (.code e tm' mk' h')) (hk : K e tm' mk' h')
/-- a round of a range over a function -/
inductive RoundW (P : Program) (orc : Orc) (l : Nat) (args : List Value) (h : AHeap) (K : OpK) : Prop where
  | mk (v : Value) (h' : AHeap) (hl : ∃ f, ∀ g, f ≤ g → evRound (ev P orc g) l args h = some (v, h')) (hk : K v h')
/-- a branch -/
inductive CondW (b : Bool) (p q : Prop) : Prop where
  | mk (hp : b = true → p) (hq : b = false → q)
/-- an operation that is not looked into here -/
inductive OpW (x : Out) (K : OpK) : Prop where
  | mk (v : Value) (h' : AHeap) (hx : x = some (v, h')) (hk : K v h')
inductive NeedW (p q : Prop) : Prop where
  | mk (hp : p) (hq : q)
inductive NeedB (b : Bool) (q : Prop) : Prop where
  | mk (hp : b = true) (hq : q)
/-- a number of 64 bits -/
inductive ArW (n : Int) (K : Int → Prop) : Prop where
  | small (hs : -9223372036854775808 ≤ n ∧ n ≤ 9223372036854775807) (hk : K n)
  | any (hk : K (IntKind.wrap .i64 n))
/-- a read -/
inductive LdW (h : AHeap) (sh : Shape) (i o : Nat) (K : Value → Prop) : Prop where
  | mk (v : Value) (hv : loadAt h sh i o = some v) (hk : K v)
/-- a write -/
inductive StW (h : AHeap) (i o : Nat) (vs : List Value) (K : AHeap → Prop) : Prop where
  | mk (h' : AHeap) (hw : writeRow h i o vs = some h') (hk : K h')
/-- a read of a region that draws its order, in another heap of the region -/
inductive SameW (x : Out) (v : Value) (p : Prop) : Prop where
  | mk (h' : AHeap) (hx : x = some (v, h')) (hp : p)

/-! ### Operations -/
def sx1 (P : Program) (x : Operand) (tm : T Value) (k : Value → Prop) : Prop := Option.rec (motive := fun _ => Prop) False k (val? P x tm)
def sxMove (P : Program) (x : Operand) (tm : T Value) (h : AHeap) (K : OpK) : Prop := sx1 P x tm fun v => K v h
def pickW (t : Bool) (av bv : Value) (k : Value → Prop) : Prop := match av with
  | .bool p => match bv with
    | .bool q => k (.bool (bif t then p else q))
    | .tuple b => Bool.rec (motive := fun _ => Prop) (k (.tuple b)) (k (.bool p)) t
    | bv => CondW t (k (.bool p)) (k bv)
  | .tuple a => Bool.rec (motive := fun _ => Prop) (k bv) (k (.tuple a)) t
  | av => CondW t (k av) (k bv)
def sxPick (P : Program) (c a b : Operand) (tm : T Value) (h : AHeap) (K : OpK) : Prop := sx1 P c tm fun cv => sx1 P a tm fun av => sx1 P b tm fun bv => match cv with
  | .bool t => pickW t av bv fun v => K v h
  | _ => False
def sxAlloc (P : Program) (e : TypeId) (h : AHeap) (K : OpK) : Prop := match zeroV P e with
  | some z => K (.pointer (some ⟨h.next, 0, none⟩)) (h.push (.cells (cellsL z) e true true))
  | none => False
def sxBox (P : Program) (e : TypeId) (x : Operand) (tm : T Value) (h : AHeap) (K : OpK) : Prop := sx1 P x tm fun v => K (.pointer (some ⟨h.next, 0, none⟩)) (h.push (.cells (cellsL v) e true true))
def ptrW (v : Value) (k : Nat → Nat → Prop) : Prop := match v with
  | .pointer a => match a with
    | some ad => match ad with
      | ⟨i, o, sp⟩ => match sp with
        | none => k i o
        | some _ => False
    | none => False
  | _ => False
/-- a number handed on as a numeral -/
def litN (s : Nat) (k : Nat → Prop) : Prop :=
  bif Nat.beq s 0 then k 0 else bif Nat.beq s 1 then k 1 else bif Nat.beq s 2 then k 2 else bif Nat.beq s 3 then k 3 else bif Nat.beq s 4 then k 4 else bif Nat.beq s 5 then k 5 else bif Nat.beq s 6 then k 6 else
  bif Nat.beq s 7 then k 7 else bif Nat.beq s 8 then k 8 else bif Nat.beq s 9 then k 9 else bif Nat.beq s 10 then k 10 else bif Nat.beq s 11 then k 11 else bif Nat.beq s 12 then k 12 else bif Nat.beq s 13 then k 13 else
  bif Nat.beq s 14 then k 14 else bif Nat.beq s 15 then k 15 else bif Nat.beq s 16 then k 16 else k s
def ldShape (h : AHeap) (sh : Shape) (i o : Nat) (k : Value → Prop) : Prop := match sh with
  | .agg s => litN s fun s => LdW h (.agg s) i o k
  | .one => LdW h .one i o k
  | .bad => False
def sxLoad (P : Program) (t : TypeId) (a : Operand) (tm : T Value) (h : AHeap) (K : OpK) : Prop := sx1 P a tm fun p => ptrW p fun i o => ldShape h (shapeOf P t) i o fun v => K v h
def sxStore (P : Program) (t : TypeId) (a x : Operand) (tm : T Value) (h : AHeap) (K : OpK) : Prop := sx1 P a tm fun p => sx1 P x tm fun v => match szOf P t with
  | some s => bif lenB (cellsL v) s then ptrW p fun i o => StW h i o (cellsL v) fun h' => K undef h' else False
  | none => False
def offW (o off : Nat) (k : Nat → Prop) : Prop := bif Nat.beq off 0 then k o else litN off fun off => k (o + off)
def sxFieldAddr (P : Program) (s : TypeId) (x : Operand) (f : Nat) (tm : T Value) (h : AHeap) (K : OpK) : Prop := match fieldPlaceA P s f with
  | some off => sx1 P x tm fun p => ptrW p fun i o => offW o off fun o' => K (.pointer (some ⟨i, o', none⟩)) h
  | none => False
def elemW (i : Int) (len b o : Nat) (sz : Option Nat) (h : AHeap) (K : OpK) : Prop := match sz with
  | some s => NeedW (0 ≤ i ∧ i < (len : Int)) (bif Nat.beq s 1 then K (.pointer (some ⟨b, o + i.toNat, none⟩)) h else litN s fun s => K (.pointer (some ⟨b, o + i.toNat * s, none⟩)) h)
  | none => False
def sliceW (v : Value) (k : Nat → Nat → Nat → Nat → Prop) : Prop := match v with
  | .slice a len cap => match a with
    | some ad => match ad with
      | ⟨i, o, sp⟩ => match sp with
        | none => k i o len cap
        | some _ => False
    | none => False
  | _ => False
def intW' (v : Value) (k : Int → Prop) : Prop := match v with
  | .int _ n => k n
  | _ => False
def sxIndexAddr (P : Program) (t : TypeId) (x ix : Operand) (tm : T Value) (h : AHeap) (K : OpK) : Prop := sx1 P x tm fun v => sx1 P ix tm fun iv => intW' iv fun i => match tk P t with
  | .slc e => sliceW v fun b o len _ => elemW i len b o (szOf P e) h K
  | .arr n e => ptrW v fun b o => elemW i n b o (szOf P e) h K
  | _ => False
def arW (k : IntKind) (n : Int) (kk : Int → Prop) : Prop := match k with
  | .i64 => ArW n kk
  | k => kk (k.wrap n)
def intBinW (op : BinOp) (k : IntKind) (p q : Int) (dflt : Prop) (kk : Value → Prop) : Prop := match op with
  | .add => arW k (p + q) fun n => kk (.int k n)
  | .sub => arW k (p - q) fun n => kk (.int k n)
  | .mul => arW k (p * q) fun n => kk (.int k n)
  | .eql => kk (.bool (decide (p = q)))
  | .neq => kk (.bool (!decide (p = q)))
  | .lss => kk (.bool (decide (p < q)))
  | .leq => kk (.bool (decide (p ≤ q)))
  | .gtr => kk (.bool (decide (q < p)))
  | .geq => kk (.bool (decide (q ≤ p)))
  | _ => dflt
def strBinW (op : BinOp) (s t : List UInt8) (dflt : Prop) (kk : Value → Prop) : Prop := match op with
  | .add => NeedW (s.length + t.length ≤ 9223372036854775807) (kk (.string ⟨⟨s ++ t⟩⟩))
  | .eql => kk (.bool (decide (s = t)))
  | .neq => kk (.bool (!decide (s = t)))
  | .lss => kk (.bool (ltBytes s t))
  | _ => dflt
/-- structs compared -/
inductive EqW (P : Program) (t : TypeId) (x y : Value) (kk : Bool → Prop) (dflt : Prop) : Prop where
  | mk (b : Bool) (hg : P.eqGuardType P.depth t = false) (he : eqV P 20 t x y = some b) (hk : kk b)
  | other (hd : dflt)
def aggW (P : Program) (op : BinOp) (t : TypeId) (x y : Value) (dflt : Prop) (kk : Value → Prop) : Prop := match op with
  | .eql => EqW P t x y (fun b => kk (.bool b)) dflt
  | .neq => EqW P t x y (fun b => kk (.bool (!b))) dflt
  | _ => dflt
def binW (P : Program) (op : BinOp) (t : TypeId) (a b : Value) (o : Oper) (tm : T Value) (h : AHeap) (K : OpK) : Prop := match a with
  | .int k p => match b with
    | .int k' q => bif sameKind k k' then intBinW op k p q (OpW (orGen (binVal P op t (.int k p) (.int k' q)) P o tm h) K) (fun v => K v h) else False
    | _ => False
  | .string ⟨⟨s⟩⟩ => match b with
    | .string ⟨⟨u⟩⟩ => strBinW op s u (OpW (orGen (binVal P op t (.string ⟨⟨s⟩⟩) (.string ⟨⟨u⟩⟩)) P o tm h) K) fun v => K v h
    | _ => False
  | .agg xs => aggW P op t (.agg xs) b (OpW (orGen (binVal P op t (.agg xs) b) P o tm h) K) fun v => K v h
  | a => OpW (orGen (binVal P op t a b) P o tm h) K
def sxBin (P : Program) (op : BinOp) (t : TypeId) (x y : Operand) (o : Oper) (tm : T Value) (h : AHeap) (K : OpK) : Prop := sx1 P x tm fun a => sx1 P y tm fun b => binW P op t a b o tm h K
def sxConvert (P : Program) (s d : TypeId) (x : Operand) (o : Oper) (tm : T Value) (h : AHeap) (K : OpK) : Prop := sx1 P x tm fun v => match v with
  | .int _ n => match tk P d with
    | .int k => match tk P s with
      | .int _ => arW k n fun m => K (.int k m) h
      | _ => OpW (gen P o tm h) K
    | _ => OpW (gen P o tm h) K
  | v => OpW (convTo P s d v o tm h) K
def optW (P : Program) (tm : T Value) (x : Option Operand) (k : Option Value → Prop) : Prop := match x with
  | none => k none
  | some x => sx1 P x tm fun v => k (some v)
def cutW (s : List UInt8) (lo hi : Option Value) (h : AHeap) (K : OpK) : Prop := match lo with
  | none => match hi with
    | none => K (.string ⟨⟨s⟩⟩) h
    | some u => intW' u fun u => NeedW (0 ≤ u ∧ u ≤ (s.length : Int)) (K (.string ⟨⟨s.take u.toNat⟩⟩) h)
  | some l => intW' l fun l => match hi with
    | none => NeedW (0 ≤ l ∧ l ≤ (s.length : Int)) (K (.string ⟨⟨s.drop l.toNat⟩⟩) h)
    | some u => intW' u fun u => NeedW (0 ≤ l ∧ l ≤ u ∧ u ≤ (s.length : Int)) (K (.string ⟨⟨(s.drop l.toNat).take (u.toNat - l.toNat)⟩⟩) h)
def sxSlice (P : Program) (t : TypeId) (x : Operand) (lo hi mx : Option Operand) (tm : T Value) (h : AHeap) (K : OpK) : Prop := match mx with
  | some m => sx1 P x tm fun v => optW P tm lo fun l => optW P tm hi fun u => match hi with
    | some _ => sx1 P m tm fun mv => OpW (keepO (sliceMax P t v l u mv) h) K
    | none => False
  | none => sx1 P x tm fun v => optW P tm lo fun l => optW P tm hi fun u => match v with
    | .string ⟨⟨s⟩⟩ => match tk P t with
      | .str => cutW s l u h K
      | _ => False
    | v => OpW (keepO (sliceA P t v l u h) h) K
def sxIndex (P : Program) (t : TypeId) (x ix : Operand) (tm : T Value) (h : AHeap) (K : OpK) : Prop := sx1 P x tm fun v => sx1 P ix tm fun iv => match v with
  | .string ⟨⟨s⟩⟩ => match tk P t with
    | .str => intW' iv fun i => NeedW (0 ≤ i ∧ i < (s.length : Int)) (K (.int .u8 ((s.getD i.toNat 0).toNat : Int)) h)
    | _ => False
  | v => OpW (keepO (indexA P t v iv) h) K
def sxUn (P : Program) (op : UnOp) (x : Operand) (o : Oper) (tm : T Value) (h : AHeap) (K : OpK) : Prop := match op with
  | .not => sx1 P x tm fun v => match v with
    | .bool b => K (.bool (!b)) h
    | _ => False
  | _ => OpW (gen P o tm h) K
def sxLen (P : Program) (t : TypeId) (v : Value) (o : Oper) (tm : T Value) (h : AHeap) (K : OpK) : Prop := match v with
  | .string ⟨⟨s⟩⟩ => (match tk P t with | .str => K (.int .i64 (s.length : Int)) h | _ => False)
  | .slice _ n _ => (match tk P t with | .slc _ => K (.int .i64 (n : Int)) h | _ => False)
  | v => OpW (orGen (lenOp P t v h) P o tm h) K
def sxArg1 (P : Program) (args : List Operand) (tm : T Value) (k : Value → Prop) : Prop := match args with
  | [] => False
  | x :: rest => match rest with
    | [] => sx1 P x tm k
    | _ :: _ => False
def sxArg2 (P : Program) (args : List Operand) (tm : T Value) (k : Value → Value → Prop) : Prop := match args with
  | [] => False
  | x :: rest => sx1 P x tm fun v => sxArg1 P rest tm fun w => k v w
def sxBuiltin (P : Program) (b : Builtin) (args : Array Operand) (ts : Array TypeId) (o : Oper) (tm : T Value) (h : AHeap) (K : OpK) : Prop := match b with
  | .len => match nthL 0 ts.toList with
    | some t => sxArg1 P args.toList tm fun v => sxLen P t v o tm h K
    | none => False
  | .append => match nthL 0 ts.toList with
    | some t => match nthL 1 ts.toList with
      | some u => sxArg2 P args.toList tm fun s x => OpW (appendA P t u s x h) K
      | none => False
    | none => False
  | .copy => match nthL 0 ts.toList with
    | some t => sxArg2 P args.toList tm fun d x => OpW (copyA P t d x h) K
    | none => False
  | b => OpW (opBuiltin b args ts P o tm h) K
def sxArgs (P : Program) (tm : T Value) (l : List Operand) (k : List Value → Prop) : Prop := List.rec (motive := fun _ => (List Value → Prop) → Prop) (fun k => k []) (fun x _ r k => sx1 P x tm fun v => r fun vs => k (v :: vs)) l k
def litW (P : Program) (e : TypeId) (len : Nat) (z : Value) (parts : List (Nat × Value)) (h : AHeap) (K : OpK) : Prop := match szOf P e with
  | some s => bif Nat.ble (len * s) 4096 && lenB (cellsL z) s then match fillL (arrPlace s) (repL len (cellsL z)) parts with
      | some c => K (.slice (some ⟨h.next, 0, none⟩) len len) (h.push (.cells c e true true))
      | none => False
    else False
  | none => False
def sxBuildSlice (P : Program) (t : TypeId) (len : Nat) (parts : Array (Nat × Operand)) (tm : T Value) (h : AHeap) (K : OpK) : Prop := match tk P t with
  | .slc e => sxArgs P tm (parts.toList.map (·.2)) fun vs => match zeroV P e with
    | some z => litW P e len z (zipParts parts.toList vs) h K
    | none => False
  | _ => False
def sxMakeMap (P : Program) (t : TypeId) (r : Option Operand) (tm : T Value) (h : AHeap) (K : OpK) : Prop := match tk P t with
  | .map _ _ => bif hintOk P tm r then K (.map (some h.next)) (h.push (.map [] 0)) else False
  | _ => False
def outV (c : Option Whom) (h : AHeap) : Out := match c with
  | some c => match c with
    | .value v => some (v, h)
    | _ => none
  | none => none
def sxWhomFn (P : Program) (orc : Orc) (g : FuncId) (args : List Value) (h : AHeap) (K : OpK) : Prop :=
  bif isGo P g then CallW P orc g args h K else OpW (outV (externV P h g args) h) K
def sxWhom (P : Program) (orc : Orc) (f : Value) (vs : List Value) (h : AHeap) (K : OpK) : Prop := match f with
  | .func fn first cap => match fn with
    | .func g => sxWhomFn P orc g (first.toList ++ (vs ++ cap.toList)) h K
    | .yield l => RoundW P orc l (first.toList ++ vs) h K
    | _ => False
  | _ => False
def ifaceW (v : Value) (k : TypeId → Value → Prop) : Prop := match v with
  | .iface t u => k t u
  | _ => False
def sxCall (P : Program) (orc : Orc) (c : Call) (o : Oper) (tm : T Value) (h : AHeap) (K : OpK) : Prop := match c.callee with
  | .builtin b => sxBuiltin P b c.args c.argTypes o tm h K
  | .value f => sx1 P f tm fun fv => sxArgs P tm c.args.toList fun vs => sxWhom P orc fv vs h K
  | .invoke r name => sx1 P r tm fun rv => sxArgs P tm c.args.toList fun vs => ifaceW rv fun t u => match methodA P t name with
    | some g => sxWhomFn P orc g (u :: vs) h K
    | none => False
def sxDflt (op : Op) (P : Program) (o : Oper) (tm : T Value) (h : AHeap) (K : OpK) : Prop := OpW (evOper op ihNone P o tm h) K
abbrev SxF := Program → Orc → Oper → T Value → AHeap → OpK → Prop
def sxOper (op : Op) : SxF := Op.rec (motive := fun _ => SxF)
    (fun x => fun P _ _ tm h K => sxMove P x tm h K)
    (fun x => fun P _ _ tm h K => sxMove P x tm h K)
    (fun c a b => fun P _ _ tm h K => sxPick P c a b tm h K)
    (fun e => fun P _ _ _ h K => sxAlloc P e h K)
    (fun e x => fun P _ _ tm h K => sxBox P e x tm h K)
    (fun t ps => fun P _ o tm h K => OpW (opBuild t ps P o tm h) K)
    (fun t n ps => fun P _ _ tm h K => sxBuildSlice P t n ps tm h K)
    (fun t m k x => fun P _ o tm h K => OpW (opMapUpdate t m k x P o tm h) K)
    (fun t a => fun P _ _ tm h K => sxLoad P t a tm h K)
    (fun t a x => fun P _ _ tm h K => sxStore P t a x tm h K)
    (fun _ => fun _ _ _ _ _ _ => False)
    (fun _ => fun _ _ _ _ _ _ => False)
    (fun x => fun P _ o tm h K => OpW (opNilCheck x P o tm h) K)
    (fun b t x y _ => fun P _ o tm h K => sxBin P b t x y o tm h K)
    (fun b _ x => fun P _ o tm h K => sxUn P b x o tm h K)
    (fun s d x => fun P _ o tm h K => sxConvert P s d x o tm h K)
    (fun _ _ => fun _ _ _ _ _ _ => False)
    (fun t x => fun P _ o tm h K => OpW (opMakeIface t x P o tm h) K)
    (fun fn a b => fun P _ o tm h K => OpW (opMakeFunc fn a b P o tm h) K)
    (fun t r => fun P _ _ tm h K => sxMakeMap P t r tm h K)
    (fun _ _ => fun _ _ _ _ _ _ => False)
    (fun t l c => fun P _ o tm h K => OpW (opMakeSlice t l c P o tm h) K)
    (fun t x lo hi mx => fun P _ _ tm h K => sxSlice P t x lo hi mx tm h K)
    (fun s x f => fun P _ _ tm h K => sxFieldAddr P s x f tm h K)
    (fun t x f => fun P _ o tm h K => OpW (opField t x f P o tm h) K)
    (fun t x i => fun P _ _ tm h K => sxIndexAddr P t x i tm h K)
    (fun t x i => fun P _ _ tm h K => sxIndex P t x i tm h K)
    (fun t x k ok => fun P _ o tm h K => OpW (opLookup t x k ok P o tm h) K)
    (fun t m k x => fun P _ o tm h K => OpW (opMapUpdate t m k x P o tm h) K)
    (fun _ _ _ => fun _ _ _ _ _ _ => False)
    (fun _ _ _ _ => fun _ _ _ _ _ _ => False)
    (fun _ _ => fun _ _ _ _ _ _ => False)
    (fun _ _ => fun _ _ _ _ _ _ => False)
    (fun _ => fun _ _ _ _ _ _ => False)
    (fun x _ a ok => fun P _ o tm h K => OpW (opAssert x a ok P o tm h) K)
    (fun x i => fun P _ o tm h K => OpW (opExtract x i P o tm h) K)
    (fun c => fun P orc o tm h K => sxCall P orc c o tm h K)
    (fun _ => fun _ _ _ _ _ _ => False)
    (fun _ => fun _ _ _ _ _ _ => False)
    (fun _ => fun _ _ _ _ _ _ => False)
    (fun _ _ => fun _ _ _ _ _ _ => False)
    (fun _ _ _ => fun _ _ _ _ _ _ => False)
    (fun _ _ => fun _ _ _ _ _ _ => False) op

/-! ### Regions -/
def putW (n : Nat) (tm : T Value) (dst : Option Tmp) (v : Value) (k : T Value → Prop) : Prop :=
  Option.rec (motive := fun _ => Prop) (k tm) (fun d => Bool.rec (motive := fun _ => Prop) False (T.setK v tm d k) (Nat.blt d n)) dst
/-- a guard: behind the branch the temporary holds the answer itself -/
def guardB (want : Bool) (run skip : T Value → Prop) (tm : T Value) (t : Nat) (b : Bool) : Prop :=
  CondW b (T.setK (.bool true) tm t fun tm' => bif want then run tm' else skip tm') (T.setK (.bool false) tm t fun tm' => bif want then skip tm' else run tm')
def guardV (want : Bool) (run skip : T Value → Prop) (tm : T Value) (t : Nat) (v : Value) : Prop := match v with
  | .bool b => guardB want run skip tm t b
  | _ => False
/-- the same, where the answer is known -/
def guardL (want : Bool) (run skip : T Value → Prop) (tm : T Value) (v : Value) : Prop := match v with
  | .bool b => Bool.rec (motive := fun _ => Prop) (bif want then skip tm else run tm) (bif want then run tm else skip tm) b
  | _ => False
/-- dec: the operations whose answers a branch has told -/
def guardW (ops : List Oper) (dec : List Nat) (tm : T Value) (g : Option (Nat × Bool)) (run skip : List Nat → T Value → Prop) : Prop := match g with
  | none => run dec tm
  | some jw => match dstOf ops jw.1 with
    | some t => bif memN jw.1 dec then Option.rec (motive := fun _ => Prop) False (guardL jw.2 (run dec) (skip dec) tm) (tm.get t)
      else Option.rec (motive := fun _ => Prop) False (guardV jw.2 (run (jw.1 :: dec)) (skip (jw.1 :: dec)) tm t) (tm.get t)
    | none => False
def sxStep (P : Program) (orc : Orc) (ops : List Oper) (n : Nat) (o : Oper) (dec : List Nat) (tm : T Value) (h : AHeap) (k : List Nat → T Value → AHeap → Prop) : Prop :=
  guardW ops dec tm o.guard (fun dec tm => sxOper o.op P orc o tm h fun v h' => putW n tm o.dst v fun tm' => k dec tm' h') (fun dec tm => putW n tm o.dst undef fun tm' => k dec tm' h)
def sxOps (P : Program) (orc : Orc) (ops : List Oper) (n : Nat) (l : List Oper) : List Nat → T Value → AHeap → (T Value → AHeap → Prop) → Prop :=
  List.rec (motive := fun _ => List Nat → T Value → AHeap → (T Value → AHeap → Prop) → Prop) (fun _ tm h k => k tm h)
    (fun o _ r dec tm h k => sxStep P orc ops n o dec tm h fun dec' tm' h' => r dec' tm' h' k) l

/-- a read, and the heap in which it was met -/
structure MetC where
  m : Met
  cur : Nat
def holdW1 (P : Program) (m : MetC) (rest : Prop) (hs : List AHeap) (k : Nat) : Prop :=
  List.rec (motive := fun _ => Nat → Prop) (fun _ => rest)
    (fun H _ r k => Bool.rec (motive := fun _ => Prop) (r (k + 1)) (SameW (evOper m.m.o.op ihNone P m.m.o m.m.tm H) m.m.v (r (k + 1))) (Nat.ble m.m.lo k && Nat.ble k m.m.hi && !Nat.beq k m.cur)) hs k
def holdW (P : Program) (hs : List AHeap) (rest : Prop) (ms : List MetC) : Prop :=
  List.rec (motive := fun _ => Prop) rest (fun m _ r => holdW1 P m r hs 0) ms
def noteW (P : Program) (ops : List Oper) (b : List Nat) (i : Nat) (o : Oper) (w : Bool) (tm : T Value) (v : Value) (h : AHeap) (hs : List AHeap) (ms : List MetC) (cur : Nat) (k : List AHeap → List MetC → Nat → Prop) : Prop := match kindOf P o with
  | .eff => k (h :: hs) ms (Nat.succ cur)
  | .read => bif w then forceNat (loOf P ops b i) fun lo => forceNat (hiOf P ops b i) fun hi => k hs (⟨⟨o, tm, v, lo, hi⟩, cur⟩ :: ms) cur else k hs ms cur
  | .pure => k hs ms cur
def sxText (P : Program) (orc : Orc) (ops : List Oper) (b : List Nat) (n : Nat) (k : T Value → AHeap → Prop) (l : List Oper) : Nat → List Nat → T Value → AHeap → List AHeap → List MetC → Nat → Prop :=
  List.rec (motive := fun _ => Nat → List Nat → T Value → AHeap → List AHeap → List MetC → Nat → Prop)
    (fun _ _ tm h hs ms _ => holdW P hs.reverse (k tm h) ms)
    (fun o _ r i dec tm h hs ms cur => guardW ops dec tm o.guard
      (fun dec tm => sxOper o.op P orc o tm h fun v h' => putW n tm o.dst v fun tm' => noteW P ops b i o true tm v h' hs ms cur (r (i + 1) dec tm' h'))
      (fun dec tm => putW n tm o.dst undef fun tm' => noteW P ops b i o false tm undef h hs ms cur (r (i + 1) dec tm' h))) l
/-- every read stands where it is, whatever the order -/
def stable (P : Program) (ops : List Oper) : Bool :=
  let b := befs ops []
  forallIdx (fun i o => match kindOf P o with
    | .read => Nat.beq (loOf P ops b i) (countEff P (fun e => Nat.blt e i) ops 0) && Nat.beq (hiOf P ops b i) (countEff P (fun e => Nat.blt e i) ops 0)
    | _ => true) ops 0
/-- a region that draws its order -/
inductive DrawW (P : Program) (orc : Orc) (ops : List Oper) (n : Nat) (tm : T Value) (h : AHeap) (k : T Value → AHeap → Prop) : Prop where
  | easy (hd : drawOk P ops = true) (he : stable P ops = true) (hs : sxOps P orc ops n ops [] tm h k)
  | full (b : List Nat) (hd : drawOk P ops = true) (hb : befs ops [] = b) (hs : sxText P orc ops b n k ops 0 [] tm h [h] [] 0)

/-! ### Code -/
abbrev SxC := Program → Orc → Nat → Option Nat → T Value → List Nat → AHeap → CodeK → Prop
def seqK (b : T Value → List Nat → AHeap → Prop) (K : CodeK) : CodeK := fun e tm mk h =>
  AExit.rec (motive := fun _ => Prop) (b tm mk h) (fun id => K (.exit id) tm mk h) (fun l => K (.goto l) tm mk h) (K .ret tm mk h) e
def blockK (id : Nat) (K : CodeK) : CodeK := fun e tm mk h =>
  AExit.rec (motive := fun _ => Prop) (K .normal tm mk h) (fun id' => bif Nat.beq id' id then K .normal tm mk h else K (.exit id') tm mk h) (fun l => K (.goto l) tm mk h) (K .ret tm mk h) e
def condV (v : Value) (p q : Prop) : Prop := match v with
  | .bool b => CondW b p q
  | _ => False
def sx (c : Code) : SxC := Code.rec (motive := fun _ => SxC)
  (fun _ _ _ _ tm mk h K => K .normal tm mk h)
  (fun _ ops draw P orc n _ tm mk h K => bif draw then DrawW P orc ops.toList n tm h fun tm' h' => K .normal tm' mk h' else sxOps P orc ops.toList n ops.toList [] tm h fun tm' h' => K .normal tm' mk h')
  (fun _ _ ra rb P orc n ro tm mk h K => ra P orc n ro tm mk h (seqK (fun tm' mk' h' => rb P orc n ro tm' mk' h' K) K))
  (fun x _ _ rt re P orc n ro tm mk h K => sx1 P x tm fun v => condV v (rt P orc n ro tm mk h K) (re P orc n ro tm mk h K))
  (fun id _ rb P orc n ro tm mk h K => rb P orc n ro tm mk h (blockK id K))
  (fun b _ P orc n ro tm mk h K => LoopW P orc b n ro tm mk h K)
  (fun g ps a b _ _ P orc n ro tm mk h K => RangeW P orc g ps a b n ro tm mk h K)
  (fun id _ _ _ _ tm mk h K => K (.exit id) tm mk h)
  (fun _ _ _ _ _ _ _ _ _ _ => False)
  (fun _ _ _ _ _ tm mk h K => K .normal tm mk h)
  (fun l _ _ _ _ tm mk h K => K (.goto l) tm mk h)
  (fun _ _ _ _ tm mk h K => K .ret tm mk h)
  (fun _ _ _ _ _ _ _ _ _ => False) c

/-! ### A call -/
def initW (l : List Value) : Nat → T Value → (T Value → Prop) → Prop :=
  List.rec (motive := fun _ => Nat → T Value → (T Value → Prop) → Prop) (fun _ tm k => k tm) (fun v _ r i tm k => T.setK v tm i fun tm' => r (i + 1) tm' k) l
/-- the results, as the frame has them -/
def retsW (P : Program) (tm : T Value) (h : AHeap) (rs : List ResultVar) : (List Value → Prop) → Prop :=
  List.rec (motive := fun _ => (List Value → Prop) → Prop) (fun k => k [])
    (fun x _ r k => match x with
      | .tmp t => Option.rec (motive := fun _ => Prop) (r fun vs => k (undef :: vs)) (fun v => r fun vs => k (v :: vs)) (tm.get t)
      | .cell a t => Option.rec (motive := fun _ => Prop) False (fun p => ptrW p fun i o => ldShape h (shapeOf P t) i o fun v => r fun vs => k (v :: vs)) (tm.get a)) rs
inductive ShutW (mk : List Nat) (h : AHeap) (k : AHeap → Prop) : Prop where
  | mk (h' : AHeap) (hs : ∀ q : AHeap → Option Res, shutAll mk h q = q h') (hk : k h')
def shutW (mk : List Nat) (h : AHeap) (k : AHeap → Prop) : Prop := match mk with
  | [] => k h
  | m :: ms => ShutW (m :: ms) h k
def leaveW (P : Program) (rs : List ResultVar) (K : OpK) : CodeK := fun e tm mk h => bif isLeave e then shutW mk h fun h' => retsW P tm h' rs fun vs => K (oneOrAll vs) h' else False
def fnW (P : Program) (orc : Orc) (fn : Func) (args : List Value) (h : AHeap) (K : OpK) : Prop := match fn.body with
  | some c => bif Nat.ble args.length fn.ntmps then initW args 0 (blank (Nat.log2 fn.ntmps + 1)) fun tm0 => sx c P orc fn.ntmps none tm0 [] h (leaveW P fn.results.toList K) else False
  | none => False
def callW (P : Program) (orc : Orc) (f : FuncId) (args : List Value) (h : AHeap) (K : OpK) : Prop := match P.funcs[f]? with
  | some fn => fnW P orc fn args h K
  | none => False
end
end Go.Ev
